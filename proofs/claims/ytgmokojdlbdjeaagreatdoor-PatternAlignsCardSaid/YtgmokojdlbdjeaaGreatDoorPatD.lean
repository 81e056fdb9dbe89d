/-
  THE PROGRAM: the table of a plane.
-/
import Derived.Test.YtgmokojdlbdjeaaGreatDoorPatC
import Derived.Test.YtgmokojdlbdjeaaGreatDoorOwn
import Derived.Test.YtgmokojdlbdjeaaGreatDoorRegM
namespace Go.Proofs.YtgmokojdlbdjeaaGreatDoor
open Go.RowKit
attribute [local go_sem] sub_cell sub_frozen
/-- The first t cells of a table of width a. -/
def tabN (F : Int → Int → Int) (a : Nat) (t : Nat) : List Int := (List.range t).map fun j => F ((j % a : Nat) : Int) ((j / a : Nat) : Int)
theorem tabN_length (F : Int → Int → Int) (a t : Nat) : (tabN F a t).length = t := by simp [tabN]
theorem tabN_step {F : Int → Int → Int} {a k i : Nat} (hi : i < a) : tabN F a (k * a + (i + 1)) = tabN F a (k * a + i) ++ [F (i : Int) (k : Int)] := by
  unfold tabN
  rw [← Nat.add_assoc, List.range_succ, List.map_append, List.map_cons, List.map_nil]
  have e1 : (k * a + i) % a = i := by rw [Nat.mul_comm, Nat.mul_add_mod]; exact Nat.mod_eq_of_lt hi
  have e2 : (k * a + i) / a = k := by rw [Nat.mul_comm, Nat.mul_add_div (by omega)]; rw [Nat.div_eq_of_lt hi]; rfl
  rw [e1, e2]
theorem PBox.set {w : World} {bx : Nat} {a b c : Int} {s : Value} (h : PBox w bx a b c s) (s' : Value) : PBox (w.setCell ⟨bx, 3, none⟩ s') bx a b c s' := by
  obtain ⟨hg, he⟩ := Array.getElem?_eq_some_iff.1 h
  unfold PBox
  simp [World.setCell, hg, Array.getElem_modify, he]
theorem PBox.other {w : World} {bx : Nat} {a b c : Int} {s : Value} (h : PBox w bx a b c s) {p : Addr} (hp : bx ≠ p.block) (u : Value) : PBox (w.setCell p u) bx a b c s := (Below.heap_setCell w p u bx hp).trans h
theorem PlBox.other {w : World} {bx : Nat} {a b c : Int} {s : Value} (h : PlBox w bx a b c s) {p : Addr} (hp : bx ≠ p.block) (u : Value) : PlBox (w.setCell p u) bx a b c s := (Below.heap_setCell w p u bx hp).trans h
def set4 (w : World) (bx : Nat) (a b c : Int) (s : Value) : World := (((w.setCell ⟨bx, 0, none⟩ (.int .i64 a)).setCell ⟨bx, 1, none⟩ (.int .i64 b)).setCell ⟨bx, 2, none⟩ (.int .i64 c)).setCell ⟨bx, 3, none⟩ s
theorem PBox.put {w : World} {bx : Nat} {a b c : Int} {s : Value} (h : PBox w bx a b c s) (a' b' c' : Int) (s' : Value) : PBox (set4 w bx a' b' c' s') bx a' b' c' s' := by
  obtain ⟨hg, he⟩ := Array.getElem?_eq_some_iff.1 h
  unfold PBox set4
  simp [World.setCell, hg, Array.getElem_modify, he]
theorem set4_grown (w : World) (bx : Nat) (a b c : Int) (s : Value) : w.grownBy (set4 w bx a b c s) (some bx) := by
  refine ⟨rfl, rfl, rfl, by simp [set4, World.setCell], fun q _ hne => ?_⟩
  have hq : q ≠ bx := fun e => hne (by rw [e])
  unfold set4
  exact (Below.heap_setCell _ ⟨bx, 3, none⟩ _ q hq).trans ((Below.heap_setCell _ ⟨bx, 2, none⟩ _ q hq).trans ((Below.heap_setCell _ ⟨bx, 1, none⟩ _ q hq).trans (Below.heap_setCell _ ⟨bx, 0, none⟩ _ q hq)))
theorem patSz (a b c : Int) (s : Value) : (Tryz.prog.info? 24).map (·.size) = some (#[Value.int .i64 a, .int .i64 b, .int .i64 c, s] : Array Value).size := by
  have h : (Tryz.prog.info? 24).map (·.size) = some 4 := by kernel_rfl
  exact h
theorem ret_pat {w : World} {bx : Nat} {a b c : Int} {s : Value} {tmps : Array Value} {fn : Func} {p : Tmp} (h : fn.results = #[.cell p 24]) (hp : tmps.getD p undef = .pointer (some ⟨bx, 0, none⟩)) (hg : PBox w bx a b c s) : (results fn tmps).run Tryz.prog w = .ok (.agg #[.int .i64 a, .int .i64 b, .int .i64 c, s]) w :=
  results_cell_row h _ _ bx 24 _ (0, 0) _ hp hg Tryz.underlying24 rfl (patSz a b c s)
theorem ret_pat2 {w : World} {bx : Nat} {a b c : Int} {s z : Value} {tmps : Array Value} {fn : Func} {p q : Tmp} (h : fn.results = #[.cell p 24, .tmp q]) (hp : tmps.getD p undef = .pointer (some ⟨bx, 0, none⟩)) (hq : tmps.getD q undef = z) (hg : PBox w bx a b c s) : (results fn tmps).run Tryz.prog w = .ok (.tuple #[.agg #[.int .i64 a, .int .i64 b, .int .i64 c, s], z]) w := by
  have hp' : tmps[p]?.getD undef = .pointer (some ⟨bx, 0, none⟩) := by simpa using hp
  have hq' : tmps[q]?.getD undef = z := by simpa using hq
  simp [results, h, hp', hq', asAddr, run_loadVar_row w bx 24 24 _ (0, 0) _ hg Tryz.underlying24 rfl (patSz a b c s)]
/-- The world in the loops of table. -/
structure TW (w wr : World) (B pb rb ob : Nat) (a0 b0 c0 a b c : Int) (fv v : Value) (zs : List Int) : Prop where
  p : PlBox wr pb a0 b0 c0 fv
  r : PBox wr rb 0 0 0 (.slice none 0 0)
  o : PBox wr ob a b c v
  own : OwnI wr B v zs
  below : Below w.heap.size w wr
  pB : pb < B
  rB : rb < B
  oB : ob < B
  po : pb ≠ ob
  ro : rb ≠ ob
  wo : w.heap.size ≤ ob
  wr' : w.heap.size ≤ rb
  sz : B ≤ wr.heap.size
  wB : w.heap.size ≤ B
theorem TW.start (w : World) (a0 b0 c0 a b c : Int) (fv : Value) (F : Int → Int → Int) (n : Nat) :
    TW w (((w.alloc (.cells #[.int .i64 a0, .int .i64 b0, .int .i64 c0, fv] 61)).alloc (.cells #[.int .i64 0, .int .i64 0, .int .i64 0, .slice none 0 0] 24)).alloc (.cells #[.int .i64 a, .int .i64 b, .int .i64 c, .slice none 0 0] 24))
      (w.heap.size + 1 + 1 + 1) w.heap.size (w.heap.size + 1) (w.heap.size + 1 + 1) a0 b0 c0 a b c fv (.slice none 0 0) (tabN F n 0) := by
  refine ⟨?_, ?_, ?_, OwnI.nil _ _, (by repeat' (first | (with_reducible exact Below.refl _ _) | (with_reducible assumption) | (with_reducible refine below_drewN ?_ _) | (with_reducible refine below_step (by assumption) ?_ ?_) | (with_reducible refine Below.alloc ?_ ?_ _) | (with_reducible refine Below.setCell ?_ ?_ _) | (with_reducible refine Below.drew ?_) | go_size | (exact Below.size (by assumption)) | (refine Nat.le_trans (Below.size (by assumption)) ?_))), by omega, by omega, by omega, by omega, by omega, by omega, by omega, by simp, by omega⟩
  · exact (heap_alloc_old _ _ (by simp; omega)).trans ((heap_alloc_old _ _ (by simp)).trans (heap_alloc_new w _))
  · have := heap_alloc_new (w.alloc (.cells #[.int .i64 a0, .int .i64 b0, .int .i64 c0, fv] 61)) (.cells #[.int .i64 0, .int .i64 0, .int .i64 0, .slice none 0 0] 24)
    exact (heap_alloc_old _ _ (by simp)).trans (by simpa using this)
  · have := heap_alloc_new ((w.alloc (.cells #[.int .i64 a0, .int .i64 b0, .int .i64 c0, fv] 61)).alloc (.cells #[.int .i64 0, .int .i64 0, .int .i64 0, .slice none 0 0] 24)) (.cells #[.int .i64 a, .int .i64 b, .int .i64 c, .slice none 0 0] 24)
    unfold PBox
    simpa using this
theorem TW.step {w wr w' : World} {B pb rb ob : Nat} {a0 b0 c0 a b c : Int} {fv v v' : Value} {zs zs' : List Int} (h : TW w wr B pb rb ob a0 b0 c0 a b c fv v zs) (hb : Below B wr w') (ho : OwnI w' B v' zs') : TW w (w'.setCell ⟨ob, 3, none⟩ v') B pb rb ob a0 b0 c0 a b c fv v' zs' := by
  have hgr : w'.grownBy (w'.setCell ⟨ob, 3, none⟩ v') (some ob) := ⟨rfl, rfl, rfl, by simp [World.setCell], fun q _ hne => Below.heap_setCell w' ⟨ob, 3, none⟩ _ q (fun e => hne (by rw [e]))⟩
  refine ⟨PlBox.other (w := w') ((hb.block _ h.pB).trans h.p) (p := ⟨ob, 3, none⟩) h.po _, PBox.other (w := w') ((hb.block _ h.rB).trans h.r) (p := ⟨ob, 3, none⟩) h.ro _, PBox.set (w := w') ((hb.block _ h.oB).trans h.o) _, ho.grown hgr ?_, (h.below.trans (hb.mono h.wB)).setCell h.wo _, h.pB, h.rB, h.oB, h.po, h.ro, h.wo, h.wr', by simpa [World.setCell] using Nat.le_trans h.sz hb.size, h.wB⟩
  rcases hv : v'.ownBlock with _ | g
  · exact .inl rfl
  · exact .inr (fun e => by have := ho.lt' g hv; have := h.oB; cases e; omega)
attribute [local irreducible] plainUpon stepC
set_option maxRecDepth 100000 in
set_option maxHeartbeats 1000000 in
theorem table_any (F : Int → Int → Int) (a0 b0 c0 : Int) (fv : Value) (a c : Nat) (b : Int) (ha : a ≤ 100000) (hc : c ≤ 100000) (hac : a * c ≤ 1000000) (w : World) (hF : FunV w fv F 50000000) :
    Calls Tryz.prog 92 #[.agg #[.int .i64 a0, .int .i64 b0, .int .i64 c0, fv], .int .i64 a, .int .i64 b, .int .i64 c] w fun e w' => ∃ v, e = .returned (.agg #[.int .i64 a, .int .i64 b, .int .i64 c, v]) ∧ OwnI w' w.heap.size v (tabN F a (a * c)) ∧ Below w.heap.size w w' := by
  obtain ⟨id, caps, rfl, hcf, hcall⟩ := hF
  have HF := Lib.hid hcall
  clear hcall
  go_enter Tryz.func92, Tryz.ntmps92
  go_upto_region 2 with fail
  have T0 := Lib.hid (TW.start w a0 b0 c0 a b c (.func (.func id) #[] caps) F a)
  obtain ⟨W, hW⟩ : ∃ W, W = ((w.alloc (.cells #[.int .i64 a0, .int .i64 b0, .int .i64 c0, .func (.func id) #[] caps] 61)).alloc (.cells #[.int .i64 0, .int .i64 0, .int .i64 0, .slice none 0 0] 24)).alloc (.cells #[.int .i64 a, .int .i64 b, .int .i64 c, .slice none 0 0] 24) := ⟨_, rfl⟩
  rw [← hW] at T0 ⊢
  obtain ⟨ob, hob⟩ : ∃ ob, ob = w.heap.size + 1 + 1 := ⟨_, rfl⟩
  obtain ⟨rb, hrb⟩ : ∃ rb, rb = w.heap.size + 1 := ⟨_, rfl⟩
  obtain ⟨B, hB⟩ : ∃ B, B = w.heap.size + 1 + 1 + 1 := ⟨_, rfl⟩
  rw [← hB, ← hob, ← hrb] at T0
  rw [← hob, ← hrb]
  clear hW hob hrb hB
  go_wp2
  go_loopw [17] (fun t wr => ∃ k : Nat, t = .int .i64 k ∧ k ≤ c ∧ Hid (∃ v, TW w wr B w.heap.size rb ob a0 b0 c0 a b c (.func (.func id) #[] caps) v (tabN F a (k * a)))) (fun t _ => c - (intOf t).toNat)
  case atStart => exact ⟨0, rfl, by omega, Lib.hid ⟨_, by rw [Nat.zero_mul]; exact T0.out⟩⟩
  case round =>
    clear T0
    obtain ⟨k, rfl, hk, hr⟩ := hrel
    by_cases hlt : k < c
    · have R0 := Lib.hid (show ∃ v, TW w wr B w.heap.size rb ob a0 b0 c0 a b c (.func (.func id) #[] caps) v (tabN F a (k * a + 0)) from hr.out)
      clear hr
      go_wp2
      go_loopw [21] (fun t wq => ∃ i : Nat, t = .int .i64 i ∧ i ≤ a ∧ Hid (∃ v, TW w wq B w.heap.size rb ob a0 b0 c0 a b c (.func (.func id) #[] caps) v (tabN F a (k * a + i)))) (fun t _ => a - (intOf t).toNat)
      case atStart => exact ⟨0, rfl, by omega, R0⟩
      case round =>
        clear R0
        obtain ⟨i, rfl, hi, hq⟩ := hrel
        by_cases hil : i < a
        · obtain ⟨v, hT⟩ := hq.out
          have HT := Lib.hid hT
          have hlen : k * a + i ≤ 1000000 := by
            have h1 : (k + 1) * a ≤ c * a := Nat.mul_le_mul_right a (by omega)
            rw [Nat.add_mul, Nat.one_mul, Nat.mul_comm c a] at h1
            omega
          have HTN := Lib.hid (tabN_step (F := F) (k := k) hil)
          obtain ⟨p0, p1, p2, p3, p4⟩ := hT.p.cells
          obtain ⟨o0, o1, o2, o3, o4⟩ := hT.o.cells
          obtain ⟨z, hz⟩ : ∃ z, z = F i k := ⟨_, rfl⟩
          have HZ := Lib.hid hz
          have hpB := hT.pB
          have hoB := hT.oB
          clear hT hq hz
          go_upto_region 8 with fail
          refine region_last1 (C := fun w' => ∃ x : SubW B wr, w' = x.val) [0, 1, 2, 3, 4, 5] [6, 7, 8, 9, 10] 10 (by kernel_rfl) (by kernel_rfl) (sub_start B wr) ?_
          simp only [pickL, List.getElem?_cons_zero, List.getElem?_cons_succ]
          repeat (go_big_quiet_step (fail))
          refine wpQuiet_nil ?_
          obtain ⟨w2, hw2⟩ : ∃ w2 : World, w2 = { wr with drawn := wr.drawn + 1 } := ⟨_, rfl⟩
          rw [← hw2]
          have hb2 : Below wr.heap.size wr w2 := by rw [hw2]; exact (Below.refl _ _).drew
          have hsz := HT.out.sz
          clear hw2
          refine d_call id (#[.int .i64 i, .int .i64 k] ++ caps) rfl (by go_simp) (sub_of (hb2.mono hsz)) ?_
          refine (HF.out w2 (HT.out.below.trans (hb2.mono HT.out.below.size)) i k (by omega) (by omega) (by omega) (by omega)).mono ?_
          rintro e w3 ⟨rfl, hb3⟩
          have hb3' := hb2.trans (hb3.mono hb2.size)
          refine ⟨_, rfl, ?_⟩
          rw [← HZ.out]
          refine d_val (.slice (some ⟨w3.heap.size, 0, none⟩) 1 1) (w3.alloc (.cells #[.int .i64 z] 3)) rfl (by go_simp) (sub_of (hb3'.mono hsz)) ?_
          have hal := (Below.refl w3.heap.size w3).alloc (Nat.le_refl _) (.cells #[.int .i64 z] 3)
          have hb4 := hb3'.trans (hal.mono hb3'.size)
          obtain ⟨v', w5, r1, r2, r3, -⟩ := ap_i64 w3 22 B v _ z (OwnI.keep hb3' HT.out.own) (by rw [tabN_length]; omega) (Nat.le_trans hsz hb3'.size)
          obtain ⟨A5, n5, hv5, -⟩ := r2.isL
          obtain ⟨m5, hm5⟩ : ∃ m5, m5 = (tabN F a (k * a + i) ++ [z]).length := ⟨_, rfl⟩
          rw [← hm5] at hv5
          clear hm5
          subst hv5
          have hb5 := (hb3'.mono hsz).grown r3 (Nat.le_trans hsz hb3'.size) (fun g hg => (HT.out.own.lt' g hg).1)
          refine d_val (.slice A5 _ n5) w5 rfl (ap_exec (.tmp 25) (.tmp 31) 22 rfl v (.slice (some ⟨w3.heap.size, 0, none⟩) 1 1) _ w5 rfl rfl r1) (sub_of (hb4.mono hsz)) ?_
          refine d_val (.pointer (some ⟨ob, 3, none⟩)) w5 rfl (by go_simp) (sub_of hb5) ?_
          have z1 := (hb5.cell (p := ⟨ob, 3, none⟩) hoB).trans o3
          have z2 : w5.frozen? ⟨ob, 3, none⟩ = false := frozen_of_row w5 ob 3 _ _ ((hb5.block _ hoB).trans HT.out.o)
          have T6 := HT.out.step hb5 r2
          rw [HZ.out, ← HTN.out] at T6
          have HT6 := Lib.hid T6
          refine d_skip (w5.setCell ⟨ob, 3, none⟩ (.slice A5 m5 n5)) rfl (by go_simp) (sub_of hb5) ?_
          obtain ⟨w6, hw6⟩ : ∃ w6, w6 = w5.setCell ⟨ob, 3, none⟩ (.slice A5 m5 n5) := ⟨_, rfl⟩
          rw [← hw6] at HT6
          show plainD _ _ _ _ _ _ _
          rw [← hw6]
          clear hw6 T6 z1 z2 hb5 r1 r2 r3 hb4 hal hb3' hb3 hb2 HT o0 o1 o2 o3 o4 p0 p1 p2 p3 p4 hpB hoB
          simp only [plainD]
          go_simp
          go_wp2
          go_roundw
          case rel => exact ⟨i + 1, by go_num, by omega, Lib.hid ⟨_, HT6.out⟩⟩
          case measure => simp [intOf]; omega
        · obtain rfl : i = a := by omega
          have R2 := Lib.hid (show ∃ v, TW w wr B w.heap.size rb ob a0 b0 c0 i b c (.func (.func id) #[] caps) v (tabN F i ((k + 1) * i)) from by rw [Nat.add_mul, Nat.one_mul]; exact hq.out)
          clear hq
          go_wp2
          go_roundw
          case rel => exact ⟨k + 1, by go_num, by omega, R2⟩
          case measure => simp [intOf]; omega
    · obtain rfl : k = c := by omega
      obtain ⟨v, hT⟩ := hr.out
      obtain ⟨A1, n1, rfl, -⟩ := hT.own.isL
      obtain ⟨o0, o1, o2, o3, o4⟩ := hT.o.cells
      obtain ⟨p0, p1, p2, p3, p4⟩ := hT.r.cells
      have f0 : wr.frozen? ⟨rb, 0, none⟩ = false := frozen_of_row wr rb 0 _ _ hT.r
      have f1 : wr.frozen? ⟨rb, 1, none⟩ = false := frozen_of_row wr rb 1 _ _ hT.r
      have f2 : wr.frozen? ⟨rb, 2, none⟩ = false := frozen_of_row wr rb 2 _ _ hT.r
      have f3 : wr.frozen? ⟨rb, 3, none⟩ = false := frozen_of_row wr rb 3 _ _ hT.r
      have HP4 := Lib.hid (hT.r.put (a : Int) b (k : Int) (.slice A1 (tabN F a (k * a)).length n1))
      have hgr := set4_grown wr rb (a : Int) b (k : Int) (.slice A1 (tabN F a (k * a)).length n1)
      have HE := Lib.hid (show OwnI (set4 wr rb (a : Int) b (k : Int) (.slice A1 (tabN F a (k * a)).length n1)) w.heap.size (.slice A1 (tabN F a (k * a)).length n1) (tabN F a (a * k)) ∧ Below w.heap.size w (set4 wr rb (a : Int) b (k : Int) (.slice A1 (tabN F a (k * a)).length n1)) from ⟨by
        rw [Nat.mul_comm a k]
        refine OwnI.down (OwnI.grown hT.own hgr ?_) hT.wB
        rcases hv : (Value.slice A1 (tabN F a (k * a)).length n1).ownBlock with _ | g
        · exact .inl rfl
        · exact .inr (fun e => by have := hT.own.lt' g hv; have := hT.rB; cases e; omega), Below.grown hT.below hgr hT.below.size (fun g e => by cases e; exact hT.wr')⟩)
      clear hT hr hgr
      go_wp2
      refine bodyPost_ret (v := .agg #[.int .i64 a, .int .i64 b, .int .i64 k, .slice A1 (tabN F a (k * a)).length n1]) (ret_pat rfl rfl HP4.out) rfl ⟨_, rfl, HE.out⟩
end Go.Proofs.YtgmokojdlbdjeaaGreatDoor
