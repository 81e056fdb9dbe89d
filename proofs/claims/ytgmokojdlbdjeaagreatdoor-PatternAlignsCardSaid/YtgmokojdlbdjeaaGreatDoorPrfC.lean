/-
  THE REFERENCE: least.
-/
import Derived.Test.YtgmokojdlbdjeaaGreatDoorPrfB
namespace Go.Proofs.YtgmokojdlbdjeaaGreatDoor
open Go.RowKit
attribute [local go_sem] sub_cell sub_frozen
def cellI (w : World) (b i : Nat) : Int := match w.cell? ⟨b, i, none⟩ with | some (.int _ z) => z | _ => 0
/-- The world in the loops of the reference's least: the boxes of the pattern, of the result, of the new pattern. -/
structure RW (w wr : World) (B pb rb ob : Nat) (a b c : Int) (s : Value) (x y z : Int) (v : Value) (zs : List Int) : Prop where
  p : PBox wr pb a b c s
  r : PBox wr rb 0 0 0 (.slice none 0 0)
  o : PBox wr ob x y z v
  own : OwnI wr B v zs
  below : Below w.heap.size w wr
  pB : pb < B
  rB : rb < B
  oB : ob < B
  po : pb ≠ ob
  ro : rb ≠ ob
  wo : w.heap.size ≤ ob
  wr' : w.heap.size ≤ rb
  sz : B ≤ wr.heap.size
  wB : w.heap.size ≤ B
section
variable {w wr w' : World} {B pb rb ob : Nat} {a b c x y z : Int} {s v v' : Value} {zs zs' : List Int}
theorem RW.start (w : World) (a b c : Int) (s : Value) :
    RW w (((w.alloc (.cells #[.int .i64 a, .int .i64 b, .int .i64 c, s] 24)).alloc (.cells #[.int .i64 0, .int .i64 0, .int .i64 0, .slice none 0 0] 24)).alloc (.cells #[.int .i64 1, .int .i64 0, .int .i64 1, .slice none 0 0] 24))
      (w.heap.size + 1 + 1 + 1) w.heap.size (w.heap.size + 1) (w.heap.size + 1 + 1) a b c s 1 0 1 (.slice none 0 0) [] := by
  refine ⟨?_, ?_, ?_, OwnI.nil _ _, (by repeat' (first | (with_reducible exact Below.refl _ _) | (with_reducible assumption) | (with_reducible refine below_drewN ?_ _) | (with_reducible refine below_step (by assumption) ?_ ?_) | (with_reducible refine Below.alloc ?_ ?_ _) | (with_reducible refine Below.setCell ?_ ?_ _) | (with_reducible refine Below.drew ?_) | go_size | (exact Below.size (by assumption)) | (refine Nat.le_trans (Below.size (by assumption)) ?_))), by omega, by omega, by omega, by omega, by omega, by omega, by omega, by simp, by omega⟩
  · exact (heap_alloc_old _ _ (by simp; omega)).trans ((heap_alloc_old _ _ (by simp)).trans (heap_alloc_new w _))
  · have := heap_alloc_new (w.alloc (.cells #[.int .i64 a, .int .i64 b, .int .i64 c, s] 24)) (.cells #[.int .i64 0, .int .i64 0, .int .i64 0, .slice none 0 0] 24)
    exact (heap_alloc_old _ _ (by simp)).trans (by simpa using this)
  · have := heap_alloc_new ((w.alloc (.cells #[.int .i64 a, .int .i64 b, .int .i64 c, s] 24)).alloc (.cells #[.int .i64 0, .int .i64 0, .int .i64 0, .slice none 0 0] 24)) (.cells #[.int .i64 1, .int .i64 0, .int .i64 1, .slice none 0 0] 24)
    unfold PBox
    simpa using this
theorem RW.keep (h : RW w wr B pb rb ob a b c s x y z v zs) (hb : Below wr.heap.size wr w') : RW w w' B pb rb ob a b c s x y z v zs :=
  ⟨h.p.keep hb, h.r.keep hb, h.o.keep hb, OwnI.keep hb h.own, h.below.trans (hb.mono h.below.size), h.pB, h.rB, h.oB, h.po, h.ro, h.wo, h.wr', Nat.le_trans h.sz hb.size, h.wB⟩
theorem RW.put (h : RW w wr B pb rb ob a b c s x y z v zs) (i : Nat) (u : Value) {x' y' z' : Int} {v' : Value} (ho : PBox (wr.setCell ⟨ob, i, none⟩ u) ob x' y' z' v') (hv : v' = v) : RW w (wr.setCell ⟨ob, i, none⟩ u) B pb rb ob a b c s x' y' z' v' zs := by
  subst hv
  have hgr : wr.grownBy (wr.setCell ⟨ob, i, none⟩ u) (some ob) := ⟨rfl, rfl, rfl, by simp [World.setCell], fun q _ hne => Below.heap_setCell wr ⟨ob, i, none⟩ _ q (fun e => hne (by rw [e]))⟩
  refine ⟨h.p.other (p := ⟨ob, i, none⟩) h.po _, h.r.other (p := ⟨ob, i, none⟩) h.ro _, ho, h.own.grown hgr ?_, h.below.setCell h.wo _, h.pB, h.rB, h.oB, h.po, h.ro, h.wo, h.wr', by simpa [World.setCell] using h.sz, h.wB⟩
  rcases hv : v'.ownBlock with _ | g
  · exact .inl rfl
  · exact .inr (fun e => by have := h.own.lt' g hv; have := h.oB; cases e; omega)
theorem PBox.set0 (h : PBox w ob x y z v) (u : Int) : PBox (w.setCell ⟨ob, 0, none⟩ (.int .i64 u)) ob u y z v := by
  obtain ⟨hg, he⟩ := Array.getElem?_eq_some_iff.1 h
  unfold PBox
  simp [World.setCell, hg, Array.getElem_modify, he]
theorem PBox.set1 (h : PBox w ob x y z v) (u : Int) : PBox (w.setCell ⟨ob, 1, none⟩ (.int .i64 u)) ob x u z v := by
  obtain ⟨hg, he⟩ := Array.getElem?_eq_some_iff.1 h
  unfold PBox
  simp [World.setCell, hg, Array.getElem_modify, he]
theorem PBox.set2 (h : PBox w ob x y z v) (u : Int) : PBox (w.setCell ⟨ob, 2, none⟩ (.int .i64 u)) ob x y u v := by
  obtain ⟨hg, he⟩ := Array.getElem?_eq_some_iff.1 h
  unfold PBox
  simp [World.setCell, hg, Array.getElem_modify, he]
theorem RW.set0 (h : RW w wr B pb rb ob a b c s x y z v zs) (u : Int) : RW w (wr.setCell ⟨ob, 0, none⟩ (.int .i64 u)) B pb rb ob a b c s u y z v zs := h.put 0 _ (h.o.set0 u) rfl
theorem RW.set1 (h : RW w wr B pb rb ob a b c s x y z v zs) (u : Int) : RW w (wr.setCell ⟨ob, 1, none⟩ (.int .i64 u)) B pb rb ob a b c s x u z v zs := h.put 1 _ (h.o.set1 u) rfl
theorem RW.set2 (h : RW w wr B pb rb ob a b c s x y z v zs) (u : Int) : RW w (wr.setCell ⟨ob, 2, none⟩ (.int .i64 u)) B pb rb ob a b c s x y u v zs := h.put 2 _ (h.o.set2 u) rfl
theorem RW.step (h : RW w wr B pb rb ob a b c s x y z v zs) (hb : Below B wr w') (ho : OwnI w' B v' zs') : RW w (w'.setCell ⟨ob, 3, none⟩ v') B pb rb ob a b c s x y z v' zs' := by
  have hgr : w'.grownBy (w'.setCell ⟨ob, 3, none⟩ v') (some ob) := ⟨rfl, rfl, rfl, by simp [World.setCell], fun q _ hne => Below.heap_setCell w' ⟨ob, 3, none⟩ _ q (fun e => hne (by rw [e]))⟩
  refine ⟨PBox.other (w := w') ((hb.block _ h.pB).trans h.p) (p := ⟨ob, 3, none⟩) h.po _, PBox.other (w := w') ((hb.block _ h.rB).trans h.r) (p := ⟨ob, 3, none⟩) h.ro _, PBox.set (w := w') ((hb.block _ h.oB).trans h.o) _, ho.grown hgr ?_, (h.below.trans (hb.mono h.wB)).setCell h.wo _, h.pB, h.rB, h.oB, h.po, h.ro, h.wo, h.wr', by simpa [World.setCell] using Nat.le_trans h.sz hb.size, h.wB⟩
  rcases hv : v'.ownBlock with _ | g
  · exact .inl rfl
  · exact .inr (fun e => by have := ho.lt' g hv; have := h.oB; cases e; omega)
theorem RW.of (h : RW w wr B pb rb ob a b c s x y z v zs) (i : Nat) : wr.frozen? ⟨ob, i, none⟩ = false := frozen_of_row wr ob i _ _ h.o
theorem RW.rf (h : RW w wr B pb rb ob a b c s x y z v zs) (i : Nat) : wr.frozen? ⟨rb, i, none⟩ = false := frozen_of_row wr rb i _ _ h.r
theorem RW.x0 (h : RW w wr B pb rb ob a b c s x y z v zs) : cellI wr ob 0 = x ∧ cellI wr ob 1 = y ∧ cellI wr ob 2 = z := by
  obtain ⟨o0, o1, o2, -⟩ := h.o.cells
  unfold cellI
  rw [o0, o1, o2]
  exact ⟨rfl, rfl, rfl⟩
end
def msB (t : Value) (n : Nat) : Nat := match t with | .bool true => 0 | _ => n + 1
attribute [local irreducible] plainUpon stepC
set_option maxRecDepth 100000 in
set_option maxHeartbeats 4000000 in
theorem rleast_any (p : PatD) (hp : PatW p) (a1 b1 c1 : Int) (hL : Least (colF p) a1 b1 c1) (A : Option Addr) (cap : Nat) (w : World) (hi : PatIn w p A) :
    Calls Tryz.prog 57 #[.agg #[.int .i64 p.a, .int .i64 p.b, .int .i64 p.c, .slice A p.xs.length cap]] w fun e w' => ∃ v, e = .returned (.agg #[.int .i64 a1, .int .i64 b1, .int .i64 c1, v]) ∧ OwnI w' w.heap.size v (leastP (colF p) a1 b1 c1).xs ∧ Below w.heap.size w w' := by
  have HC := Lib.hid (fun x y h0 h1 h2 h3 w hi => rcolor_any p hp A p.xs.length cap x y h0 h1 h2 h3 w hi)
  have HPE := Lib.hid (fun dx dy r hr h0 h1 h2 h3 w hi => period_any p hp A cap dx dy r hr h0 h1 h2 h3 w hi)
  have HI := Lib.hid hi
  have HB := Lib.hid hp.base
  have HL := Lib.hid hL
  obtain ⟨l1, l2, l3, l4⟩ := hL.le hp.base
  have hcells := hL.cells hp.base
  rw [hp.len] at hcells
  have hsz := hp.sz
  have HD := Lib.hid (And.intro l3 l4)
  obtain ⟨a0, a2, -, -, c0, c2, -, -⟩ := hp
  have a10 := hL.a0
  have c10 := hL.c0
  have b10 := hL.b0
  have b11 := hL.b1
  obtain ⟨n1, hn1⟩ : ∃ n : Nat, a1 = n := ⟨a1.toNat, by omega⟩
  obtain ⟨m1, hm1⟩ : ∃ n : Nat, c1 = n := ⟨c1.toNat, by omega⟩
  subst hn1 hm1
  have HT := Lib.hid (show (leastP (colF p) n1 b1 m1).xs = tabN (colF p) n1 (n1 * m1) by simp [leastP])
  have hnm : n1 * m1 ≤ 1000000000 := by rw [← Int.natCast_mul] at hcells; omega
  rw [HT.out]
  clear hi hL l3 l4 hcells
  obtain ⟨F, hF⟩ : ∃ F, F = colF p := ⟨_, rfl⟩
  rw [← hF] at HC HPE HB HL
  rw [← hF]
  clear hF HT
  obtain ⟨a, ha⟩ : ∃ a, a = p.a := ⟨_, rfl⟩
  obtain ⟨b, hb⟩ : ∃ b, b = p.b := ⟨_, rfl⟩
  obtain ⟨c, hc⟩ : ∃ c, c = p.c := ⟨_, rfl⟩
  obtain ⟨s, hs⟩ : ∃ s, s = Value.slice A p.xs.length cap := ⟨_, rfl⟩
  rw [← ha, ← hb, ← hc, ← hs] at HC HPE
  rw [← ha, ← hb, ← hc, ← hs]
  rw [← ha] at a0 a2 l1 HD HB
  rw [← hc] at c0 c2 l2 HD HB
  rw [← hb] at HB
  clear ha hb hc hs
  go_enter Tryz.func57, Tryz.ntmps57
  go_upto_region 2 with fail
  have T0 := Lib.hid (RW.start w a b c s)
  obtain ⟨W, hW⟩ : ∃ W, W = ((w.alloc (.cells #[.int .i64 a, .int .i64 b, .int .i64 c, s] 24)).alloc (.cells #[.int .i64 0, .int .i64 0, .int .i64 0, .slice none 0 0] 24)).alloc (.cells #[.int .i64 1, .int .i64 0, .int .i64 1, .slice none 0 0] 24) := ⟨_, rfl⟩
  rw [← hW] at T0 ⊢
  obtain ⟨ob, hob⟩ : ∃ ob, ob = w.heap.size + 1 + 1 := ⟨_, rfl⟩
  obtain ⟨rb, hrb⟩ : ∃ rb, rb = w.heap.size + 1 := ⟨_, rfl⟩
  obtain ⟨B, hBB⟩ : ∃ B, B = w.heap.size + 1 + 1 + 1 := ⟨_, rfl⟩
  rw [← hBB, ← hob, ← hrb] at T0
  rw [← hob, ← hrb]
  clear hW hob hrb hBB
  go_loopw [] (fun wr => ∃ x : Int, 1 ≤ x ∧ x ≤ n1 ∧ Hid (RW w wr B w.heap.size rb ob a b c s x 0 1 (.slice none 0 0) [])) (fun wr => (n1 - cellI wr ob 0).toNat)
  case atStart => exact ⟨1, by omega, by omega, T0⟩
  case round =>
    clear T0
    obtain ⟨x, hx1, hx2, hr⟩ := hrel
    obtain ⟨p0, p1, p2, p3, p4⟩ := hr.out.p.cells
    obtain ⟨o0, o1, o2, o3, o4⟩ := hr.out.o.cells
    have f0 := hr.out.of 0
    have HMX := Lib.hid hr.out.x0.1
    have hne : (x == 0) = false := by rw [beq_eq_false_iff_ne]; omega
    have hmb0 := Int.emod_nonneg a (show x ≠ 0 by omega)
    have hmb1 := Int.emod_lt_of_pos a (show 0 < x by omega)
    obtain ⟨q, hq⟩ : ∃ q, q = a % x := ⟨_, rfl⟩
    have HQ := Lib.hid hq
    by_cases hq0 : q = 0
    · have d1' : ((a % x) != 0) = false := by rw [← hq, hq0]; rfl
      clear hq0 hq
      go_wp2_with fail
      by_cases hp : Per F x 0
      · refine (HPE.out x 0 true ⟨fun _ => (sameOn_per HB.out).2 hp, fun _ => rfl⟩ (by omega) (by omega) (by omega) (by omega) wr (HI.out.below hr.out.below)).mono ?_
        rintro e w2 ⟨rfl, hb2⟩
        obtain rfl : (n1 : Int) = x := by have := HL.out.la x (by omega) hp; omega
        have R2 := Lib.hid (hr.out.keep hb2)
        clear hr hp hb2 p0 p1 p2 p3 p4 o0 o1 o2 o3 o4 f0 HQ HMX hmb0 hmb1 d1' hne
        go_upto_region 5 with fail
        go_loopw [4] (fun t wr => ∃ (f : Bool) (y z : Int), t = .bool f ∧ 1 ≤ z ∧ z ≤ m1 ∧ (f = true → y = b1 ∧ z = m1) ∧ Hid (RW w wr B w.heap.size rb ob a b c s n1 y z (.slice none 0 0) [])) (fun t wr => msB t (m1 + 1 - cellI wr ob 2).toNat)
        case atStart => exact ⟨false, 0, 1, rfl, by omega, by omega, fun h => (by cases h), R2⟩
        case round =>
          clear R2
          obtain ⟨f, y, z, rfl, hz1, hz2, hf, hr⟩ := hrel
          have HMZ := Lib.hid hr.out.x0.2.2
          obtain ⟨p0, p1, p2, p3, p4⟩ := hr.out.p.cells
          obtain ⟨o0, o1, o2, o3, o4⟩ := hr.out.o.cells
          have f1 := hr.out.of 1
          cases f with
          | true =>
            obtain ⟨hyb, hzm⟩ := hf rfl
            subst hyb hzm
            have R3 := Lib.hid (show ∃ v, RW w wr B w.heap.size rb ob a b c s n1 y m1 v (tabN F n1 (0 * n1)) from ⟨_, by rw [Nat.zero_mul]; exact hr.out⟩)
            clear hf hr p0 p1 p2 p3 p4 o0 o1 o2 o3 o4 f1 HMZ
            go_wp2
            go_loopw [5] (fun t wr => ∃ k : Nat, t = .int .i64 k ∧ k ≤ m1 ∧ Hid (∃ v, RW w wr B w.heap.size rb ob a b c s n1 y m1 v (tabN F n1 (k * n1)))) (fun t _ => m1 - (intOf t).toNat)
            case atStart => exact ⟨0, rfl, by omega, R3⟩
            case round =>
              clear R3
              obtain ⟨k, rfl, hk, hr⟩ := hrel
              obtain ⟨v, hT⟩ := hr.out
              obtain ⟨o0, o1, o2, o3, o4⟩ := hT.o.cells
              by_cases hlt : k < m1
              · have R0 := Lib.hid (show ∃ v, RW w wr B w.heap.size rb ob a b c s n1 y m1 v (tabN F n1 (k * n1 + 0)) from ⟨v, hT⟩)
                clear hr hT
                go_wp2
                go_loopw [6] (fun t wq => ∃ i : Nat, t = .int .i64 i ∧ i ≤ n1 ∧ Hid (∃ v, RW w wq B w.heap.size rb ob a b c s n1 y m1 v (tabN F n1 (k * n1 + i)))) (fun t _ => n1 - (intOf t).toNat)
                case atStart => exact ⟨0, rfl, by omega, R0⟩
                case round =>
                  clear R0 o0 o1 o2 o3 o4 v
                  obtain ⟨i, rfl, hi, hq⟩ := hrel
                  obtain ⟨v, hT⟩ := hq.out
                  obtain ⟨p0, p1, p2, p3, p4⟩ := hT.p.cells
                  obtain ⟨o0, o1, o2, o3, o4⟩ := hT.o.cells
                  by_cases hil : i < n1
                  · have HT := Lib.hid hT
                    have hlen : k * n1 + i ≤ 1000000000 - 1 := by
                      have h1 : (k + 1) * n1 ≤ m1 * n1 := Nat.mul_le_mul_right n1 (by omega)
                      rw [Nat.add_mul, Nat.one_mul, Nat.mul_comm m1 n1] at h1
                      omega
                    have HTN := Lib.hid (tabN_step (F := F) (k := k) hil)
                    obtain ⟨z, hz⟩ : ∃ z, z = F i k := ⟨_, rfl⟩
                    have HZ := Lib.hid hz
                    have hpB := hT.pB
                    have hoB := hT.oB
                    clear hT hq hz
                    go_upto_region 19 with fail
                    refine region_last1 (C := fun w' => ∃ x : SubW B wr, w' = x.val) [0, 1, 2, 3, 4] [5, 6, 7, 8, 9] 9 (by kernel_rfl) (by kernel_rfl) (sub_start B wr) ?_
                    simp only [pickL, List.getElem?_cons_zero, List.getElem?_cons_succ]
                    repeat (go_big_quiet_step (fail))
                    refine wpQuiet_nil ?_
                    obtain ⟨w2, hw2⟩ : ∃ w2 : World, w2 = { wr with drawn := wr.drawn + 1 } := ⟨_, rfl⟩
                    rw [← hw2]
                    have hb2 : Below wr.heap.size wr w2 := by rw [hw2]; exact (Below.refl _ _).drew
                    have hsz := HT.out.sz
                    clear hw2
                    refine d_call 62 #[.agg #[.int .i64 a, .int .i64 b, .int .i64 c, s], .int .i64 i, .int .i64 k] rfl (by go_simp) (sub_of (hb2.mono hsz)) ?_
                    refine (HC.out i k (by omega) (by omega) (by omega) (by omega) w2 ((HI.out.below HT.out.below).below hb2)).mono ?_
                    rintro e w3 ⟨rfl, hb3⟩
                    have hb3' := hb2.trans (hb3.mono hb2.size)
                    refine ⟨_, rfl, ?_⟩
                    rw [← HZ.out]
                    refine d_val (.slice (some ⟨w3.heap.size, 0, none⟩) 1 1) (w3.alloc (.cells #[.int .i64 z] 3)) rfl (by go_simp) (sub_of (hb3'.mono hsz)) ?_
                    have hal := (Below.refl w3.heap.size w3).alloc (Nat.le_refl _) (.cells #[.int .i64 z] 3)
                    have hb4 := hb3'.trans (hal.mono hb3'.size)
                    obtain ⟨v', w5, r1, r2, r3, -⟩ := ap_i64 w3 22 B v _ z (OwnI.keep hb3' HT.out.own) (by rw [tabN_length]; omega) (Nat.le_trans hsz hb3'.size)
                    obtain ⟨A5, n5, hv5, -⟩ := r2.isL
                    obtain ⟨m5, hm5⟩ : ∃ m5, m5 = (tabN F n1 (k * n1 + i) ++ [z]).length := ⟨_, rfl⟩
                    rw [← hm5] at hv5
                    clear hm5
                    subst hv5
                    have hb5 := (hb3'.mono hsz).grown r3 (Nat.le_trans hsz hb3'.size) (fun g hg => (HT.out.own.lt' g hg).1)
                    refine d_val (.slice A5 _ n5) w5 rfl (ap_exec (.tmp 74) (.tmp 79) 22 rfl v (.slice (some ⟨w3.heap.size, 0, none⟩) 1 1) _ w5 rfl rfl r1) (sub_of (hb4.mono hsz)) ?_
                    refine d_val (.pointer (some ⟨ob, 3, none⟩)) w5 rfl (by go_simp) (sub_of hb5) ?_
                    have z1 := (hb5.cell (p := ⟨ob, 3, none⟩) hoB).trans o3
                    have z2 : w5.frozen? ⟨ob, 3, none⟩ = false := frozen_of_row w5 ob 3 _ _ ((hb5.block _ hoB).trans HT.out.o)
                    have T6 := HT.out.step hb5 r2
                    rw [HZ.out, ← HTN.out] at T6
                    have HT6 := Lib.hid T6
                    refine d_skip (w5.setCell ⟨ob, 3, none⟩ (.slice A5 m5 n5)) rfl (by go_simp) (sub_of hb5) ?_
                    obtain ⟨w6, hw6⟩ : ∃ w6, w6 = w5.setCell ⟨ob, 3, none⟩ (.slice A5 m5 n5) := ⟨_, rfl⟩
                    rw [← hw6] at HT6
                    show plainD _ _ _ _ _ _ _
                    rw [← hw6]
                    clear hw6 T6 z1 z2 hb5 r1 r2 r3 hb4 hal hb3' hb3 hb2 HT o0 o1 o2 o3 o4 p0 p1 p2 p3 p4 hpB hoB
                    simp only [plainD]
                    go_simp
                    go_wp2
                    go_roundw
                    case rel => exact ⟨i + 1, by go_num, by omega, Lib.hid ⟨_, HT6.out⟩⟩
                    case measure => simp [intOf]; omega
                  · obtain rfl : i = n1 := by omega
                    have R2 := Lib.hid (show ∃ v, RW w wr B w.heap.size rb ob a b c s i y m1 v (tabN F i ((k + 1) * i)) from by rw [Nat.add_mul, Nat.one_mul]; exact ⟨v, hT⟩)
                    clear hq hT
                    go_wp2
                    go_roundw
                    case rel => exact ⟨k + 1, by go_num, by omega, R2⟩
                    case measure => simp [intOf]; omega
              · obtain rfl : k = m1 := by omega
                obtain ⟨A1, n2, hv, -⟩ := hT.own.isL
                obtain ⟨nn, hnn⟩ : ∃ nn, nn = (tabN F n1 (k * n1)).length := ⟨_, rfl⟩
                rw [← hnn] at hv
                clear hnn
                subst hv
                obtain ⟨q0, q1, q2, q3, q4⟩ := hT.r.cells
                have g0 := hT.rf 0
                have g1 := hT.rf 1
                have g2 := hT.rf 2
                have g3 := hT.rf 3
                have HP4 := Lib.hid (put_ret hT.r hT.below hT.wr' ⟨n1, y, k, tabN F n1 (k * n1)⟩ _ hT.own hT.wB hT.rB)
                have HNK := Lib.hid (Nat.mul_comm n1 k)
                clear hT hr
                go_wp2
                refine bodyPost_ret (v := .agg #[.int .i64 n1, .int .i64 y, .int .i64 k, .slice A1 nn n2]) (ret_pat rfl rfl HP4.out.1) rfl ?_
                rw [HNK.out]
                exact ⟨_, rfl, HP4.out.2⟩
          | false =>
            have R3 := Lib.hid (hr.out.set1 0)
            clear hf hr p0 p1 p2 p3 p4
            go_upto_region 7 with fail
            obtain ⟨W3, hW3⟩ : ∃ W3, W3 = wr.setCell ⟨ob, 1, none⟩ (.int .i64 0) := ⟨_, rfl⟩
            rw [← hW3] at R3 ⊢
            clear hW3 o0 o1 o2 o3 o4 f1
            go_loopw [4] (fun t wq => ∃ (f : Bool) (y : Int), t = .bool f ∧ 0 ≤ y ∧ y ≤ n1 ∧ (f = false → z = m1 → y ≤ b1) ∧ (f = true → y = b1 ∧ z = m1) ∧ Hid (RW w wq B w.heap.size rb ob a b c s n1 y z (.slice none 0 0) [])) (fun t wq => msB t (n1 - cellI wq ob 1).toNat)
            case atStart => exact ⟨false, 0, rfl, by omega, by omega, fun _ _ => by omega, fun h => (by cases h), R3⟩
            case round =>
              clear R3
              obtain ⟨f, y, rfl, hy0, hy1, hy2, hf, hq⟩ := hrel
              have HMY := Lib.hid hq.out.x0.2.1
              obtain ⟨p0, p1, p2, p3, p4⟩ := hq.out.p.cells
              obtain ⟨o0, o1, o2, o3, o4⟩ := hq.out.o.cells
              have f1 := hq.out.of 1
              have f2 := hq.out.of 2
              have hne : (z == 0) = false := by rw [beq_eq_false_iff_ne]; omega
              have hmb0 := Int.emod_nonneg c (show z ≠ 0 by omega)
              have hmb1 := Int.emod_lt_of_pos c (show 0 < z by omega)
              cases f with
              | true =>
                obtain ⟨rfl, rfl⟩ := hf rfl
                have d1 : decide (y < (n1 : Int)) = true := decide_eq_true b11
                clear hf hy2
                go_wp2
                go_roundw
                case rel => exact ⟨true, y, m1, rfl, by omega, by omega, fun _ => ⟨rfl, rfl⟩, hq⟩
                case measure => simp [msB]
              | false =>
                clear hf
                by_cases hja : y < n1
                · have d1 : decide (y < (n1 : Int)) = true := decide_eq_true hja
                  obtain ⟨q, hq0⟩ : ∃ q, q = c % z := ⟨_, rfl⟩
                  have HQ := Lib.hid hq0
                  by_cases hzz : q = 0
                  · have d3 : ((c % z) == 0) = true := by rw [← hq0, hzz]; rfl
                    clear hq0 hzz
                    go_wp2_with fail
                    by_cases hp : Per F y z
                    · refine (HPE.out y z true ⟨fun _ => (sameOn_per HB.out).2 hp, fun _ => rfl⟩ (by omega) (by omega) (by omega) (by omega) wr (HI.out.below hq.out.below)).mono ?_
                      rintro e w2 ⟨rfl, hb2⟩
                      have hzm : z = m1 := by have := HL.out.lc y z (by omega) hp; omega
                      have hyb : y = b1 := HL.out.b_uniq hy0 hja (by rw [← hzm]; exact hp)
                      have R4 := Lib.hid (hq.out.keep hb2)
                      clear hq hb2 hp p0 p1 p2 p3 p4 o0 o1 o2 o3 o4 f1 f2 d3 HQ hmb0 hmb1 hy2
                      go_wp2
                      go_roundw
                      case rel => exact ⟨true, y, rfl, by omega, by omega, fun h => (by cases h), fun _ => ⟨hyb, hzm⟩, R4⟩
                      case measure => simp [msB]
                    · refine (HPE.out y z false ⟨fun h => (by cases h), fun h => absurd ((sameOn_per HB.out).1 h) hp⟩ (by omega) (by omega) (by omega) (by omega) wr (HI.out.below hq.out.below)).mono ?_
                      rintro e w2 ⟨rfl, hb2⟩
                      have hst : z = m1 → y + 1 ≤ b1 := fun e => by
                        have h1 := hy2 (by first | rfl | trivial) e
                        by_cases h2 : y = b1
                        · exact absurd (by rw [h2, e]; exact HL.out.pb) hp
                        · omega
                      have R1 := Lib.hid (hq.out.keep hb2)
                      clear hq hb2 hp p0 p1 p2 p3 p4 o0 o1 o2 o3 o4 f1 f2 hy2
                      obtain ⟨o0, o1, o2, o3, o4⟩ := R1.out.o.cells
                      have f1 := R1.out.of 1
                      have R4 := Lib.hid (R1.out.set1 (y + 1))
                      have hm2 := R4.out.x0.2.1
                      clear R1
                      go_wp2
                      go_roundw
                      case rel => exact ⟨false, y + 1, rfl, by omega, by omega, fun _ => hst, fun h => (by cases h), R4⟩
                      case measure => simp only [msB]; rw [hm2, HMY.out]; omega
                  · have d3 : ((c % z) == 0) = false := by rw [← hq0, beq_eq_false_iff_ne]; exact hzz
                    have hkc : z ≠ m1 := fun e => hzz (by rw [hq0, e]; exact HD.out.2)
                    have R4 := Lib.hid (hq.out.set1 (y + 1))
                    have hm2 := R4.out.x0.2.1
                    clear hq0 hzz hy2 hq
                    go_wp2
                    go_roundw
                    case rel => exact ⟨false, y + 1, rfl, by omega, by omega, fun _ e => absurd e hkc, fun h => (by cases h), R4⟩
                    case measure => simp only [msB]; rw [hm2, HMY.out]; omega
                · have d1 : decide (y < (n1 : Int)) = false := decide_eq_false hja
                  have hkc : z ≠ m1 := fun e => by have := hy2 (by first | rfl | trivial) e; omega
                  have R4 := Lib.hid (hq.out.set2 (z + 1))
                  have hm2 := R4.out.x0.2.2
                  clear hy2 hq
                  go_wp2
                  go_roundw
                  case rel => exact ⟨false, y, z + 1, rfl, by omega, by omega, fun h => (by cases h), R4⟩
                  case measure => simp only [msB]; rw [hm2, HMZ.out]; omega
      · refine (HPE.out x 0 false ⟨fun h => (by cases h), fun h => absurd ((sameOn_per HB.out).1 h) hp⟩ (by omega) (by omega) (by omega) (by omega) wr (HI.out.below hr.out.below)).mono ?_
        rintro e w2 ⟨rfl, hb2⟩
        have hka : x ≠ n1 := fun e => hp (by rw [e]; exact HL.out.pa)
        have R1 := Lib.hid (hr.out.keep hb2)
        clear hr hp hb2 p0 p1 p2 p3 p4 o0 o1 o2 o3 o4 f0
        obtain ⟨o0, o1, o2, o3, o4⟩ := R1.out.o.cells
        have f0 := R1.out.of 0
        have R2 := Lib.hid (R1.out.set0 (x + 1))
        have hm2 := R2.out.x0.1
        have hm1 := R1.out.x0.1
        clear R1
        go_wp2
        go_roundw
        case rel => exact ⟨x + 1, by omega, by omega, R2⟩
        case measure => rw [hm2, HMX.out]; omega
    · have hka : x ≠ n1 := fun e => hq0 (by rw [HQ.out, e]; exact HD.out.1)
      have d1' : ((a % x) != 0) = true := by rw [bne_iff_ne, ← hq]; exact hq0
      clear hq0 hq
      have R2 := Lib.hid (hr.out.set0 (x + 1))
      have hm2 := R2.out.x0.1
      have hm1 := hr.out.x0.1
      clear hr
      go_wp2
      go_roundw
      case rel => exact ⟨x + 1, by omega, by omega, R2⟩
      case measure => rw [hm2, HMX.out]; omega
end Go.Proofs.YtgmokojdlbdjeaaGreatDoor
