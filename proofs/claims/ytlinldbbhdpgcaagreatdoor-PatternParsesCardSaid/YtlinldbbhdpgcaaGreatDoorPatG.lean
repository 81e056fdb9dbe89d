/-
  THE PROGRAM: planes: functions of the plane as values; repeats.
-/
import Derived.Test.YtlinldbbhdpgcaaGreatDoorPatB
import Derived.Test.YtlinldbbhdpgcaaGreatDoorRegP
import Derived.Laws.EntriesVeiled
import Derived.Test.YtlinldbbhdpgcaaGreatDoorOwn
import Derived.Test.YtlinldbbhdpgcaaGreatDoorRegM
import Derived.Test.YtlinldbbhdpgcaaGreatDoorCalA
namespace Go.Proofs.YtlinldbbhdpgcaaGreatDoor
open Go.RowKit
attribute [local go_sem] grow_cell grow_frozen
/-- The value v is a function of the plane that answers as F does, as far as R, in w and in what w becomes. -/
def FunV (w : World) (v : Value) (F : Int → Int → Int) (R : Int) : Prop :=
  ∃ id caps, v = .func (.func id) #[] caps ∧ (∀ args w', (callFunc id args).run Tryz.prog w' = .ok (.enter id args) w') ∧ ∀ w', Below w.heap.size w w' → ∀ x y, -R ≤ x → x ≤ R → -R ≤ y → y ≤ R → Calls Tryz.prog id (#[.int .i64 x, .int .i64 y] ++ caps) w' fun e w'' => e = .returned (.int .i64 (F x y)) ∧ Below w'.heap.size w' w''
theorem FunV.below {w w' : World} {v : Value} {F : Int → Int → Int} {R : Int} (h : FunV w v F R) (hb : Below w.heap.size w w') : FunV w' v F R := by
  obtain ⟨id, caps, rfl, hcf, hc⟩ := h
  exact ⟨id, caps, rfl, hcf, fun w2 hw2 => hc w2 (hb.trans (hw2.mono hb.size))⟩
/-- A plane's value and box. -/
def PlBox (w : World) (bx : Nat) (a b c : Int) (v : Value) : Prop := w.heap[bx]? = some (.cells #[.int .i64 a, .int .i64 b, .int .i64 c, v] 70 (0, 0))
theorem PlBox.keep {w w' : World} {bx : Nat} {a b c : Int} {v : Value} (h : PlBox w bx a b c v) (hb : Below w.heap.size w w') : PlBox w' bx a b c v := (hb.block _ (Array.getElem?_eq_some_iff.1 h).1).trans h
theorem PlBox.cells {w : World} {bx : Nat} {a b c : Int} {v : Value} (h : PlBox w bx a b c v) : w.cell? ⟨bx, 0, none⟩ = some (.int .i64 a) ∧ w.cell? ⟨bx, 1, none⟩ = some (.int .i64 b) ∧ w.cell? ⟨bx, 2, none⟩ = some (.int .i64 c) ∧ w.cell? ⟨bx, 3, none⟩ = some v ∧ bx < w.heap.size :=
  ⟨(cell_of_row w bx 0 _ _ (0, 0) h).trans rfl, (cell_of_row w bx 1 _ _ (0, 0) h).trans rfl, (cell_of_row w bx 2 _ _ (0, 0) h).trans rfl, (cell_of_row w bx 3 _ _ (0, 0) h).trans rfl, (Array.getElem?_eq_some_iff.1 h).1⟩
theorem PlBox.new (w : World) (a b c : Int) (v : Value) : PlBox (w.alloc (.cells #[.int .i64 a, .int .i64 b, .int .i64 c, v] 70)) w.heap.size a b c v := heap_alloc_new w _
/-- No cell of a repeat changes. -/
def SameOn (F : Int → Int → Int) (a : Int) (dx dy : Int) (k : Int) : Prop := ∀ x y, 0 ≤ x → x < a → 0 ≤ y → y < k → F x y = F (x + dx) (y + dy)
theorem SameOn.zero {F : Int → Int → Int} {a dx dy : Int} : SameOn F a dx dy 0 := fun x y _ _ h0 h1 => by omega
theorem SameOn.step {F : Int → Int → Int} {a dx dy k : Int} (h : SameOn F a dx dy k) (h2 : ∀ x, 0 ≤ x → x < a → F x k = F (x + dx) (k + dy)) : SameOn F a dx dy (k + 1) := fun x y h0 h1 h3 h4 => by
  by_cases he : y < k
  · exact h x y h0 h1 h3 he
  · obtain rfl : y = k := by omega
    exact h2 x h0 h1
attribute [local irreducible] plainUpon stepC
set_option maxRecDepth 100000 in
set_option maxHeartbeats 1000000 in
theorem repeats_any (F : Int → Int → Int) (a b c : Int) (v : Value) (dx dy : Int) (r : Bool) (hr : r = true ↔ SameOn F a dx dy c) (ha2 : a ≤ 10000000) (hc2 : c ≤ 10000000) (hdx : -20000000 ≤ dx) (hdx2 : dx ≤ 20000000) (hdy : -20000000 ≤ dy) (hdy2 : dy ≤ 20000000) (w : World) (hF : FunV w v F 50000000) :
    Calls Tryz.prog 99 #[.agg #[.int .i64 a, .int .i64 b, .int .i64 c, v], .int .i64 dx, .int .i64 dy] w fun e w' => e = .returned (.bool r) ∧ Below w.heap.size w w' := by
  obtain ⟨id, caps, rfl, hcf, hcall⟩ := hF
  have HF := Lib.hid hcall
  have HR := Lib.hid hr
  clear hcall hr
  go_enter Tryz.func99, Tryz.ntmps99
  go_upto_region 2 with fail
  obtain ⟨W, hW⟩ : ∃ W, W = w.alloc (.cells #[.int .i64 a, .int .i64 b, .int .i64 c, .func (.func id) #[] caps] 70) := ⟨_, rfl⟩
  rw [← hW]
  have H0 := Lib.hid (show PlBox W w.heap.size a b c (.func (.func id) #[] caps) ∧ Below w.heap.size w W from ⟨by rw [hW]; exact PlBox.new w a b c _, by rw [hW]; exact (by repeat' (first | (with_reducible exact Below.refl _ _) | (with_reducible assumption) | (with_reducible refine below_drewN ?_ _) | (with_reducible refine below_step (by assumption) ?_ ?_) | (with_reducible refine Below.alloc ?_ ?_ _) | (with_reducible refine Below.setCell ?_ ?_ _) | (with_reducible refine Below.drew ?_) | go_size | (exact Below.size (by assumption)) | (refine Nat.le_trans (Below.size (by assumption)) ?_)))⟩)
  clear hW
  go_loopw [11] (fun t wr => ∃ k : Int, t = .int .i64 k ∧ 0 ≤ k ∧ (k ≤ c ∨ k = 0) ∧ Hid (PlBox wr w.heap.size a b c (.func (.func id) #[] caps) ∧ Below w.heap.size w wr ∧ SameOn F a dx dy k)) (fun t _ => (c - intOf t).toNat)
  case atStart => exact ⟨0, rfl, by omega, by omega, Lib.hid ⟨H0.out.1, H0.out.2, SameOn.zero⟩⟩
  case round =>
    clear H0
    obtain ⟨k, rfl, hk0, hk, hr⟩ := hrel
    obtain ⟨q0, q1, q2, q3, q4⟩ := hr.out.1.cells
    by_cases hlt : k < c
    · have d1 : decide (k < c) = true := decide_eq_true hlt
      have R0 := Lib.hid (And.intro hr.out (show ∀ x, 0 ≤ x → x < (0 : Int) → F x k = F (x + dx) (k + dy) from fun x h0 h1 => by omega))
      clear hr
      go_upto_region 5 with fail
      go_loopw [16] (fun t wq => ∃ i : Int, t = .int .i64 i ∧ 0 ≤ i ∧ (i ≤ a ∨ i = 0) ∧ Hid ((PlBox wq w.heap.size a b c (.func (.func id) #[] caps) ∧ Below w.heap.size w wq ∧ SameOn F a dx dy k) ∧ ∀ x, 0 ≤ x → x < i → F x k = F (x + dx) (k + dy))) (fun t _ => (a - intOf t).toNat)
      case atStart => exact ⟨0, rfl, by omega, by omega, R0⟩
      case round =>
        clear R0 q0 q1 q2 q3 q4
        obtain ⟨i, rfl, hi0, hi, hq⟩ := hrel
        obtain ⟨q0, q1, q2, q3, q4⟩ := hq.out.1.1.cells
        by_cases hil : i < a
        · have d2 : decide (i < a) = true := decide_eq_true hil
          have k1 : IntKind.i64.wrap (i + dx) = i + dx := IntWalk.i64_in _ (by omega)
          have k2 : IntKind.i64.wrap (k + dy) = k + dy := IntWalk.i64_in _ (by omega)
          go_upto_region 7 with fail
          refine region_tree (C := fun w' => ∃ x, w' = grow wr x) [0, 1, 2, 3, 5, 6, 7, 8, 9, 10, 11, 12] (OT.seq [4, 13, 14]) (by kernel_rfl) (by kernel_rfl) (grow_start wr) ?_
          simp only [pickL, List.getElem?_cons_zero, List.getElem?_cons_succ]
          repeat (go_big_quiet_step (fail))
          refine wpQuiet_nil ?_
          rintro w2 ⟨xg, hxg⟩
          have hb2 := below_grow wr xg
          rw [← hxg] at hb2
          simp only [treeS, OT.seq, atOp, List.getElem?_cons_zero, List.getElem?_cons_succ]
          refine ⟨⟨xg, hxg⟩, ?_⟩
          refine s_call id (#[.int .i64 i, .int .i64 k] ++ caps) rfl (by go_simp) ?_
          refine (HF.out w2 (hq.out.1.2.1.trans (hb2.mono hq.out.1.2.1.size)) i k (by omega) (by omega) (by omega) (by omega)).mono ?_
          rintro e w3 ⟨rfl, hb3⟩
          have hb3' := hb2.trans (hb3.mono hb2.size)
          refine ⟨_, rfl, grow_of_below hb3', ?_⟩
          refine s_call id (#[.int .i64 (i + dx), .int .i64 (k + dy)] ++ caps) rfl (by go_simp) ?_
          refine (HF.out w3 (hq.out.1.2.1.trans (hb3'.mono hq.out.1.2.1.size)) (i + dx) (k + dy) (by omega) (by omega) (by omega) (by omega)).mono ?_
          rintro e w4 ⟨rfl, hb4⟩
          have hb4' := hb3'.trans (hb4.mono hb3'.size)
          refine ⟨_, rfl, grow_of_below hb4', ?_⟩
          obtain ⟨z1, hz1⟩ : ∃ z1, z1 = F i k := ⟨_, rfl⟩
          obtain ⟨z2, hz2⟩ : ∃ z2, z2 = F (i + dx) (k + dy) := ⟨_, rfl⟩
          rw [← hz1, ← hz2]
          have HZ := Lib.hid (And.intro hz1 hz2)
          have H4 := Lib.hid (And.intro (hq.out.1.1.keep hb4') (And.intro (hq.out.1.2.1.trans (hb4'.mono hq.out.1.2.1.size)) (And.intro hq.out.1.2.2 hq.out.2)))
          clear hz1 hz2 hq hb2 hb3 hb3' hb4 hxg k1 k2 q0 q1 q2 q3 q4
          by_cases hz : z1 = z2
          · have d3 : (z1 != z2) = false := by simp [hz]
            refine s_val (.bool false) w4 rfl (by go_simp) ?_
            refine ⟨grow_of_below hb4', ?_⟩
            have R2 := Lib.hid (show (PlBox w4 w.heap.size a b c (.func (.func id) #[] caps) ∧ Below w.heap.size w w4 ∧ SameOn F a dx dy k) ∧ ∀ x, 0 ≤ x → x < i + 1 → F x k = F (x + dx) (k + dy) from ⟨⟨H4.out.1, H4.out.2.1, H4.out.2.2.1⟩, fun x h0 h1 => by
              by_cases hx : x < i
              · exact H4.out.2.2.2 x h0 hx
              · obtain rfl : x = i := by omega
                rw [← HZ.out.1, ← HZ.out.2]; exact hz⟩)
            clear hz HZ hb4' H4 d3
            go_simp
            go_wp2
            go_roundw
            case rel => exact ⟨i + 1, rfl, by omega, by omega, R2⟩
            case measure => simp [intOf]; omega
          · have d3 : (z1 != z2) = true := by rw [bne_iff_ne]; exact hz
            refine s_val (.bool true) w4 rfl (by go_simp) ?_
            refine ⟨grow_of_below hb4', ?_⟩
            have HRF := Lib.hid (show r = false by
              cases r with
              | false => rfl
              | true => exact absurd ((HR.out.1 rfl) i k hi0 hil hk0 hlt) (by rw [← HZ.out.1, ← HZ.out.2]; exact hz))
            clear hz HZ hb4' d3 HR
            go_simp
            go_wp2
            go_ret
            exact ⟨by rw [HRF.out]; rfl, H4.out.2.1⟩
        · have d2 : decide (i < a) = false := decide_eq_false hil
          have R2 := Lib.hid (show PlBox wr w.heap.size a b c (.func (.func id) #[] caps) ∧ Below w.heap.size w wr ∧ SameOn F a dx dy (k + 1) from ⟨hq.out.1.1, hq.out.1.2.1, hq.out.1.2.2.step fun x h0 h1 => hq.out.2 x h0 (by omega)⟩)
          clear hq
          go_wp2
          go_roundw
          case rel => exact ⟨k + 1, rfl, by omega, by omega, R2⟩
          case measure => simp [intOf]; omega
    · have d1 : decide (k < c) = false := decide_eq_false hlt
      have HRT := Lib.hid (show r = true from HR.out.2 fun x y h0 h1 h2 h3 => hr.out.2.2 x y h0 h1 h2 (by omega))
      have HB := Lib.hid hr.out.2.1
      clear hr HR
      go_wp2
      go_ret
      exact ⟨by rw [HRT.out]; rfl, HB.out⟩
end Go.Proofs.YtlinldbbhdpgcaaGreatDoor
/-
  THE PROGRAM: the table of a plane.
-/
namespace Go.Proofs.YtlinldbbhdpgcaaGreatDoor
open Go.RowKit
attribute [local go_sem] sub_cell sub_frozen
/-- The first t cells of a table of width a. -/
def tabN (F : Int → Int → Int) (a : Nat) (t : Nat) : List Int := (List.range t).map fun j => F ((j % a : Nat) : Int) ((j / a : Nat) : Int)
theorem tabN_length (F : Int → Int → Int) (a t : Nat) : (tabN F a t).length = t := by simp [tabN]
theorem tabN_step {F : Int → Int → Int} {a k i : Nat} (hi : i < a) : tabN F a (k * a + (i + 1)) = tabN F a (k * a + i) ++ [F (i : Int) (k : Int)] := by
  unfold tabN
  rw [← Nat.add_assoc, List.range_succ, List.map_append, List.map_cons, List.map_nil]
  have e1 : (k * a + i) % a = i := by rw [Nat.mul_comm, Nat.mul_add_mod]; exact Nat.mod_eq_of_lt hi
  have e2 : (k * a + i) / a = k := by rw [Nat.mul_comm, Nat.mul_add_div (by omega)]; rw [Nat.div_eq_of_lt hi]; rfl
  rw [e1, e2]
theorem PBox.set {w : World} {bx : Nat} {a b c : Int} {s : Value} (h : PBox w bx a b c s) (s' : Value) : PBox (w.setCell ⟨bx, 3, none⟩ s') bx a b c s' := by
  obtain ⟨hg, he⟩ := Array.getElem?_eq_some_iff.1 h
  unfold PBox
  simp [World.setCell, hg, Array.getElem_modify, he]
theorem PBox.other {w : World} {bx : Nat} {a b c : Int} {s : Value} (h : PBox w bx a b c s) {p : Addr} (hp : bx ≠ p.block) (u : Value) : PBox (w.setCell p u) bx a b c s := (Below.heap_setCell w p u bx hp).trans h
theorem PlBox.other {w : World} {bx : Nat} {a b c : Int} {s : Value} (h : PlBox w bx a b c s) {p : Addr} (hp : bx ≠ p.block) (u : Value) : PlBox (w.setCell p u) bx a b c s := (Below.heap_setCell w p u bx hp).trans h
def set4 (w : World) (bx : Nat) (a b c : Int) (s : Value) : World := (((w.setCell ⟨bx, 0, none⟩ (.int .i64 a)).setCell ⟨bx, 1, none⟩ (.int .i64 b)).setCell ⟨bx, 2, none⟩ (.int .i64 c)).setCell ⟨bx, 3, none⟩ s
theorem PBox.put {w : World} {bx : Nat} {a b c : Int} {s : Value} (h : PBox w bx a b c s) (a' b' c' : Int) (s' : Value) : PBox (set4 w bx a' b' c' s') bx a' b' c' s' := by
  obtain ⟨hg, he⟩ := Array.getElem?_eq_some_iff.1 h
  unfold PBox set4
  simp [World.setCell, hg, Array.getElem_modify, he]
theorem set4_grown (w : World) (bx : Nat) (a b c : Int) (s : Value) : w.grownBy (set4 w bx a b c s) (some bx) := by
  refine ⟨rfl, rfl, rfl, by simp [set4, World.setCell], fun q _ hne => ?_⟩
  have hq : q ≠ bx := fun e => hne (by rw [e])
  unfold set4
  exact (Below.heap_setCell _ ⟨bx, 3, none⟩ _ q hq).trans ((Below.heap_setCell _ ⟨bx, 2, none⟩ _ q hq).trans ((Below.heap_setCell _ ⟨bx, 1, none⟩ _ q hq).trans (Below.heap_setCell _ ⟨bx, 0, none⟩ _ q hq)))
theorem patSz (a b c : Int) (s : Value) : (Tryz.prog.info? 24).map (·.size) = some (#[Value.int .i64 a, .int .i64 b, .int .i64 c, s] : Array Value).size := by
  have h : (Tryz.prog.info? 24).map (·.size) = some 4 := by kernel_rfl
  exact h
theorem ret_pat {w : World} {bx : Nat} {a b c : Int} {s : Value} {tmps : Array Value} {fn : Func} {p : Tmp} (h : fn.results = #[.cell p 24]) (hp : tmps.getD p undef = .pointer (some ⟨bx, 0, none⟩)) (hg : PBox w bx a b c s) : (results fn tmps).run Tryz.prog w = .ok (.agg #[.int .i64 a, .int .i64 b, .int .i64 c, s]) w :=
  results_cell_row h _ _ bx 24 _ (0, 0) _ hp hg Tryz.underlying24 rfl (patSz a b c s)
theorem ret_pat2 {w : World} {bx : Nat} {a b c : Int} {s z : Value} {tmps : Array Value} {fn : Func} {p q : Tmp} (h : fn.results = #[.cell p 24, .tmp q]) (hp : tmps.getD p undef = .pointer (some ⟨bx, 0, none⟩)) (hq : tmps.getD q undef = z) (hg : PBox w bx a b c s) : (results fn tmps).run Tryz.prog w = .ok (.tuple #[.agg #[.int .i64 a, .int .i64 b, .int .i64 c, s], z]) w := by
  have hp' : tmps[p]?.getD undef = .pointer (some ⟨bx, 0, none⟩) := by simpa using hp
  have hq' : tmps[q]?.getD undef = z := by simpa using hq
  simp [results, h, hp', hq', asAddr, run_loadVar_row w bx 24 24 _ (0, 0) _ hg Tryz.underlying24 rfl (patSz a b c s)]
/-- The world in the loops of table. -/
structure TW (w wr : World) (B pb rb ob : Nat) (a0 b0 c0 a b c : Int) (fv v : Value) (zs : List Int) : Prop where
  p : PlBox wr pb a0 b0 c0 fv
  r : PBox wr rb 0 0 0 (.slice none 0 0)
  o : PBox wr ob a b c v
  own : OwnI wr B v zs
  below : Below w.heap.size w wr
  pB : pb < B
  rB : rb < B
  oB : ob < B
  po : pb ≠ ob
  ro : rb ≠ ob
  wo : w.heap.size ≤ ob
  wr' : w.heap.size ≤ rb
  sz : B ≤ wr.heap.size
  wB : w.heap.size ≤ B
theorem TW.start (w : World) (a0 b0 c0 a b c : Int) (fv : Value) (F : Int → Int → Int) (n : Nat) :
    TW w (((w.alloc (.cells #[.int .i64 a0, .int .i64 b0, .int .i64 c0, fv] 70)).alloc (.cells #[.int .i64 0, .int .i64 0, .int .i64 0, .slice none 0 0] 24)).alloc (.cells #[.int .i64 a, .int .i64 b, .int .i64 c, .slice none 0 0] 24))
      (w.heap.size + 1 + 1 + 1) w.heap.size (w.heap.size + 1) (w.heap.size + 1 + 1) a0 b0 c0 a b c fv (.slice none 0 0) (tabN F n 0) := by
  refine ⟨?_, ?_, ?_, OwnI.nil _ _, (by repeat' (first | (with_reducible exact Below.refl _ _) | (with_reducible assumption) | (with_reducible refine below_drewN ?_ _) | (with_reducible refine below_step (by assumption) ?_ ?_) | (with_reducible refine Below.alloc ?_ ?_ _) | (with_reducible refine Below.setCell ?_ ?_ _) | (with_reducible refine Below.drew ?_) | go_size | (exact Below.size (by assumption)) | (refine Nat.le_trans (Below.size (by assumption)) ?_))), by omega, by omega, by omega, by omega, by omega, by omega, by omega, by simp, by omega⟩
  · exact (heap_alloc_old _ _ (by simp; omega)).trans ((heap_alloc_old _ _ (by simp)).trans (heap_alloc_new w _))
  · have := heap_alloc_new (w.alloc (.cells #[.int .i64 a0, .int .i64 b0, .int .i64 c0, fv] 70)) (.cells #[.int .i64 0, .int .i64 0, .int .i64 0, .slice none 0 0] 24)
    exact (heap_alloc_old _ _ (by simp)).trans (by simpa using this)
  · have := heap_alloc_new ((w.alloc (.cells #[.int .i64 a0, .int .i64 b0, .int .i64 c0, fv] 70)).alloc (.cells #[.int .i64 0, .int .i64 0, .int .i64 0, .slice none 0 0] 24)) (.cells #[.int .i64 a, .int .i64 b, .int .i64 c, .slice none 0 0] 24)
    unfold PBox
    simpa using this
theorem TW.step {w wr w' : World} {B pb rb ob : Nat} {a0 b0 c0 a b c : Int} {fv v v' : Value} {zs zs' : List Int} (h : TW w wr B pb rb ob a0 b0 c0 a b c fv v zs) (hb : Below B wr w') (ho : OwnI w' B v' zs') : TW w (w'.setCell ⟨ob, 3, none⟩ v') B pb rb ob a0 b0 c0 a b c fv v' zs' := by
  have hgr : w'.grownBy (w'.setCell ⟨ob, 3, none⟩ v') (some ob) := ⟨rfl, rfl, rfl, by simp [World.setCell], fun q _ hne => Below.heap_setCell w' ⟨ob, 3, none⟩ _ q (fun e => hne (by rw [e]))⟩
  refine ⟨PlBox.other (w := w') ((hb.block _ h.pB).trans h.p) (p := ⟨ob, 3, none⟩) h.po _, PBox.other (w := w') ((hb.block _ h.rB).trans h.r) (p := ⟨ob, 3, none⟩) h.ro _, PBox.set (w := w') ((hb.block _ h.oB).trans h.o) _, ho.grown hgr ?_, (h.below.trans (hb.mono h.wB)).setCell h.wo _, h.pB, h.rB, h.oB, h.po, h.ro, h.wo, h.wr', by simpa [World.setCell] using Nat.le_trans h.sz hb.size, h.wB⟩
  rcases hv : v'.ownBlock with _ | g
  · exact .inl rfl
  · exact .inr (fun e => by have := ho.lt' g hv; have := h.oB; cases e; omega)
attribute [local irreducible] plainUpon stepC
set_option maxRecDepth 100000 in
set_option maxHeartbeats 1000000 in
theorem table_any (F : Int → Int → Int) (a0 b0 c0 : Int) (fv : Value) (a c : Nat) (b : Int) (ha : a ≤ 100000) (hc : c ≤ 100000) (hac : a * c ≤ 1000000) (w : World) (hF : FunV w fv F 50000000) :
    Calls Tryz.prog 46 #[.agg #[.int .i64 a0, .int .i64 b0, .int .i64 c0, fv], .int .i64 a, .int .i64 b, .int .i64 c] w fun e w' => ∃ v, e = .returned (.agg #[.int .i64 a, .int .i64 b, .int .i64 c, v]) ∧ OwnI w' w.heap.size v (tabN F a (a * c)) ∧ Below w.heap.size w w' := by
  obtain ⟨id, caps, rfl, hcf, hcall⟩ := hF
  have HF := Lib.hid hcall
  clear hcall
  go_enter Tryz.func46, Tryz.ntmps46
  go_upto_region 2 with fail
  have T0 := Lib.hid (TW.start w a0 b0 c0 a b c (.func (.func id) #[] caps) F a)
  obtain ⟨W, hW⟩ : ∃ W, W = ((w.alloc (.cells #[.int .i64 a0, .int .i64 b0, .int .i64 c0, .func (.func id) #[] caps] 70)).alloc (.cells #[.int .i64 0, .int .i64 0, .int .i64 0, .slice none 0 0] 24)).alloc (.cells #[.int .i64 a, .int .i64 b, .int .i64 c, .slice none 0 0] 24) := ⟨_, rfl⟩
  rw [← hW] at T0 ⊢
  obtain ⟨ob, hob⟩ : ∃ ob, ob = w.heap.size + 1 + 1 := ⟨_, rfl⟩
  obtain ⟨rb, hrb⟩ : ∃ rb, rb = w.heap.size + 1 := ⟨_, rfl⟩
  obtain ⟨B, hB⟩ : ∃ B, B = w.heap.size + 1 + 1 + 1 := ⟨_, rfl⟩
  rw [← hB, ← hob, ← hrb] at T0
  rw [← hob, ← hrb]
  clear hW hob hrb hB
  go_wp2
  go_loopw [17] (fun t wr => ∃ k : Nat, t = .int .i64 k ∧ k ≤ c ∧ Hid (∃ v, TW w wr B w.heap.size rb ob a0 b0 c0 a b c (.func (.func id) #[] caps) v (tabN F a (k * a)))) (fun t _ => c - (intOf t).toNat)
  case atStart => exact ⟨0, rfl, by omega, Lib.hid ⟨_, by rw [Nat.zero_mul]; exact T0.out⟩⟩
  case round =>
    clear T0
    obtain ⟨k, rfl, hk, hr⟩ := hrel
    by_cases hlt : k < c
    · have R0 := Lib.hid (show ∃ v, TW w wr B w.heap.size rb ob a0 b0 c0 a b c (.func (.func id) #[] caps) v (tabN F a (k * a + 0)) from hr.out)
      clear hr
      go_wp2
      go_loopw [21] (fun t wq => ∃ i : Nat, t = .int .i64 i ∧ i ≤ a ∧ Hid (∃ v, TW w wq B w.heap.size rb ob a0 b0 c0 a b c (.func (.func id) #[] caps) v (tabN F a (k * a + i)))) (fun t _ => a - (intOf t).toNat)
      case atStart => exact ⟨0, rfl, by omega, R0⟩
      case round =>
        clear R0
        obtain ⟨i, rfl, hi, hq⟩ := hrel
        by_cases hil : i < a
        · obtain ⟨v, hT⟩ := hq.out
          have HT := Lib.hid hT
          have hlen : k * a + i ≤ 1000000 := by
            have h1 : (k + 1) * a ≤ c * a := Nat.mul_le_mul_right a (by omega)
            rw [Nat.add_mul, Nat.one_mul, Nat.mul_comm c a] at h1
            omega
          have HTN := Lib.hid (tabN_step (F := F) (k := k) hil)
          obtain ⟨p0, p1, p2, p3, p4⟩ := hT.p.cells
          obtain ⟨o0, o1, o2, o3, o4⟩ := hT.o.cells
          obtain ⟨z, hz⟩ : ∃ z, z = F i k := ⟨_, rfl⟩
          have HZ := Lib.hid hz
          have hpB := hT.pB
          have hoB := hT.oB
          clear hT hq hz
          go_upto_region 8 with fail
          refine region_last1 (C := fun w' => ∃ x : SubW B wr, w' = x.val) [0, 1, 2, 3, 4, 5] [6, 7, 8, 9, 10] 10 (by kernel_rfl) (by kernel_rfl) (sub_start B wr) ?_
          simp only [pickL, List.getElem?_cons_zero, List.getElem?_cons_succ]
          repeat (go_big_quiet_step (fail))
          refine wpQuiet_nil ?_
          obtain ⟨w2, hw2⟩ : ∃ w2 : World, w2 = { wr with drawn := wr.drawn + 1 } := ⟨_, rfl⟩
          rw [← hw2]
          have hb2 : Below wr.heap.size wr w2 := by rw [hw2]; exact (Below.refl _ _).drew
          have hsz := HT.out.sz
          clear hw2
          refine d_call id (#[.int .i64 i, .int .i64 k] ++ caps) rfl (by go_simp) (sub_of (hb2.mono hsz)) ?_
          refine (HF.out w2 (HT.out.below.trans (hb2.mono HT.out.below.size)) i k (by omega) (by omega) (by omega) (by omega)).mono ?_
          rintro e w3 ⟨rfl, hb3⟩
          have hb3' := hb2.trans (hb3.mono hb2.size)
          refine ⟨_, rfl, ?_⟩
          rw [← HZ.out]
          refine d_val (.slice (some ⟨w3.heap.size, 0, none⟩) 1 1) (w3.alloc (.cells #[.int .i64 z] 3)) rfl (by go_simp) (sub_of (hb3'.mono hsz)) ?_
          have hal := (Below.refl w3.heap.size w3).alloc (Nat.le_refl _) (.cells #[.int .i64 z] 3)
          have hb4 := hb3'.trans (hal.mono hb3'.size)
          obtain ⟨v', w5, r1, r2, r3, -⟩ := ap_i64 w3 22 B v _ z (OwnI.keep hb3' HT.out.own) (by rw [tabN_length]; omega) (Nat.le_trans hsz hb3'.size)
          obtain ⟨A5, n5, hv5, -⟩ := r2.isL
          obtain ⟨m5, hm5⟩ : ∃ m5, m5 = (tabN F a (k * a + i) ++ [z]).length := ⟨_, rfl⟩
          rw [← hm5] at hv5
          clear hm5
          subst hv5
          have hb5 := (hb3'.mono hsz).grown r3 (Nat.le_trans hsz hb3'.size) (fun g hg => (HT.out.own.lt' g hg).1)
          refine d_val (.slice A5 _ n5) w5 rfl (ap_exec (.tmp 25) (.tmp 31) 22 rfl v (.slice (some ⟨w3.heap.size, 0, none⟩) 1 1) _ w5 rfl rfl r1) (sub_of (hb4.mono hsz)) ?_
          refine d_val (.pointer (some ⟨ob, 3, none⟩)) w5 rfl (by go_simp) (sub_of hb5) ?_
          have z1 := (hb5.cell (p := ⟨ob, 3, none⟩) hoB).trans o3
          have z2 : w5.frozen? ⟨ob, 3, none⟩ = false := frozen_of_row w5 ob 3 _ _ ((hb5.block _ hoB).trans HT.out.o)
          have T6 := HT.out.step hb5 r2
          rw [HZ.out, ← HTN.out] at T6
          have HT6 := Lib.hid T6
          refine d_skip (w5.setCell ⟨ob, 3, none⟩ (.slice A5 m5 n5)) rfl (by go_simp) (sub_of hb5) ?_
          obtain ⟨w6, hw6⟩ : ∃ w6, w6 = w5.setCell ⟨ob, 3, none⟩ (.slice A5 m5 n5) := ⟨_, rfl⟩
          rw [← hw6] at HT6
          show plainD _ _ _ _ _ _ _
          rw [← hw6]
          clear hw6 T6 z1 z2 hb5 r1 r2 r3 hb4 hal hb3' hb3 hb2 HT o0 o1 o2 o3 o4 p0 p1 p2 p3 p4 hpB hoB
          simp only [plainD]
          go_simp
          go_wp2
          go_roundw
          case rel => exact ⟨i + 1, by go_num, by omega, Lib.hid ⟨_, HT6.out⟩⟩
          case measure => simp [intOf]; omega
        · obtain rfl : i = a := by omega
          have R2 := Lib.hid (show ∃ v, TW w wr B w.heap.size rb ob a0 b0 c0 i b c (.func (.func id) #[] caps) v (tabN F i ((k + 1) * i)) from by rw [Nat.add_mul, Nat.one_mul]; exact hq.out)
          clear hq
          go_wp2
          go_roundw
          case rel => exact ⟨k + 1, by go_num, by omega, R2⟩
          case measure => simp [intOf]; omega
    · obtain rfl : k = c := by omega
      obtain ⟨v, hT⟩ := hr.out
      obtain ⟨A1, n1, rfl, -⟩ := hT.own.isL
      obtain ⟨o0, o1, o2, o3, o4⟩ := hT.o.cells
      obtain ⟨p0, p1, p2, p3, p4⟩ := hT.r.cells
      have f0 : wr.frozen? ⟨rb, 0, none⟩ = false := frozen_of_row wr rb 0 _ _ hT.r
      have f1 : wr.frozen? ⟨rb, 1, none⟩ = false := frozen_of_row wr rb 1 _ _ hT.r
      have f2 : wr.frozen? ⟨rb, 2, none⟩ = false := frozen_of_row wr rb 2 _ _ hT.r
      have f3 : wr.frozen? ⟨rb, 3, none⟩ = false := frozen_of_row wr rb 3 _ _ hT.r
      have HP4 := Lib.hid (hT.r.put (a : Int) b (k : Int) (.slice A1 (tabN F a (k * a)).length n1))
      have hgr := set4_grown wr rb (a : Int) b (k : Int) (.slice A1 (tabN F a (k * a)).length n1)
      have HE := Lib.hid (show OwnI (set4 wr rb (a : Int) b (k : Int) (.slice A1 (tabN F a (k * a)).length n1)) w.heap.size (.slice A1 (tabN F a (k * a)).length n1) (tabN F a (a * k)) ∧ Below w.heap.size w (set4 wr rb (a : Int) b (k : Int) (.slice A1 (tabN F a (k * a)).length n1)) from ⟨by
        rw [Nat.mul_comm a k]
        refine OwnI.down (OwnI.grown hT.own hgr ?_) hT.wB
        rcases hv : (Value.slice A1 (tabN F a (k * a)).length n1).ownBlock with _ | g
        · exact .inl rfl
        · exact .inr (fun e => by have := hT.own.lt' g hv; have := hT.rB; cases e; omega), Below.grown hT.below hgr hT.below.size (fun g e => by cases e; exact hT.wr')⟩)
      clear hT hr hgr
      go_wp2
      refine bodyPost_ret (v := .agg #[.int .i64 a, .int .i64 b, .int .i64 k, .slice A1 (tabN F a (k * a)).length n1]) (ret_pat rfl rfl HP4.out) rfl ⟨_, rfl, HE.out⟩
end Go.Proofs.YtlinldbbhdpgcaaGreatDoor
/-
  THE PROGRAM: the least pattern of a plane.
-/
namespace Go.Proofs.YtlinldbbhdpgcaaGreatDoor
open Go.RowKit
def leastP (F : Int → Int → Int) (a1 b1 c1 : Int) : PatD := ⟨a1, b1, c1, tabN F a1.toNat (a1.toNat * c1.toNat)⟩
def zeroP : PatD := ⟨0, 0, 0, []⟩
/-- A pattern in new memory, and a code or a truth. -/
def OutP (w : World) (p : PatD) (z : Value) (e : Ending) (w' : World) : Prop := ∃ v, e = .returned (.tuple #[.agg #[.int .i64 p.a, .int .i64 p.b, .int .i64 p.c, v], z]) ∧ OwnI w' w.heap.size v p.xs ∧ Below w.heap.size w w'
/-- The world in the loops of least. -/
structure LW (w wr : World) (pb rb : Nat) (a b c : Int) (fv : Value) : Prop where
  p : PlBox wr pb a b c fv
  r : PBox wr rb 0 0 0 (.slice none 0 0)
  below : Below w.heap.size w wr
  wp : w.heap.size ≤ pb
  wr' : w.heap.size ≤ rb
theorem LW.keep {w wr w' : World} {pb rb : Nat} {a b c : Int} {fv : Value} (h : LW w wr pb rb a b c fv) (hb : Below wr.heap.size wr w') : LW w w' pb rb a b c fv := ⟨h.p.keep hb, h.r.keep hb, h.below.trans (hb.mono h.below.size), h.wp, h.wr'⟩
theorem LW.start (w : World) (a b c : Int) (fv : Value) : LW w ((w.alloc (.cells #[.int .i64 a, .int .i64 b, .int .i64 c, fv] 70)).alloc (.cells #[.int .i64 0, .int .i64 0, .int .i64 0, .slice none 0 0] 24)) w.heap.size (w.heap.size + 1) a b c fv := by
  refine ⟨(heap_alloc_old _ _ (by simp)).trans (heap_alloc_new w _), ?_, (by repeat' (first | (with_reducible exact Below.refl _ _) | (with_reducible assumption) | (with_reducible refine below_drewN ?_ _) | (with_reducible refine below_step (by assumption) ?_ ?_) | (with_reducible refine Below.alloc ?_ ?_ _) | (with_reducible refine Below.setCell ?_ ?_ _) | (with_reducible refine Below.drew ?_) | go_size | (exact Below.size (by assumption)) | (refine Nat.le_trans (Below.size (by assumption)) ?_))), by omega, by omega⟩
  have := heap_alloc_new (w.alloc (.cells #[.int .i64 a, .int .i64 b, .int .i64 c, fv] 70)) (.cells #[.int .i64 0, .int .i64 0, .int .i64 0, .slice none 0 0] 24)
  unfold PBox
  simpa using this
theorem LW.frozen {w wr : World} {pb rb : Nat} {a b c : Int} {fv : Value} (h : LW w wr pb rb a b c fv) (i : Nat) : wr.frozen? ⟨rb, i, none⟩ = false := frozen_of_row wr rb i _ _ h.r
theorem sameOn_per {F : Int → Int → Int} {a b c dx dy : Int} (h : Base F a b c) : SameOn F a dx dy c ↔ Per F dx dy := by
  constructor
  · intro hs
    exact h.per fun x y h0 h1 h2 h3 => (hs x y h0 h1 h2 h3).symm
  · intro hp x y _ _ _ _
    exact (hp x y).symm
theorem tmod_pos {n d : Int} (hn : 0 ≤ n) : n.tmod d = n % d := Int.tmod_eq_emod_of_nonneg hn
theorem Least.b_uniq {F : Int → Int → Int} {a b c b' : Int} (h : Least F a b c) (h0 : 0 ≤ b') (h1 : b' < a) (hp : Per F b' c) : b' = b := by
  have h2 := hp.sub h.pb
  rw [Int.sub_self] at h2
  have h3 := h.row h2
  have := h.b0; have := h.b1; have := h.a0
  rcases Int.lt_trichotomy b' b with h4 | h4 | h4
  · have e : (b' - b) % a = b' - b + a := by
      rw [← Int.add_emod_right]; exact Int.emod_eq_of_lt (by omega) (by omega)
    omega
  · exact h4
  · have e : (b' - b) % a = b' - b := Int.emod_eq_of_lt (by omega) (by omega)
    omega
set_option maxRecDepth 100000 in
set_option maxHeartbeats 2000000 in
theorem pleast_any (F : Int → Int → Int) (a b c a1 b1 c1 : Int) (hB : Base F a b c) (hL : Least F a1 b1 c1) (ha2 : a ≤ 10000000) (hc2 : c ≤ 10000000) (fv : Value) (w : World) (hF : FunV w fv F 50000000) :
    Calls Tryz.prog 68 #[.agg #[.int .i64 a, .int .i64 b, .int .i64 c, fv]] w (OutP w (if a1 * c1 ≤ 144 then leastP F a1 b1 c1 else zeroP) (.bool (decide (a1 * c1 ≤ 144)))) := by
  have HF := Lib.hid hF
  have HB := Lib.hid hB
  have HL := Lib.hid hL
  obtain ⟨l1, l2, l3, l4⟩ := hL.le hB
  have HD := Lib.hid (And.intro l3 l4)
  have a0 := hB.a0
  have c0 := hB.c0
  have a10 := hL.a0
  have c10 := hL.c0
  have b10 := hL.b0
  have b11 := hL.b1
  obtain ⟨r, hr⟩ : ∃ r, r = OutP w (if a1 * c1 ≤ 144 then leastP F a1 b1 c1 else zeroP) (.bool (decide (a1 * c1 ≤ 144))) := ⟨_, rfl⟩
  rw [← hr]
  have HRR := Lib.hid hr
  clear hr hF hB hL l3 l4
  go_enter Tryz.func68, Tryz.ntmps68
  go_upto_region 2 with fail
  have T0 := Lib.hid (LW.start w a b c fv)
  obtain ⟨W, hW⟩ : ∃ W, W = (w.alloc (.cells #[.int .i64 a, .int .i64 b, .int .i64 c, fv] 70)).alloc (.cells #[.int .i64 0, .int .i64 0, .int .i64 0, .slice none 0 0] 24) := ⟨_, rfl⟩
  rw [← hW] at T0 ⊢
  obtain ⟨rb, hrb⟩ : ∃ rb, rb = w.heap.size + 1 := ⟨_, rfl⟩
  rw [← hrb] at T0 ⊢
  clear hW hrb
  go_loopw [4] (fun t wr => ∃ k : Int, t = .int .i64 k ∧ 1 ≤ k ∧ k ≤ 144 ∧ k ≤ a1 ∧ Hid (LW w wr w.heap.size rb a b c fv)) (fun t _ => (145 - intOf t).toNat)
  case atStart => exact ⟨1, rfl, by omega, by omega, by omega, T0⟩
  case round =>
    clear T0
    obtain ⟨k, rfl, hk1, hk2, hk3, hr⟩ := hrel
    obtain ⟨p0, p1, p2, p3, p4⟩ := hr.out.p.cells
    obtain ⟨r0, r1, r2, r3, r4⟩ := hr.out.r.cells
    have f0 := hr.out.frozen 0
    have f1 := hr.out.frozen 1
    have f2 := hr.out.frozen 2
    have f3 := hr.out.frozen 3
    have hne : (k == 0) = false := by rw [beq_eq_false_iff_ne]; omega
    have htm := tmod_pos (n := a) (d := k) (by omega)
    have hmb0 := Int.emod_nonneg a (show k ≠ 0 by omega)
    have hmb1 := Int.emod_lt_of_pos a (show 0 < k by omega)
    obtain ⟨q, hq⟩ : ∃ q, q = a % k := ⟨_, rfl⟩
    rw [← hq] at htm hmb0 hmb1
    have HQ := Lib.hid hq
    have HTM := Lib.hid htm
    clear hq htm
    by_cases hq0 : q = 0
    · have d1 : ((a.tmod k) != 0) = false := by rw [HTM.out, hq0]; rfl
      have d1' : ((a % k) != 0) = false := by rw [← HQ.out, hq0]; rfl
      clear hq0
      go_wp2_with fail
      by_cases hp : Per F k 0
      · refine (repeats_any F a b c fv k 0 true ⟨fun _ => (sameOn_per HB.out).2 hp, fun _ => rfl⟩ (by omega) (by omega) (by omega) (by omega) (by omega) (by omega) wr (HF.out.below hr.out.below)).mono ?_
        rintro e w2 ⟨rfl, hb2⟩
        obtain rfl : a1 = k := by have := HL.out.la k (by omega) hp; omega
        have R2 := Lib.hid (hr.out.keep hb2)
        clear hr hp hb2 p0 p1 p2 p3 p4 r0 r1 r2 r3 r4 f0 f1 f2 f3 HQ HTM hmb0 hmb1 d1 d1'
        go_upto_region 7 with fail
        go_loopw [5] (fun t wr => ∃ k : Int, t = .int .i64 k ∧ 1 ≤ k ∧ k ≤ c1 ∧ Hid (LW w wr w.heap.size rb a b c fv)) (fun t _ => (c1 + 1 - intOf t).toNat)
        case atStart => exact ⟨1, rfl, by omega, by omega, R2⟩
        case round =>
          clear R2
          obtain ⟨k, rfl, hk1', hk2', hr⟩ := hrel
          obtain ⟨m, hm⟩ : ∃ m, m = a1 * k := ⟨_, rfl⟩
          have hmm : a1 * k ≤ a1 * c1 := Int.mul_le_mul_of_nonneg_left (by omega) (by omega)
          have hm1 : 1 * k ≤ a1 * k := Int.mul_le_mul_of_nonneg_right (by omega) (by omega)
          have hm2 : a1 * k ≤ 144 * k := Int.mul_le_mul_of_nonneg_right (by omega) (by omega)
          by_cases h144 : m ≤ 144
          · have hk144 : k ≤ 144 := by omega
            have d1 : decide (a1 * k ≤ 144) = true := decide_eq_true (by omega)
            have hmb : -1000000 ≤ a1 * k ∧ a1 * k ≤ 1000000 := by omega
            have hak : a1 * k ≤ 144 := by omega
            have R3 := hr
            clear hr hm hmm hm1 hm2
            go_upto_region 10 with fail
            go_loopw [6] (fun t wq => ∃ j : Int, t = .int .i64 j ∧ 0 ≤ j ∧ j ≤ a1 ∧ (k = c1 → j ≤ b1) ∧ Hid (LW w wq w.heap.size rb a b c fv)) (fun t _ => (a1 - intOf t).toNat)
            case atStart => exact ⟨0, rfl, by omega, by omega, fun _ => by omega, R3⟩
            case round =>
              clear R3
              obtain ⟨j, rfl, hj0, hj1, hj2, hq⟩ := hrel
              obtain ⟨p0, p1, p2, p3, p4⟩ := hq.out.p.cells
              have hne : (k == 0) = false := by rw [beq_eq_false_iff_ne]; omega
              have hmb0 := Int.emod_nonneg c (show k ≠ 0 by omega)
              have hmb1 := Int.emod_lt_of_pos c (show 0 < k by omega)
              by_cases hja : j < a1
              · have d2 : decide (j < a1) = true := decide_eq_true hja
                obtain ⟨q, hq0⟩ : ∃ q, q = c % k := ⟨_, rfl⟩
                have HQ := Lib.hid hq0
                by_cases hz : q = 0
                · have d3 : ((c % k) == 0) = true := by rw [← hq0, hz]; rfl
                  clear hq0 hz
                  go_wp2_with fail
                  by_cases hp : Per F j k
                  · refine (repeats_any F a b c fv j k true ⟨fun _ => (sameOn_per HB.out).2 hp, fun _ => rfl⟩ (by omega) (by omega) (by omega) (by omega) (by omega) (by omega) wr (HF.out.below hq.out.below)).mono ?_
                    rintro e w2 ⟨rfl, hb2⟩
                    obtain rfl : c1 = k := by have := HL.out.lc j k (by omega) hp; omega
                    obtain rfl : b1 = j := (HL.out.b_uniq hj0 hja hp).symm
                    have H2 := Lib.hid (hq.out.keep hb2)
                    clear hq hb2 hp p0 p1 p2 p3 p4 d3 HQ hmb0 hmb1 d2
                    obtain ⟨p0, p1, p2, p3, p4⟩ := H2.out.p.cells
                    have htb := table_any F a b c fv a1.toNat c1.toNat b1 (by omega) (by omega) (by
                      have : a1.toNat * c1.toNat = (a1 * c1).toNat := by
                        obtain ⟨u, hu⟩ : ∃ u : Nat, a1 = u := ⟨a1.toNat, by omega⟩
                        obtain ⟨v, hv⟩ : ∃ v : Nat, c1 = v := ⟨c1.toNat, by omega⟩
                        rw [hu, hv, ← Int.natCast_mul, Int.toNat_natCast, Int.toNat_natCast, Int.toNat_natCast]
                      omega) w2 (HF.out.below H2.out.below)
                    rw [Int.toNat_of_nonneg (by omega), Int.toNat_of_nonneg (by omega)] at htb
                    have HTB := Lib.hid htb
                    clear htb
                    go_wp2_with fail
                    refine HTB.out.mono ?_
                    rintro e w3 ⟨v, rfl, hown, hb3⟩
                    have h3 := H2.out.keep hb3
                    obtain ⟨Av, nv, hv, -⟩ := hown.isL
                    obtain ⟨nn, hnn⟩ : ∃ nn, nn = (tabN F a1.toNat (a1.toNat * c1.toNat)).length := ⟨_, rfl⟩
                    rw [← hnn] at hv
                    clear hnn
                    subst hv
                    have hsm : a1 * c1 ≤ 144 := hak
                    have HRF := Lib.hid (show r = OutP w (leastP F a1 b1 c1) (.bool true) by rw [HRR.out, if_pos hsm, decide_eq_true hsm])
                    have hgr := set4_grown w3 rb a1 b1 c1 (.slice Av nn nv)
                    have HP4 := Lib.hid (h3.r.put a1 b1 c1 (.slice Av nn nv))
                    have HB4 := Lib.hid (And.intro (OwnI.down (OwnI.grown hown hgr (by
                      rcases hv : (Value.slice Av nn nv).ownBlock with _ | g
                      · exact .inl rfl
                      · exact .inr (fun e => by have h1 := hown.lt' g hv; have h2 := (Array.getElem?_eq_some_iff.1 H2.out.r).1; cases e; omega))) H2.out.below.size) (Below.grown h3.below hgr h3.below.size (fun g e => by cases e; exact h3.wr')))
                    obtain ⟨r0, r1, r2, r3, r4⟩ := h3.r.cells
                    have f0 := h3.frozen 0
                    have f1 := h3.frozen 1
                    have f2 := h3.frozen 2
                    have f3 := h3.frozen 3
                    clear h3 hgr hown hb3 HTB H2 HRR hsm hak p0 p1 p2 p3 p4 hj2 h144 hmb
                    go_wp2
                    refine bodyPost_ret (v := .tuple #[.agg #[.int .i64 a1, .int .i64 b1, .int .i64 c1, .slice Av nn nv], .bool true]) (ret_pat2 rfl rfl rfl HP4.out) rfl ?_
                    rw [HRF.out]
                    exact ⟨_, rfl, HB4.out⟩
                  · refine (repeats_any F a b c fv j k false ⟨fun h => (by cases h), fun h => absurd ((sameOn_per HB.out).1 h) hp⟩ (by omega) (by omega) (by omega) (by omega) (by omega) (by omega) wr (HF.out.below hq.out.below)).mono ?_
                    rintro e w2 ⟨rfl, hb2⟩
                    have hst : k = c1 → j + 1 ≤ b1 := fun e => by
                      have h1 := hj2 e
                      by_cases h2 : j = b1
                      · exact absurd (by rw [h2, e]; exact HL.out.pb) hp
                      · omega
                    have R2 := Lib.hid (hq.out.keep hb2)
                    clear hq hb2 hp p0 p1 p2 p3 p4 hj2
                    go_wp2
                    go_roundw
                    case rel => exact ⟨j + 1, rfl, by omega, by omega, hst, R2⟩
                    case measure => simp [intOf]; omega
                · have d3 : ((c % k) == 0) = false := by rw [← hq0, beq_eq_false_iff_ne]; exact hz
                  have hkc : k ≠ c1 := fun e => hz (by rw [hq0, e]; exact HD.out.2)
                  clear hq0 hz hj2
                  go_wp2
                  go_roundw
                  case rel => exact ⟨k + 1, rfl, by omega, by omega, hq⟩
                  case measure => simp [intOf]; omega
              · have d2 : decide (j < a1) = false := decide_eq_false hja
                have hkc : k ≠ c1 := fun e => by have := hj2 e; omega
                clear hj2
                go_wp2
                go_roundw
                case rel => exact ⟨k + 1, rfl, by omega, by omega, hq⟩
                case measure => simp [intOf]; omega
          · have d1 : decide (a1 * k ≤ 144) = false := decide_eq_false (by omega)
            have hbig : ¬ (a1 * c1 ≤ 144) := by omega
            have hmb : -1000000000000 ≤ a1 * k ∧ a1 * k ≤ 1000000000000 := by omega
            obtain ⟨r0, r1, r2, r3, r4⟩ := hr.out.r.cells
            have f0 := hr.out.frozen 0
            have f1 := hr.out.frozen 1
            have f2 := hr.out.frozen 2
            have f3 := hr.out.frozen 3
            have HRF := Lib.hid (show r = OutP w zeroP (.bool false) by rw [HRR.out, if_neg hbig, decide_eq_false hbig])
            have HP4 := Lib.hid (hr.out.r.put 0 0 0 (.slice none 0 0))
            have HB4 := Lib.hid (Below.grown hr.out.below (set4_grown wr rb 0 0 0 (.slice none 0 0)) hr.out.below.size (fun g e => by cases e; exact hr.out.wr'))
            clear hr HRR hbig hm hmm hm1 hm2
            go_wp2
            refine bodyPost_ret (v := .tuple #[.agg #[.int .i64 0, .int .i64 0, .int .i64 0, .slice none 0 0], .bool false]) (ret_pat2 rfl rfl rfl HP4.out) rfl ?_
            rw [HRF.out]
            exact ⟨_, rfl, OwnI.nil _ _, HB4.out⟩
      · refine (repeats_any F a b c fv k 0 false ⟨fun h => (by cases h), fun h => absurd ((sameOn_per HB.out).1 h) hp⟩ (by omega) (by omega) (by omega) (by omega) (by omega) (by omega) wr (HF.out.below hr.out.below)).mono ?_
        rintro e w2 ⟨rfl, hb2⟩
        have hka : k ≠ a1 := fun e => hp (by rw [e]; exact HL.out.pa)
        have R2 := Lib.hid (hr.out.keep hb2)
        clear hr hp hb2 p0 p1 p2 p3 p4 r0 r1 r2 r3 r4 f0 f1 f2 f3
        obtain ⟨r0, r1, r2, r3, r4⟩ := R2.out.r.cells
        have f0 := R2.out.frozen 0
        have f1 := R2.out.frozen 1
        have f2 := R2.out.frozen 2
        have f3 := R2.out.frozen 3
        by_cases h144 : 144 < k + 1
        · have d2 : decide (144 < k + 1) = true := decide_eq_true h144
          have hbig : ¬ (a1 * c1 ≤ 144) := fun hh => by
            have : a1 * 1 ≤ a1 * c1 := Int.mul_le_mul_of_nonneg_left (by omega) (by omega)
            omega
          have HRF := Lib.hid (show r = OutP w zeroP (.bool false) by rw [HRR.out, if_neg hbig, decide_eq_false hbig])
          have HP4 := Lib.hid (R2.out.r.put 0 0 0 (.slice none 0 0))
          have HB4 := Lib.hid (Below.grown R2.out.below (set4_grown w2 rb 0 0 0 (.slice none 0 0)) R2.out.below.size (fun g e => by cases e; exact R2.out.wr'))
          clear R2 HRR hbig
          go_wp2
          refine bodyPost_ret (v := .tuple #[.agg #[.int .i64 0, .int .i64 0, .int .i64 0, .slice none 0 0], .bool false]) (ret_pat2 rfl rfl rfl HP4.out) rfl ?_
          rw [HRF.out]
          exact ⟨_, rfl, OwnI.nil _ _, HB4.out⟩
        · have d2 : decide (144 < k + 1) = false := decide_eq_false h144
          go_wp2
          go_roundw
          case rel => exact ⟨k + 1, rfl, by omega, by omega, by omega, R2⟩
          case measure => simp [intOf]; omega
    · have hka : k ≠ a1 := fun e => hq0 (by rw [HQ.out, e]; exact HD.out.1)
      have d1 : ((a.tmod k) != 0) = true := by rw [bne_iff_ne, HTM.out]; exact hq0
      have d1' : ((a % k) != 0) = true := by rw [bne_iff_ne, ← HQ.out]; exact hq0
      clear hq0
      by_cases h144 : 144 < k + 1
      · have d2 : decide (144 < k + 1) = true := decide_eq_true h144
        have hbig : ¬ (a1 * c1 ≤ 144) := fun hh => by
          have : a1 * 1 ≤ a1 * c1 := Int.mul_le_mul_of_nonneg_left (by omega) (by omega)
          omega
        have HRF := Lib.hid (show r = OutP w zeroP (.bool false) by rw [HRR.out, if_neg hbig, decide_eq_false hbig])
        have HP4 := Lib.hid (hr.out.r.put 0 0 0 (.slice none 0 0))
        have HB4 := Lib.hid (Below.grown hr.out.below (set4_grown wr rb 0 0 0 (.slice none 0 0)) hr.out.below.size (fun g e => by cases e; exact hr.out.wr'))
        clear hr HRR hbig
        go_wp2
        refine bodyPost_ret (v := .tuple #[.agg #[.int .i64 0, .int .i64 0, .int .i64 0, .slice none 0 0], .bool false]) (ret_pat2 rfl rfl rfl HP4.out) rfl ?_
        rw [HRF.out]
        exact ⟨_, rfl, OwnI.nil _ _, HB4.out⟩
      · have d2 : decide (144 < k + 1) = false := decide_eq_false h144
        go_wp2
        go_roundw
        case rel => exact ⟨k + 1, rfl, by omega, by omega, by omega, hr⟩
        case measure => simp [intOf]; omega
end Go.Proofs.YtlinldbbhdpgcaaGreatDoor
/-
  THE PROGRAM: the plane of a pattern; its least pattern.
-/
namespace Go.Proofs.YtlinldbbhdpgcaaGreatDoor
open Go.RowKit
theorem col_base {p : PatD} (h : PatOK p) : Base (colF p) p.a p.b p.c := by
  obtain ⟨a, b, c, xs⟩ := p
  obtain ⟨a0, a1, b0, b1, c0, c1, hl⟩ := h
  simp only at a0 c0
  refine ⟨a0, c0, fun x y => ?_, fun x y => ?_⟩
  · unfold colF homeX
    simp only [Int.add_zero]
    rw [show x + a - y / c * b = x - y / c * b + a by omega, Int.add_emod_right]
  · unfold colF homeX
    simp only [Int.add_emod_right]
    rw [Int.add_ediv_of_dvd_right (Int.dvd_refl c), Int.ediv_self (show c ≠ 0 by omega), Int.add_mul, Int.one_mul, show x + b - (y / c * b + b) = x - y / c * b by omega]
theorem planeSz (a b c : Int) (s : Value) : (Tryz.prog.info? 70).map (·.size) = some (#[Value.int .i64 a, .int .i64 b, .int .i64 c, s] : Array Value).size := by
  have h : (Tryz.prog.info? 70).map (·.size) = some 4 := by kernel_rfl
  exact h
theorem ret_plane {w : World} {bx : Nat} {a b c : Int} {s : Value} {tmps : Array Value} {fn : Func} {p : Tmp} (h : fn.results = #[.cell p 70]) (hp : tmps.getD p undef = .pointer (some ⟨bx, 0, none⟩)) (hg : PlBox w bx a b c s) : (results fn tmps).run Tryz.prog w = .ok (.agg #[.int .i64 a, .int .i64 b, .int .i64 c, s]) w :=
  results_cell_row h _ _ bx 70 _ (0, 0) _ hp hg Tryz.underlying70 rfl (planeSz a b c s)
/-- A pattern among the arguments: its cells lie where the slice says. -/
def PatIn (w : World) (p : PatD) (A : Option Addr) : Prop := IsL w A p.xs.length p.xs
theorem PatIn.below {w w' : World} {p : PatD} {A : Option Addr} (h : PatIn w p A) (hb : Below w.heap.size w w') : PatIn w' p A := IsL.below hb h
set_option maxRecDepth 100000 in
theorem of_color (w : World) (bx : Nat) (p : PatD) (A : Option Addr) (cap : Nat) (h : PBox w bx p.a p.b p.c (.slice A p.xs.length cap)) (hp : PatOK p) (hi : PatIn w p A) : FunV w (.func (.func 88) #[] #[.pointer (some ⟨bx, 0, none⟩)]) (colF p) 50000000 := by
  refine ⟨_, _, rfl, fun args w' => ?_, fun w' hb x y h0 h1 h2 h3 => ?_⟩
  · go_simp
  · obtain ⟨q0, q1, q2, q3, q4⟩ := (h.keep hb).cells
    have HC := Lib.hid (pcolor_any p hp A p.xs.length cap x y (by omega) (by omega) (by omega) (by omega) w' (hi.below hb))
    clear h hi hb hp
    show Calls Tryz.prog 88 #[.int .i64 x, .int .i64 y, .pointer (some ⟨bx, 0, none⟩)] w' _
    go_enter Tryz.func88, Tryz.ntmps88
    go_wp2_with fail
    refine HC.out.mono ?_
    rintro e w2 ⟨rfl, hb2⟩
    go_wp2
    go_ret
    exact ⟨rfl, hb2⟩
set_option maxRecDepth 100000 in
theorem of_any (p : PatD) (hp : PatOK p) (A : Option Addr) (cap : Nat) (w : World) (hi : PatIn w p A) :
    Calls Tryz.prog 60 #[.agg #[.int .i64 p.a, .int .i64 p.b, .int .i64 p.c, .slice A p.xs.length cap]] w fun e w' => ∃ fv, e = .returned (.agg #[.int .i64 p.a, .int .i64 p.b, .int .i64 p.c, fv]) ∧ FunV w' fv (colF p) 50000000 ∧ Below w.heap.size w w' := by
  have hmf : ∀ (fn : Fn) (first cap : Array Value) (w : World), (Instr.makeFunc fn first cap).run Tryz.prog w = .ok (.func fn first cap) w := fun _ _ _ _ => rfl
  have HI := Lib.hid hi
  have HP := Lib.hid hp
  clear hi hp
  go_enter Tryz.func60, Tryz.ntmps60
  go_wp2
  obtain ⟨W, hW⟩ : ∃ W, W = (w.alloc (.cells #[.int .i64 p.a, .int .i64 p.b, .int .i64 p.c, .slice A p.xs.length cap] 24)).alloc (.cells #[.int .i64 p.a, .int .i64 p.b, .int .i64 p.c, .func (.func 88) #[] #[.pointer (some ⟨w.heap.size, 0, none⟩)]] 70) := ⟨_, rfl⟩
  rw [← hW]
  have hb : Below w.heap.size w W := by rw [hW]; exact (by repeat' (first | (with_reducible exact Below.refl _ _) | (with_reducible assumption) | (with_reducible refine below_drewN ?_ _) | (with_reducible refine below_step (by assumption) ?_ ?_) | (with_reducible refine Below.alloc ?_ ?_ _) | (with_reducible refine Below.setCell ?_ ?_ _) | (with_reducible refine Below.drew ?_) | go_size | (exact Below.size (by assumption)) | (refine Nat.le_trans (Below.size (by assumption)) ?_)))
  have hbx : PBox W w.heap.size p.a p.b p.c (.slice A p.xs.length cap) := by rw [hW]; exact (heap_alloc_old _ _ (by simp)).trans (heap_alloc_new w _)
  have hpl : PlBox W (w.heap.size + 1) p.a p.b p.c (.func (.func 88) #[] #[.pointer (some ⟨w.heap.size, 0, none⟩)]) := by
    have := heap_alloc_new (w.alloc (.cells #[.int .i64 p.a, .int .i64 p.b, .int .i64 p.c, .slice A p.xs.length cap] 24)) (.cells #[.int .i64 p.a, .int .i64 p.b, .int .i64 p.c, .func (.func 88) #[] #[.pointer (some ⟨w.heap.size, 0, none⟩)]] 70)
    unfold PlBox
    rw [hW]
    simpa using this
  refine bodyPost_ret (v := .agg #[.int .i64 p.a, .int .i64 p.b, .int .i64 p.c, .func (.func 88) #[] #[.pointer (some ⟨w.heap.size, 0, none⟩)]]) (ret_plane rfl rfl hpl) rfl ?_
  exact ⟨_, rfl, of_color W w.heap.size p A cap hbx HP.out (HI.out.below hb), hb⟩
/-- A pattern is put into the box of the result. -/
theorem put_ret {w wr : World} {rb B : Nat} {a b c : Int} {s : Value} (hr : PBox wr rb a b c s) (hb : Below w.heap.size w wr) (hw : w.heap.size ≤ rb) (p : PatD) (v : Value) (ho : OwnI wr B v p.xs) (hB : w.heap.size ≤ B) (hrB : rb < B) : PBox (set4 wr rb p.a p.b p.c v) rb p.a p.b p.c v ∧ OwnI (set4 wr rb p.a p.b p.c v) w.heap.size v p.xs ∧ Below w.heap.size w (set4 wr rb p.a p.b p.c v) := by
  have hgr := set4_grown wr rb p.a p.b p.c v
  refine ⟨hr.put _ _ _ _, OwnI.down (OwnI.grown ho hgr ?_) hB, Below.grown hb hgr hb.size (fun g e => by cases e; exact hw)⟩
  rcases hv : v.ownBlock with _ | g
  · exact .inl rfl
  · exact .inr (fun e => by have := ho.lt' g hv; cases e; omega)
theorem put_zero {w wr : World} {rb : Nat} {a b c : Int} {s : Value} (hr : PBox wr rb a b c s) (hb : Below w.heap.size w wr) (hw : w.heap.size ≤ rb) : PBox (set4 wr rb 0 0 0 (.slice none 0 0)) rb 0 0 0 (.slice none 0 0) ∧ Below w.heap.size w (set4 wr rb 0 0 0 (.slice none 0 0)) :=
  ⟨hr.put _ _ _ _, Below.grown hb (set4_grown wr rb 0 0 0 (.slice none 0 0)) hb.size (fun g e => by cases e; exact hw)⟩
/-- The code of a plane's least pattern. -/
def tooBig (a1 c1 : Int) : Int := if a1 * c1 ≤ 144 then 0 else 4
def leastT (F : Int → Int → Int) (a1 b1 c1 : Int) : PatD := if a1 * c1 ≤ 144 then leastP F a1 b1 c1 else zeroP
theorem OutP.zero {w w' : World} {z : Value} (hb : Below w.heap.size w w') : OutP w zeroP z (.returned (.tuple #[.agg #[.int .i64 0, .int .i64 0, .int .i64 0, .slice none 0 0], z])) w' := ⟨_, rfl, OwnI.nil _ _, hb⟩
set_option maxRecDepth 100000 in
set_option maxHeartbeats 1000000 in
theorem presult_any (F : Int → Int → Int) (a b c a1 b1 c1 : Int) (hB : Base F a b c) (hL : Least F a1 b1 c1) (ha2 : a ≤ 10000000) (hc2 : c ≤ 10000000) (fv : Value) (w : World) (hF : FunV w fv F 50000000) :
    Calls Tryz.prog 33 #[.agg #[.int .i64 a, .int .i64 b, .int .i64 c, fv]] w (OutP w (leastT F a1 b1 c1) (.int .i64 (tooBig a1 c1))) := by
  have HC := Lib.hid (fun w (hF : FunV w fv F 50000000) => pleast_any F a b c a1 b1 c1 hB hL ha2 hc2 fv w hF)
  have HF := Lib.hid hF
  obtain ⟨r, hr⟩ : ∃ r, r = OutP w (leastT F a1 b1 c1) (.int .i64 (tooBig a1 c1)) := ⟨_, rfl⟩
  rw [← hr]
  unfold leastT tooBig at hr
  have HRR := Lib.hid hr
  clear hB hL ha2 hc2 hF hr
  go_enter Tryz.func33, Tryz.ntmps33
  go_wp2_with fail
  have T0 := Lib.hid (LW.start w a b c fv)
  obtain ⟨W, hW⟩ : ∃ W, W = (w.alloc (.cells #[.int .i64 a, .int .i64 b, .int .i64 c, fv] 70)).alloc (.cells #[.int .i64 0, .int .i64 0, .int .i64 0, .slice none 0 0] 24) := ⟨_, rfl⟩
  rw [← hW] at T0 ⊢
  obtain ⟨rb, hrb⟩ : ∃ rb, rb = w.heap.size + 1 := ⟨_, rfl⟩
  rw [← hrb] at T0 ⊢
  clear hW hrb
  have hc := HC.out W (HF.out.below T0.out.below)
  have hwW := T0.out.below.size
  by_cases h144 : a1 * c1 ≤ 144
  · rw [if_pos h144, decide_eq_true h144] at hc
    have hrf := HRR.out
    rw [if_pos h144, if_pos h144] at hrf
    obtain ⟨p, hp⟩ : ∃ p, p = leastP F a1 b1 c1 := ⟨_, rfl⟩
    rw [← hp] at hc hrf
    have HRF := Lib.hid hrf
    refine hc.mono ?_
    clear hc hp h144 HC HRR hrf
    rintro e w1 ⟨v, rfl, hown, hb1⟩
    obtain ⟨A, n, rfl, -⟩ := hown.isL
    have T1 := Lib.hid (T0.out.keep hb1)
    have hWr := (Array.getElem?_eq_some_iff.1 T0.out.r).1
    go_upto_region 2 with fail
    obtain ⟨W2, hW2⟩ : ∃ W2, W2 = w1.alloc (.cells #[.int .i64 p.a, .int .i64 p.b, .int .i64 p.c, .slice A p.xs.length n] 24) := ⟨_, rfl⟩
    show Code.wp _ _ _ _ (w1.alloc (.cells #[.int .i64 p.a, .int .i64 p.b, .int .i64 p.c, .slice A p.xs.length n] 24))
    rw [← hW2]
    have hal := (Below.refl w1.heap.size w1).alloc (Nat.le_refl _) (.cells #[.int .i64 p.a, .int .i64 p.b, .int .i64 p.c, .slice A p.xs.length n] 24)
    rw [← hW2] at hal
    have T2 := T1.out.keep hal
    have HP2 := Lib.hid (put_ret T2.r T2.below T2.wr' p _ (OwnI.keep hal hown) hwW hWr)
    obtain ⟨r0, r1, r2, r3, r4⟩ := T2.r.cells
    obtain ⟨s0, s1, s2, s3, s4⟩ := (show PBox W2 w1.heap.size p.a p.b p.c (.slice A p.xs.length n) by rw [hW2]; exact PBox.new _ _ _ _ _).cells
    have f0 := T2.frozen 0
    have f1 := T2.frozen 1
    have f2 := T2.frozen 2
    have f3 := T2.frozen 3
    clear hown T1 T2 hal hW2 hwW HF
    go_wp2
    refine bodyPost_ret (v := .tuple #[.agg #[.int .i64 p.a, .int .i64 p.b, .int .i64 p.c, .slice A p.xs.length n], .int .i64 0]) (ret_pat2 rfl rfl rfl HP2.out.1) rfl ?_
    rw [HRF.out]
    exact ⟨_, rfl, HP2.out.2⟩
  · rw [if_neg h144, decide_eq_false h144] at hc
    have hrf := HRR.out
    rw [if_neg h144, if_neg h144] at hrf
    have HRF := Lib.hid hrf
    refine hc.mono ?_
    clear hc h144 HC HRR hrf
    rintro e w1 ⟨v, rfl, hown, hb1⟩
    obtain ⟨A, n, rfl, -⟩ := hown.isL
    have T1 := Lib.hid (T0.out.keep hb1)
    go_upto_region 2 with fail
    obtain ⟨W2, hW2⟩ : ∃ W2, W2 = w1.alloc (.cells #[.int .i64 zeroP.a, .int .i64 zeroP.b, .int .i64 zeroP.c, .slice A zeroP.xs.length n] 24) := ⟨_, rfl⟩
    show Code.wp _ _ _ _ (w1.alloc (.cells #[.int .i64 zeroP.a, .int .i64 zeroP.b, .int .i64 zeroP.c, .slice A zeroP.xs.length n] 24))
    rw [← hW2]
    have hal := (Below.refl w1.heap.size w1).alloc (Nat.le_refl _) (.cells #[.int .i64 zeroP.a, .int .i64 zeroP.b, .int .i64 zeroP.c, .slice A zeroP.xs.length n] 24)
    rw [← hW2] at hal
    have T2 := T1.out.keep hal
    have HP2 := Lib.hid (put_zero T2.r T2.below T2.wr')
    obtain ⟨r0, r1, r2, r3, r4⟩ := T2.r.cells
    obtain ⟨s0, s1, s2, s3, s4⟩ := (show PBox W2 w1.heap.size zeroP.a zeroP.b zeroP.c (.slice A zeroP.xs.length n) by rw [hW2]; exact PBox.new _ _ _ _ _).cells
    have f0 := T2.frozen 0
    have f1 := T2.frozen 1
    have f2 := T2.frozen 2
    have f3 := T2.frozen 3
    clear hown T1 T2 hal hW2 hwW HF
    go_wp2
    refine bodyPost_ret (v := .tuple #[.agg #[.int .i64 0, .int .i64 0, .int .i64 0, .slice none 0 0], .int .i64 4]) (ret_pat2 rfl rfl rfl HP2.out.1) rfl ?_
    rw [HRF.out]
    exact OutP.zero HP2.out.2
end Go.Proofs.YtlinldbbhdpgcaaGreatDoor
/-
  THE PROGRAM: Validate, near, check; Least.
-/
namespace Go.Proofs.YtlinldbbhdpgcaaGreatDoor
open Go.RowKit
def badC (x : Int) : Bool := decide (x < 0) || decide (8 ≤ x)
/-- The first error of a pattern. -/
def valP (p : PatD) : Int :=
  if p.a < 1 ∨ 144 < p.a ∨ p.c < 1 ∨ 144 < p.c ∨ p.b < 0 ∨ p.a ≤ p.b then 1
  else if 144 < p.a * p.c then 4
  else if (p.xs.length : Int) ≠ p.a * p.c ∨ p.xs.any badC = true then 1 else 0
structure GoodP (p : PatD) : Prop where
  a0 : 0 < p.a
  a1 : p.a ≤ 144
  b0 : 0 ≤ p.b
  b1 : p.b < p.a
  c0 : 0 < p.c
  c1 : p.c ≤ 144
  ac : p.a * p.c ≤ 144
  len : p.a * p.c = p.xs.length
  col : ∀ x ∈ p.xs, 0 ≤ x ∧ x < 8
theorem valP_zero {p : PatD} (h : valP p = 0) : GoodP p := by
  unfold valP at h
  split at h
  · cases h
  · split at h
    · cases h
    · split at h
      · cases h
      · rename_i h1 h2 h3
        refine ⟨by omega, by omega, by omega, by omega, by omega, by omega, by omega, by omega, fun x hx => ?_⟩
        have h4 : ¬ p.xs.any badC = true := fun e => h3 (.inr e)
        rw [Bool.not_eq_true, List.any_eq_false] at h4
        have := h4 x hx
        simp only [badC, Bool.or_eq_true, decide_eq_true_eq] at this
        omega
theorem GoodP.ok {p : PatD} (h : GoodP p) : PatOK p := ⟨h.a0, by have := h.a1; omega, h.b0, by have := h.b1; have := h.a1; omega, h.c0, by have := h.c1; omega, h.len⟩
theorem enter_val (args : Array Value) (w : World) : (callFunc 70 args).run Tryz.prog w = .ok (.enter 70 args) w := by go_simp
set_option maxRecDepth 100000 in
theorem pred_val (w : World) (xs : List Int) : PPred 70 #[] badC w xs := fun w' x _ _ => by
  show Calls Tryz.prog 70 #[.int .i64 x] w' _
  obtain ⟨r, hr⟩ : ∃ r, r = badC x := ⟨_, rfl⟩
  rw [← hr]
  unfold badC at hr
  by_cases h : x < 0
  · have HR := Lib.hid (show true = r by rw [hr, decide_eq_true h]; rfl)
    have d1 : decide (x < 0) = true := decide_eq_true h
    clear hr
    go_enter Tryz.func70, Tryz.ntmps70
    go_wp2
    go_ret
    exact ⟨by rw [← HR.out]; rfl, Below.refl _ _⟩
  · have HR := Lib.hid (show decide (8 ≤ x) = r by rw [hr, decide_eq_false h]; rfl)
    have d1 : decide (x < 0) = false := decide_eq_false h
    clear hr
    go_enter Tryz.func70, Tryz.ntmps70
    go_wp2
    go_ret
    exact ⟨by rw [← HR.out]; rfl, Below.refl _ _⟩
set_option maxRecDepth 100000 in
set_option maxHeartbeats 1000000 in
theorem validateP_any (p : PatD) (hl : p.xs.length ≤ 1000000) (z : Int) (hz : valP p = z) (A : Option Addr) (cap : Nat) (w : World) (hi : PatIn w p A) :
    Calls Tryz.prog 34 #[.agg #[.int .i64 p.a, .int .i64 p.b, .int .i64 p.c, .slice A p.xs.length cap]] w fun e w' => e = .returned (.int .i64 z) ∧ Below w.heap.size w w' := by
  obtain ⟨a, b, c, xs⟩ := p
  simp only at hl ⊢
  have HI := Lib.hid (show IsL w A xs.length xs from hi)
  have HZ := Lib.hid (show (if a < 1 ∨ 144 < a ∨ c < 1 ∨ 144 < c ∨ b < 0 ∨ a ≤ b then 1 else if 144 < a * c then 4 else if (xs.length : Int) ≠ a * c ∨ xs.any badC = true then 1 else 0) = z from hz)
  clear hi hz
  by_cases h1 : a < 1 ∨ 144 < a ∨ c < 1 ∨ 144 < c ∨ b < 0 ∨ a ≤ b
  · have HR := Lib.hid (show 1 = z by rw [← HZ.out, if_pos h1])
    clear HZ
    by_cases e0 : a < 1
    · have d0 : decide (a < 1) = true := decide_eq_true e0
      clear h1
      go_enter Tryz.func34, Tryz.ntmps34
      go_wp2
      go_ret
      exact ⟨by rw [← HR.out]; rfl, (by repeat' (first | (with_reducible exact Below.refl _ _) | (with_reducible assumption) | (with_reducible refine below_drewN ?_ _) | (with_reducible refine below_step (by assumption) ?_ ?_) | (with_reducible refine Below.alloc ?_ ?_ _) | (with_reducible refine Below.setCell ?_ ?_ _) | (with_reducible refine Below.drew ?_) | go_size | (exact Below.size (by assumption)) | (refine Nat.le_trans (Below.size (by assumption)) ?_)))⟩
    have d0 : decide (a < 1) = false := decide_eq_false e0
    by_cases e1 : 144 < a
    · have d1 : decide (144 < a) = true := decide_eq_true e1
      clear h1
      go_enter Tryz.func34, Tryz.ntmps34
      go_wp2
      go_ret
      exact ⟨by rw [← HR.out]; rfl, (by repeat' (first | (with_reducible exact Below.refl _ _) | (with_reducible assumption) | (with_reducible refine below_drewN ?_ _) | (with_reducible refine below_step (by assumption) ?_ ?_) | (with_reducible refine Below.alloc ?_ ?_ _) | (with_reducible refine Below.setCell ?_ ?_ _) | (with_reducible refine Below.drew ?_) | go_size | (exact Below.size (by assumption)) | (refine Nat.le_trans (Below.size (by assumption)) ?_)))⟩
    have d1 : decide (144 < a) = false := decide_eq_false e1
    by_cases e2 : c < 1
    · have d2 : decide (c < 1) = true := decide_eq_true e2
      clear h1
      go_enter Tryz.func34, Tryz.ntmps34
      go_wp2
      go_ret
      exact ⟨by rw [← HR.out]; rfl, (by repeat' (first | (with_reducible exact Below.refl _ _) | (with_reducible assumption) | (with_reducible refine below_drewN ?_ _) | (with_reducible refine below_step (by assumption) ?_ ?_) | (with_reducible refine Below.alloc ?_ ?_ _) | (with_reducible refine Below.setCell ?_ ?_ _) | (with_reducible refine Below.drew ?_) | go_size | (exact Below.size (by assumption)) | (refine Nat.le_trans (Below.size (by assumption)) ?_)))⟩
    have d2 : decide (c < 1) = false := decide_eq_false e2
    by_cases e3 : 144 < c
    · have d3 : decide (144 < c) = true := decide_eq_true e3
      clear h1
      go_enter Tryz.func34, Tryz.ntmps34
      go_wp2
      go_ret
      exact ⟨by rw [← HR.out]; rfl, (by repeat' (first | (with_reducible exact Below.refl _ _) | (with_reducible assumption) | (with_reducible refine below_drewN ?_ _) | (with_reducible refine below_step (by assumption) ?_ ?_) | (with_reducible refine Below.alloc ?_ ?_ _) | (with_reducible refine Below.setCell ?_ ?_ _) | (with_reducible refine Below.drew ?_) | go_size | (exact Below.size (by assumption)) | (refine Nat.le_trans (Below.size (by assumption)) ?_)))⟩
    have d3 : decide (144 < c) = false := decide_eq_false e3
    by_cases e4 : b < 0
    · have d4 : decide (b < 0) = true := decide_eq_true e4
      clear h1
      go_enter Tryz.func34, Tryz.ntmps34
      go_wp2
      go_ret
      exact ⟨by rw [← HR.out]; rfl, (by repeat' (first | (with_reducible exact Below.refl _ _) | (with_reducible assumption) | (with_reducible refine below_drewN ?_ _) | (with_reducible refine below_step (by assumption) ?_ ?_) | (with_reducible refine Below.alloc ?_ ?_ _) | (with_reducible refine Below.setCell ?_ ?_ _) | (with_reducible refine Below.drew ?_) | go_size | (exact Below.size (by assumption)) | (refine Nat.le_trans (Below.size (by assumption)) ?_)))⟩
    have d4 : decide (b < 0) = false := decide_eq_false e4
    have d5 : decide (a ≤ b) = true := decide_eq_true (by omega)
    clear h1
    go_enter Tryz.func34, Tryz.ntmps34
    go_wp2
    go_ret
    exact ⟨by rw [← HR.out]; rfl, (by repeat' (first | (with_reducible exact Below.refl _ _) | (with_reducible assumption) | (with_reducible refine below_drewN ?_ _) | (with_reducible refine below_step (by assumption) ?_ ?_) | (with_reducible refine Below.alloc ?_ ?_ _) | (with_reducible refine Below.setCell ?_ ?_ _) | (with_reducible refine Below.drew ?_) | go_size | (exact Below.size (by assumption)) | (refine Nat.le_trans (Below.size (by assumption)) ?_)))⟩
  · have hz2 := HZ.out
    rw [if_neg h1] at hz2
    have d1 : decide (a < 1) = false := decide_eq_false (by omega)
    have d2 : decide (144 < a) = false := decide_eq_false (by omega)
    have d3 : decide (c < 1) = false := decide_eq_false (by omega)
    have d4 : decide (144 < c) = false := decide_eq_false (by omega)
    have d5 : decide (b < 0) = false := decide_eq_false (by omega)
    have d6 : decide (a ≤ b) = false := decide_eq_false (by omega)
    have a0 : 1 ≤ a := by omega
    have c0 : 1 ≤ c := by omega
    have a1 : a ≤ 144 := by omega
    have c1 : c ≤ 144 := by omega
    have hac : a * c ≤ 144 * 144 := Int.mul_le_mul a1 c1 (by omega) (by omega)
    have hac0 : 0 ≤ a * c := Int.mul_nonneg (by omega) (by omega)
    obtain ⟨m, hm⟩ : ∃ m, m = a * c := ⟨_, rfl⟩
    have k1 : IntKind.i64.wrap (a * c) = m := by rw [hm]; exact IntWalk.i64_in _ (by omega)
    rw [← hm] at hz2 hac hac0
    clear h1 hm HZ
    by_cases h2 : 144 < m
    · have HR := Lib.hid (show 4 = z by rw [← hz2, if_pos h2])
      have d7 : decide (144 < m) = true := decide_eq_true h2
      clear hz2
      go_enter Tryz.func34, Tryz.ntmps34
      go_wp2
      go_ret
      exact ⟨by rw [← HR.out]; rfl, (by repeat' (first | (with_reducible exact Below.refl _ _) | (with_reducible assumption) | (with_reducible refine below_drewN ?_ _) | (with_reducible refine below_step (by assumption) ?_ ?_) | (with_reducible refine Below.alloc ?_ ?_ _) | (with_reducible refine Below.setCell ?_ ?_ _) | (with_reducible refine Below.drew ?_) | go_size | (exact Below.size (by assumption)) | (refine Nat.le_trans (Below.size (by assumption)) ?_)))⟩
    · rw [if_neg h2] at hz2
      have d7 : decide (144 < m) = false := decide_eq_false h2
      by_cases h3 : (xs.length : Int) = m
      · have d8 : ((xs.length : Int) != m) = false := by simp [h3]
        have HC := Lib.hid (fun w hi => pcontainsFunc 70 #[] badC enter_val A xs.length cap xs hl w hi (pred_val w xs))
        have HR := Lib.hid (show (if xs.any badC = true then 1 else 0) = z by
          rw [← hz2]
          by_cases hb : xs.any badC = true
          · rw [if_pos hb, if_pos (.inr hb)]
          · rw [if_neg hb, if_neg (fun h => h.elim (fun h => h h3) hb)])
        obtain ⟨t, ht⟩ : ∃ t, t = xs.any badC := ⟨_, rfl⟩
        rw [← ht] at HC HR
        clear hz2 h3 ht h2
        go_enter Tryz.func34, Tryz.ntmps34
        go_wp2_with fail
        refine (HC.out _ (IsL.below (by repeat' (first | (with_reducible exact Below.refl _ _) | (with_reducible assumption) | (with_reducible refine below_drewN ?_ _) | (with_reducible refine below_step (by assumption) ?_ ?_) | (with_reducible refine Below.alloc ?_ ?_ _) | (with_reducible refine Below.setCell ?_ ?_ _) | (with_reducible refine Below.drew ?_) | go_size | (exact Below.size (by assumption)) | (refine Nat.le_trans (Below.size (by assumption)) ?_))) HI.out)).mono ?_
        rintro e w1 ⟨rfl, hb1⟩
        cases t with
        | true =>
          go_wp2
          go_ret
          exact ⟨by rw [← HR.out]; rfl, (by repeat' (first | (with_reducible exact Below.refl _ _) | (with_reducible assumption) | (with_reducible refine below_drewN ?_ _) | (with_reducible refine below_step (by assumption) ?_ ?_) | (with_reducible refine Below.alloc ?_ ?_ _) | (with_reducible refine Below.setCell ?_ ?_ _) | (with_reducible refine Below.drew ?_) | go_size | (exact Below.size (by assumption)) | (refine Nat.le_trans (Below.size (by assumption)) ?_)))⟩
        | false =>
          go_wp2
          go_ret
          exact ⟨by rw [← HR.out]; rfl, (by repeat' (first | (with_reducible exact Below.refl _ _) | (with_reducible assumption) | (with_reducible refine below_drewN ?_ _) | (with_reducible refine below_step (by assumption) ?_ ?_) | (with_reducible refine Below.alloc ?_ ?_ _) | (with_reducible refine Below.setCell ?_ ?_ _) | (with_reducible refine Below.drew ?_) | go_size | (exact Below.size (by assumption)) | (refine Nat.le_trans (Below.size (by assumption)) ?_)))⟩
      · have d8 : ((xs.length : Int) != m) = true := by rw [bne_iff_ne]; exact h3
        have HR := Lib.hid (show 1 = z by rw [← hz2, if_pos (.inl h3)])
        clear hz2 h3 h2
        go_enter Tryz.func34, Tryz.ntmps34
        go_wp2
        go_ret
        exact ⟨by rw [← HR.out]; rfl, (by repeat' (first | (with_reducible exact Below.refl _ _) | (with_reducible assumption) | (with_reducible refine below_drewN ?_ _) | (with_reducible refine below_step (by assumption) ?_ ?_) | (with_reducible refine Below.alloc ?_ ?_ _) | (with_reducible refine Below.setCell ?_ ?_ _) | (with_reducible refine Below.drew ?_) | go_size | (exact Below.size (by assumption)) | (refine Nat.le_trans (Below.size (by assumption)) ?_)))⟩
def farC (x : Int) : Bool := decide (x < -100000) || decide (100000 < x)
theorem enter_near (args : Array Value) (w : World) : (callFunc 72 args).run Tryz.prog w = .ok (.enter 72 args) w := by go_simp
set_option maxRecDepth 100000 in
theorem pred_near (w : World) (xs : List Int) : PPred 72 #[] farC w xs := fun w' x _ _ => by
  show Calls Tryz.prog 72 #[.int .i64 x] w' _
  obtain ⟨r, hr⟩ : ∃ r, r = farC x := ⟨_, rfl⟩
  rw [← hr]
  unfold farC at hr
  by_cases h : x < -100000
  · have HR := Lib.hid (show true = r by rw [hr, decide_eq_true h]; rfl)
    have d1 : decide (x < -100000) = true := decide_eq_true h
    clear hr
    go_enter Tryz.func72, Tryz.ntmps72
    go_wp2
    go_ret
    exact ⟨by rw [← HR.out]; rfl, Below.refl _ _⟩
  · have HR := Lib.hid (show decide (100000 < x) = r by rw [hr, decide_eq_false h]; rfl)
    have d1 : decide (x < -100000) = false := decide_eq_false h
    clear hr
    go_enter Tryz.func72, Tryz.ntmps72
    go_wp2
    go_ret
    exact ⟨by rw [← HR.out]; rfl, Below.refl _ _⟩
set_option maxRecDepth 100000 in
theorem near_any (A : Option Addr) (n cap : Nat) (xs : List Int) (hl : xs.length ≤ 1000000) (w : World) (hi : IsL w A n xs) :
    Calls Tryz.prog 41 #[.slice A n cap] w fun e w' => e = .returned (.bool (!xs.any farC)) ∧ Below w.heap.size w w' := by
  have hc := pcontainsFunc 72 #[] farC enter_near A n cap xs hl w hi (pred_near w xs)
  obtain ⟨t, ht⟩ : ∃ t, t = xs.any farC := ⟨_, rfl⟩
  rw [← ht] at hc ⊢
  clear ht
  go_enter Tryz.func41, Tryz.ntmps41
  go_wp2_with fail
  refine hc.mono ?_
  rintro e w1 ⟨rfl, hb1⟩
  clear hc
  go_wp2
  go_ret
  exact ⟨rfl, hb1⟩
/-- The errors of a pattern and of coordinates. -/
def chkP (p : PatD) (xs : List Int) : Int := if valP p ≠ 0 then valP p else if xs.any farC = true then 1 else 0
set_option maxRecDepth 100000 in
set_option maxHeartbeats 1000000 in
theorem checkP_any (p : PatD) (hl : p.xs.length ≤ 1000000) (xs : List Int) (hxl : xs.length ≤ 1000000) (z : Int) (hz : chkP p xs = z) (A : Option Addr) (cap : Nat) (B : Option Addr) (n c2 : Nat) (w : World) (hi : PatIn w p A) (hx : IsL w B n xs) :
    Calls Tryz.prog 30 #[.agg #[.int .i64 p.a, .int .i64 p.b, .int .i64 p.c, .slice A p.xs.length cap], .slice B n c2] w fun e w' => e = .returned (.int .i64 z) ∧ Below w.heap.size w w' := by
  have HI := Lib.hid hi
  have HX := Lib.hid hx
  have HV := Lib.hid (fun w hi => validateP_any p hl (valP p) rfl A cap w hi)
  unfold chkP at hz
  have HZ := Lib.hid hz
  obtain ⟨E, hE⟩ : ∃ E, E = valP p := ⟨_, rfl⟩
  rw [← hE] at HV HZ
  clear hi hx hz hE
  go_enter Tryz.func30, Tryz.ntmps30
  go_wp2_with fail
  refine (HV.out _ (HI.out.below (by repeat' (first | (with_reducible exact Below.refl _ _) | (with_reducible assumption) | (with_reducible refine below_drewN ?_ _) | (with_reducible refine below_step (by assumption) ?_ ?_) | (with_reducible refine Below.alloc ?_ ?_ _) | (with_reducible refine Below.setCell ?_ ?_ _) | (with_reducible refine Below.drew ?_) | go_size | (exact Below.size (by assumption)) | (refine Nat.le_trans (Below.size (by assumption)) ?_))))).mono ?_
  rintro e w1 ⟨rfl, hb1⟩
  have ib := Lib.hid (show Below w.heap.size w w1 from (by repeat' (first | (with_reducible exact Below.refl _ _) | (with_reducible assumption) | (with_reducible refine below_drewN ?_ _) | (with_reducible refine below_step (by assumption) ?_ ?_) | (with_reducible refine Below.alloc ?_ ?_ _) | (with_reducible refine Below.setCell ?_ ?_ _) | (with_reducible refine Below.drew ?_) | go_size | (exact Below.size (by assumption)) | (refine Nat.le_trans (Below.size (by assumption)) ?_))))
  clear hb1
  by_cases hz : E = 0
  · subst hz
    have HZ2 := Lib.hid (show (if xs.any farC = true then 1 else 0) = z by
      have := HZ.out
      rw [if_neg (by simp : ¬ (0 : Int) ≠ 0)] at this
      exact this)
    have hn := near_any B n c2 xs hxl w1 (HX.out.below ib.out)
    obtain ⟨t, ht⟩ : ∃ t, t = xs.any farC := ⟨_, rfl⟩
    rw [← ht] at hn HZ2
    have HN := Lib.hid hn
    clear hn ht HZ
    go_wp2_with fail
    refine HN.out.mono ?_
    rintro e w2 ⟨rfl, hb2⟩
    have jb := Lib.hid (ib.out.trans (hb2.mono ib.out.size))
    clear hb2 ib HN
    cases t with
    | true =>
      go_wp2
      go_ret
      exact ⟨by rw [← HZ2.out]; rfl, jb.out⟩
    | false =>
      go_wp2
      go_ret
      exact ⟨by rw [← HZ2.out]; rfl, jb.out⟩
  · have d1 : (E == 0) = false := by rw [beq_eq_false_iff_ne]; exact hz
    have d2 : (E != 0) = true := by rw [bne_iff_ne]; exact hz
    have HZ2 := Lib.hid (show E = z by rw [← HZ.out, if_pos hz])
    clear hz HZ
    go_wp2
    go_ret
    exact ⟨by rw [HZ2.out]; rfl, ib.out⟩
/-- A pattern's answer: of a pattern p, whose least basis is (a1, 0), (b1, c1). -/
def leastO (p : PatD) (a1 b1 c1 : Int) : PatD := if valP p ≠ 0 then zeroP else leastP (colF p) a1 b1 c1
def LeastOf (p : PatD) (a1 b1 c1 : Int) : Prop := valP p = 0 → Least (colF p) a1 b1 c1
theorem LeastOf.some (p : PatD) : ∃ a1 b1 c1, LeastOf p a1 b1 c1 := by
  by_cases h : valP p = 0
  · obtain ⟨a1, b1, c1, hl⟩ := (col_base (valP_zero h).ok).least
    exact ⟨a1, b1, c1, fun _ => hl⟩
  · exact ⟨0, 0, 0, fun h' => absurd h' h⟩
theorem LeastOf.small {p : PatD} {a1 b1 c1 : Int} (hv : valP p = 0) (h : LeastOf p a1 b1 c1) : a1 * c1 ≤ 144 := by
  have hg := valP_zero hv
  have := (h hv).cells (col_base hg.ok)
  have := hg.ac
  omega
set_option maxRecDepth 100000 in
set_option maxHeartbeats 1000000 in
theorem least_any (p : PatD) (hl : p.xs.length ≤ 1000000) (a1 b1 c1 : Int) (hL : LeastOf p a1 b1 c1) (A : Option Addr) (cap : Nat) (w : World) (hi : PatIn w p A) :
    Calls Tryz.prog 23 #[.agg #[.int .i64 p.a, .int .i64 p.b, .int .i64 p.c, .slice A p.xs.length cap]] w (OutP w (leastO p a1 b1 c1) (.int .i64 (valP p))) := by
  have HI := Lib.hid hi
  have HV := Lib.hid (fun w hi => validateP_any p hl (valP p) rfl A cap w hi)
  obtain ⟨r, hr⟩ : ∃ r, r = OutP w (leastO p a1 b1 c1) (.int .i64 (valP p)) := ⟨_, rfl⟩
  rw [← hr]
  have HLE := Lib.hid hL
  obtain ⟨E, hE⟩ : ∃ E, E = valP p := ⟨_, rfl⟩
  unfold leastO at hr
  rw [← hE] at HV hr
  have HR := Lib.hid hr
  have HE := Lib.hid hE
  clear hi hL hr hE
  go_enter Tryz.func23, Tryz.ntmps23
  go_wp2_with fail
  have T0 : PBox ((w.alloc (.cells #[.int .i64 p.a, .int .i64 p.b, .int .i64 p.c, .slice A p.xs.length cap] 24)).alloc (.cells #[.int .i64 0, .int .i64 0, .int .i64 0, .slice none 0 0] 24)) w.heap.size p.a p.b p.c (.slice A p.xs.length cap) := (heap_alloc_old _ _ (by simp)).trans (heap_alloc_new w _)
  have U0 : PBox ((w.alloc (.cells #[.int .i64 p.a, .int .i64 p.b, .int .i64 p.c, .slice A p.xs.length cap] 24)).alloc (.cells #[.int .i64 0, .int .i64 0, .int .i64 0, .slice none 0 0] 24)) (w.heap.size + 1) 0 0 0 (.slice none 0 0) := by
    have := heap_alloc_new (w.alloc (.cells #[.int .i64 p.a, .int .i64 p.b, .int .i64 p.c, .slice A p.xs.length cap] 24)) (.cells #[.int .i64 0, .int .i64 0, .int .i64 0, .slice none 0 0] 24)
    unfold PBox
    simpa using this
  obtain ⟨W, hW⟩ : ∃ W, W = (w.alloc (.cells #[.int .i64 p.a, .int .i64 p.b, .int .i64 p.c, .slice A p.xs.length cap] 24)).alloc (.cells #[.int .i64 0, .int .i64 0, .int .i64 0, .slice none 0 0] 24) := ⟨_, rfl⟩
  have hb0 : Below w.heap.size w W := by rw [hW]; exact (by repeat' (first | (with_reducible exact Below.refl _ _) | (with_reducible assumption) | (with_reducible refine below_drewN ?_ _) | (with_reducible refine below_step (by assumption) ?_ ?_) | (with_reducible refine Below.alloc ?_ ?_ _) | (with_reducible refine Below.setCell ?_ ?_ _) | (with_reducible refine Below.drew ?_) | go_size | (exact Below.size (by assumption)) | (refine Nat.le_trans (Below.size (by assumption)) ?_)))
  rw [← hW] at T0 U0 ⊢
  obtain ⟨rb, hrb⟩ : ∃ rb, rb = w.heap.size + 1 := ⟨_, rfl⟩
  rw [← hrb] at U0 ⊢
  have hwr : w.heap.size ≤ rb := by omega
  have H0 := Lib.hid (And.intro T0 (And.intro U0 hb0))
  clear hW hrb T0 U0 hb0
  refine (HV.out W (HI.out.below H0.out.2.2)).mono ?_
  rintro e w1 ⟨rfl, hb1⟩
  have H1 := Lib.hid (And.intro (H0.out.1.keep hb1) (And.intro (H0.out.2.1.keep hb1) (H0.out.2.2.trans (hb1.mono H0.out.2.2.size))))
  clear H0 hb1 HV
  obtain ⟨q0, q1, q2, q3, q4⟩ := H1.out.1.cells
  obtain ⟨r0, r1, r2, r3, r4⟩ := H1.out.2.1.cells
  have f0 : w1.frozen? ⟨rb, 0, none⟩ = false := frozen_of_row w1 rb 0 _ _ H1.out.2.1
  have f1 : w1.frozen? ⟨rb, 1, none⟩ = false := frozen_of_row w1 rb 1 _ _ H1.out.2.1
  have f2 : w1.frozen? ⟨rb, 2, none⟩ = false := frozen_of_row w1 rb 2 _ _ H1.out.2.1
  have f3 : w1.frozen? ⟨rb, 3, none⟩ = false := frozen_of_row w1 rb 3 _ _ H1.out.2.1
  by_cases hz : E = 0
  · subst hz
    have hrf := HR.out
    rw [if_neg (by simp : ¬ (0 : Int) ≠ 0)] at hrf
    have HRF := Lib.hid hrf
    have hg := valP_zero HE.out.symm
    have HG := Lib.hid hg
    have hll := HLE.out HE.out.symm
    have hsm := LeastOf.small HE.out.symm HLE.out
    have hres := fun fv w hF => presult_any (colF p) p.a p.b p.c a1 b1 c1 (col_base hg.ok) hll (by have := hg.a1; omega) (by have := hg.c1; omega) fv w hF
    unfold leastT tooBig at hres
    rw [if_pos hsm, if_pos hsm] at hres
    have HRES := Lib.hid hres
    obtain ⟨P, hP⟩ : ∃ P, P = leastP (colF p) a1 b1 c1 := ⟨_, rfl⟩
    rw [← hP] at HRES HRF
    clear hrf hg hll hsm hres HR HE HLE hP
    go_wp2_with fail
    refine (of_any p HG.out.ok A cap w1 (HI.out.below H1.out.2.2)).mono ?_
    rintro e w2 ⟨fv, rfl, hfv, hb2⟩
    have H2 := Lib.hid (And.intro (H1.out.2.1.keep hb2) (H1.out.2.2.trans (hb2.mono H1.out.2.2.size)))
    have HFV := Lib.hid hfv
    clear hfv hb2 H1 q0 q1 q2 q3 q4 r0 r1 r2 r3 r4 f0 f1 f2 f3
    go_wp2_with fail
    refine (HRES.out fv w2 HFV.out).mono ?_
    rintro e w3 ⟨v, rfl, hown, hb3⟩
    obtain ⟨A3, n3, rfl, -⟩ := hown.isL
    have H3 := Lib.hid (And.intro (H2.out.1.keep hb3) (H2.out.2.trans (hb3.mono H2.out.2.size)))
    have HP3 := Lib.hid (put_ret H3.out.1 H3.out.2 hwr P _ hown H2.out.2.size (Array.getElem?_eq_some_iff.1 H2.out.1).1)
    clear hown hb3 H2
    obtain ⟨r0, r1, r2, r3, r4⟩ := H3.out.1.cells
    have f0 : w3.frozen? ⟨rb, 0, none⟩ = false := frozen_of_row w3 rb 0 _ _ H3.out.1
    have f1 : w3.frozen? ⟨rb, 1, none⟩ = false := frozen_of_row w3 rb 1 _ _ H3.out.1
    have f2 : w3.frozen? ⟨rb, 2, none⟩ = false := frozen_of_row w3 rb 2 _ _ H3.out.1
    have f3 : w3.frozen? ⟨rb, 3, none⟩ = false := frozen_of_row w3 rb 3 _ _ H3.out.1
    go_wp2
    refine bodyPost_ret (v := .tuple #[.agg #[.int .i64 P.a, .int .i64 P.b, .int .i64 P.c, .slice A3 P.xs.length n3], .int .i64 0]) (ret_pat2 rfl rfl rfl HP3.out.1) rfl ?_
    rw [HRF.out]
    exact ⟨_, rfl, HP3.out.2⟩
  · have d1 : (E == 0) = false := by rw [beq_eq_false_iff_ne]; exact hz
    have d2 : (E != 0) = true := by rw [bne_iff_ne]; exact hz
    have hrf := HR.out
    rw [if_pos hz] at hrf
    have HRF := Lib.hid hrf
    have HP3 := Lib.hid (put_zero H1.out.2.1 H1.out.2.2 hwr)
    clear hrf HR hz HE H1
    go_wp2
    refine bodyPost_ret (v := .tuple #[.agg #[.int .i64 0, .int .i64 0, .int .i64 0, .slice none 0 0], .int .i64 E]) (ret_pat2 rfl rfl rfl HP3.out.1) rfl ?_
    rw [HRF.out]
    exact OutP.zero HP3.out.2
end Go.Proofs.YtlinldbbhdpgcaaGreatDoor
