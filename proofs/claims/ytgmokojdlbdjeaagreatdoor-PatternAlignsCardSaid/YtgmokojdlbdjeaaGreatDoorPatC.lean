/-
  THE PROGRAM: planes: functions of the plane as values; repeats.
-/
import Derived.Test.YtgmokojdlbdjeaaGreatDoorPatB
import Derived.Test.YtgmokojdlbdjeaaGreatDoorRegP
import Derived.Laws.EntriesVeiled
namespace Go.Proofs.YtgmokojdlbdjeaaGreatDoor
open Go.RowKit
attribute [local go_sem] grow_cell grow_frozen
/-- The value v is a function of the plane that answers as F does, as far as R, in w and in what w becomes. -/
def FunV (w : World) (v : Value) (F : Int → Int → Int) (R : Int) : Prop :=
  ∃ id caps, v = .func (.func id) #[] caps ∧ (∀ args w', (callFunc id args).run Tryz.prog w' = .ok (.enter id args) w') ∧ ∀ w', Below w.heap.size w w' → ∀ x y, -R ≤ x → x ≤ R → -R ≤ y → y ≤ R → Calls Tryz.prog id (#[.int .i64 x, .int .i64 y] ++ caps) w' fun e w'' => e = .returned (.int .i64 (F x y)) ∧ Below w'.heap.size w' w''
theorem FunV.below {w w' : World} {v : Value} {F : Int → Int → Int} {R : Int} (h : FunV w v F R) (hb : Below w.heap.size w w') : FunV w' v F R := by
  obtain ⟨id, caps, rfl, hcf, hc⟩ := h
  exact ⟨id, caps, rfl, hcf, fun w2 hw2 => hc w2 (hb.trans (hw2.mono hb.size))⟩
/-- A plane's value and box. -/
def PlBox (w : World) (bx : Nat) (a b c : Int) (v : Value) : Prop := w.heap[bx]? = some (.cells #[.int .i64 a, .int .i64 b, .int .i64 c, v] 61 (0, 0))
theorem PlBox.keep {w w' : World} {bx : Nat} {a b c : Int} {v : Value} (h : PlBox w bx a b c v) (hb : Below w.heap.size w w') : PlBox w' bx a b c v := (hb.block _ (Array.getElem?_eq_some_iff.1 h).1).trans h
theorem PlBox.cells {w : World} {bx : Nat} {a b c : Int} {v : Value} (h : PlBox w bx a b c v) : w.cell? ⟨bx, 0, none⟩ = some (.int .i64 a) ∧ w.cell? ⟨bx, 1, none⟩ = some (.int .i64 b) ∧ w.cell? ⟨bx, 2, none⟩ = some (.int .i64 c) ∧ w.cell? ⟨bx, 3, none⟩ = some v ∧ bx < w.heap.size :=
  ⟨(cell_of_row w bx 0 _ _ (0, 0) h).trans rfl, (cell_of_row w bx 1 _ _ (0, 0) h).trans rfl, (cell_of_row w bx 2 _ _ (0, 0) h).trans rfl, (cell_of_row w bx 3 _ _ (0, 0) h).trans rfl, (Array.getElem?_eq_some_iff.1 h).1⟩
theorem PlBox.new (w : World) (a b c : Int) (v : Value) : PlBox (w.alloc (.cells #[.int .i64 a, .int .i64 b, .int .i64 c, v] 61)) w.heap.size a b c v := heap_alloc_new w _
/-- No cell of a repeat changes. -/
def SameOn (F : Int → Int → Int) (a : Int) (dx dy : Int) (k : Int) : Prop := ∀ x y, 0 ≤ x → x < a → 0 ≤ y → y < k → F x y = F (x + dx) (y + dy)
theorem SameOn.zero {F : Int → Int → Int} {a dx dy : Int} : SameOn F a dx dy 0 := fun x y _ _ h0 h1 => by omega
theorem SameOn.step {F : Int → Int → Int} {a dx dy k : Int} (h : SameOn F a dx dy k) (h2 : ∀ x, 0 ≤ x → x < a → F x k = F (x + dx) (k + dy)) : SameOn F a dx dy (k + 1) := fun x y h0 h1 h3 h4 => by
  by_cases he : y < k
  · exact h x y h0 h1 h3 he
  · obtain rfl : y = k := by omega
    exact h2 x h0 h1
attribute [local irreducible] plainUpon stepC
set_option maxRecDepth 100000 in
set_option maxHeartbeats 1000000 in
theorem repeats_any (F : Int → Int → Int) (a b c : Int) (v : Value) (dx dy : Int) (r : Bool) (hr : r = true ↔ SameOn F a dx dy c) (ha2 : a ≤ 10000000) (hc2 : c ≤ 10000000) (hdx : -20000000 ≤ dx) (hdx2 : dx ≤ 20000000) (hdy : -20000000 ≤ dy) (hdy2 : dy ≤ 20000000) (w : World) (hF : FunV w v F 50000000) :
    Calls Tryz.prog 89 #[.agg #[.int .i64 a, .int .i64 b, .int .i64 c, v], .int .i64 dx, .int .i64 dy] w fun e w' => e = .returned (.bool r) ∧ Below w.heap.size w w' := by
  obtain ⟨id, caps, rfl, hcf, hcall⟩ := hF
  have HF := Lib.hid hcall
  have HR := Lib.hid hr
  clear hcall hr
  go_enter Tryz.func89, Tryz.ntmps89
  go_upto_region 2 with fail
  obtain ⟨W, hW⟩ : ∃ W, W = w.alloc (.cells #[.int .i64 a, .int .i64 b, .int .i64 c, .func (.func id) #[] caps] 61) := ⟨_, rfl⟩
  rw [← hW]
  have H0 := Lib.hid (show PlBox W w.heap.size a b c (.func (.func id) #[] caps) ∧ Below w.heap.size w W from ⟨by rw [hW]; exact PlBox.new w a b c _, by rw [hW]; exact (by repeat' (first | (with_reducible exact Below.refl _ _) | (with_reducible assumption) | (with_reducible refine below_drewN ?_ _) | (with_reducible refine below_step (by assumption) ?_ ?_) | (with_reducible refine Below.alloc ?_ ?_ _) | (with_reducible refine Below.setCell ?_ ?_ _) | (with_reducible refine Below.drew ?_) | go_size | (exact Below.size (by assumption)) | (refine Nat.le_trans (Below.size (by assumption)) ?_)))⟩)
  clear hW
  go_loopw [11] (fun t wr => ∃ k : Int, t = .int .i64 k ∧ 0 ≤ k ∧ (k ≤ c ∨ k = 0) ∧ Hid (PlBox wr w.heap.size a b c (.func (.func id) #[] caps) ∧ Below w.heap.size w wr ∧ SameOn F a dx dy k)) (fun t _ => (c - intOf t).toNat)
  case atStart => exact ⟨0, rfl, by omega, by omega, Lib.hid ⟨H0.out.1, H0.out.2, SameOn.zero⟩⟩
  case round =>
    clear H0
    obtain ⟨k, rfl, hk0, hk, hr⟩ := hrel
    obtain ⟨q0, q1, q2, q3, q4⟩ := hr.out.1.cells
    by_cases hlt : k < c
    · have d1 : decide (k < c) = true := decide_eq_true hlt
      have R0 := Lib.hid (And.intro hr.out (show ∀ x, 0 ≤ x → x < (0 : Int) → F x k = F (x + dx) (k + dy) from fun x h0 h1 => by omega))
      clear hr
      go_upto_region 5 with fail
      go_loopw [16] (fun t wq => ∃ i : Int, t = .int .i64 i ∧ 0 ≤ i ∧ (i ≤ a ∨ i = 0) ∧ Hid ((PlBox wq w.heap.size a b c (.func (.func id) #[] caps) ∧ Below w.heap.size w wq ∧ SameOn F a dx dy k) ∧ ∀ x, 0 ≤ x → x < i → F x k = F (x + dx) (k + dy))) (fun t _ => (a - intOf t).toNat)
      case atStart => exact ⟨0, rfl, by omega, by omega, R0⟩
      case round =>
        clear R0 q0 q1 q2 q3 q4
        obtain ⟨i, rfl, hi0, hi, hq⟩ := hrel
        obtain ⟨q0, q1, q2, q3, q4⟩ := hq.out.1.1.cells
        by_cases hil : i < a
        · have d2 : decide (i < a) = true := decide_eq_true hil
          have k1 : IntKind.i64.wrap (i + dx) = i + dx := IntWalk.i64_in _ (by omega)
          have k2 : IntKind.i64.wrap (k + dy) = k + dy := IntWalk.i64_in _ (by omega)
          go_upto_region 7 with fail
          refine region_tree (C := fun w' => ∃ x, w' = grow wr x) [0, 1, 2, 3, 5, 6, 7, 8, 9, 10, 11, 12] (OT.seq [4, 13, 14]) (by kernel_rfl) (by kernel_rfl) (grow_start wr) ?_
          simp only [pickL, List.getElem?_cons_zero, List.getElem?_cons_succ]
          repeat (go_big_quiet_step (fail))
          refine wpQuiet_nil ?_
          rintro w2 ⟨xg, hxg⟩
          have hb2 := below_grow wr xg
          rw [← hxg] at hb2
          simp only [treeS, OT.seq, atOp, List.getElem?_cons_zero, List.getElem?_cons_succ]
          refine ⟨⟨xg, hxg⟩, ?_⟩
          refine s_call id (#[.int .i64 i, .int .i64 k] ++ caps) rfl (by go_simp) ?_
          refine (HF.out w2 (hq.out.1.2.1.trans (hb2.mono hq.out.1.2.1.size)) i k (by omega) (by omega) (by omega) (by omega)).mono ?_
          rintro e w3 ⟨rfl, hb3⟩
          have hb3' := hb2.trans (hb3.mono hb2.size)
          refine ⟨_, rfl, grow_of_below hb3', ?_⟩
          refine s_call id (#[.int .i64 (i + dx), .int .i64 (k + dy)] ++ caps) rfl (by go_simp) ?_
          refine (HF.out w3 (hq.out.1.2.1.trans (hb3'.mono hq.out.1.2.1.size)) (i + dx) (k + dy) (by omega) (by omega) (by omega) (by omega)).mono ?_
          rintro e w4 ⟨rfl, hb4⟩
          have hb4' := hb3'.trans (hb4.mono hb3'.size)
          refine ⟨_, rfl, grow_of_below hb4', ?_⟩
          obtain ⟨z1, hz1⟩ : ∃ z1, z1 = F i k := ⟨_, rfl⟩
          obtain ⟨z2, hz2⟩ : ∃ z2, z2 = F (i + dx) (k + dy) := ⟨_, rfl⟩
          rw [← hz1, ← hz2]
          have HZ := Lib.hid (And.intro hz1 hz2)
          have H4 := Lib.hid (And.intro (hq.out.1.1.keep hb4') (And.intro (hq.out.1.2.1.trans (hb4'.mono hq.out.1.2.1.size)) (And.intro hq.out.1.2.2 hq.out.2)))
          clear hz1 hz2 hq hb2 hb3 hb3' hb4 hxg k1 k2 q0 q1 q2 q3 q4
          by_cases hz : z1 = z2
          · have d3 : (z1 != z2) = false := by simp [hz]
            refine s_val (.bool false) w4 rfl (by go_simp) ?_
            refine ⟨grow_of_below hb4', ?_⟩
            have R2 := Lib.hid (show (PlBox w4 w.heap.size a b c (.func (.func id) #[] caps) ∧ Below w.heap.size w w4 ∧ SameOn F a dx dy k) ∧ ∀ x, 0 ≤ x → x < i + 1 → F x k = F (x + dx) (k + dy) from ⟨⟨H4.out.1, H4.out.2.1, H4.out.2.2.1⟩, fun x h0 h1 => by
              by_cases hx : x < i
              · exact H4.out.2.2.2 x h0 hx
              · obtain rfl : x = i := by omega
                rw [← HZ.out.1, ← HZ.out.2]; exact hz⟩)
            clear hz HZ hb4' H4 d3
            go_simp
            go_wp2
            go_roundw
            case rel => exact ⟨i + 1, rfl, by omega, by omega, R2⟩
            case measure => simp [intOf]; omega
          · have d3 : (z1 != z2) = true := by rw [bne_iff_ne]; exact hz
            refine s_val (.bool true) w4 rfl (by go_simp) ?_
            refine ⟨grow_of_below hb4', ?_⟩
            have HRF := Lib.hid (show r = false by
              cases r with
              | false => rfl
              | true => exact absurd ((HR.out.1 rfl) i k hi0 hil hk0 hlt) (by rw [← HZ.out.1, ← HZ.out.2]; exact hz))
            clear hz HZ hb4' d3 HR
            go_simp
            go_wp2
            go_ret
            exact ⟨by rw [HRF.out]; rfl, H4.out.2.1⟩
        · have d2 : decide (i < a) = false := decide_eq_false hil
          have R2 := Lib.hid (show PlBox wr w.heap.size a b c (.func (.func id) #[] caps) ∧ Below w.heap.size w wr ∧ SameOn F a dx dy (k + 1) from ⟨hq.out.1.1, hq.out.1.2.1, hq.out.1.2.2.step fun x h0 h1 => hq.out.2 x h0 (by omega)⟩)
          clear hq
          go_wp2
          go_roundw
          case rel => exact ⟨k + 1, rfl, by omega, by omega, R2⟩
          case measure => simp [intOf]; omega
    · have d1 : decide (k < c) = false := decide_eq_false hlt
      have HRT := Lib.hid (show r = true from HR.out.2 fun x y h0 h1 h2 h3 => hr.out.2.2 x y h0 h1 h2 (by omega))
      have HB := Lib.hid hr.out.2.1
      clear hr HR
      go_wp2
      go_ret
      exact ⟨by rw [HRT.out]; rfl, HB.out⟩
end Go.Proofs.YtgmokojdlbdjeaaGreatDoor
