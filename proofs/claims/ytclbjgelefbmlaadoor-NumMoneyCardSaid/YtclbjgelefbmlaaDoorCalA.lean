/-
  LISTS OF INTEGERS AS SLICES THAT ARE ONLY READ; isSet AND IsSet.
-/
import Derived.Test.YtclbjgelefbmlaaDoorNumB
import Derived.Test.YtclbjgelefbmlaaDoorReg
namespace Go.Proofs.YtclbjgelefbmlaaDoor
open Go.RowKit
/-- The slice with address A and length n reads as the numbers xs. -/
def IsL (w : World) (A : Option Addr) (n : Nat) (xs : List Int) : Prop :=
  xs.length = n ∧ (0 < n → ∃ b o, A = some ⟨b, o, none⟩ ∧ b < w.heap.size ∧ ∀ i, i < n → w.cell? ⟨b, o + i, none⟩ = some (.int .i64 (xs.getD i 0)))
theorem IsL.below {w w' : World} {A : Option Addr} {n : Nat} {xs : List Int} (hb : Below w.heap.size w w') (h : IsL w A n xs) : IsL w' A n xs := by
  refine ⟨h.1, fun hn => ?_⟩
  obtain ⟨b, o, rfl, hlt, hc⟩ := h.2 hn
  exact ⟨b, o, rfl, Nat.lt_of_lt_of_le hlt hb.size, fun i hi => (hb.cell (p := ⟨b, o + i, none⟩) hlt).trans (hc i hi)⟩
theorem IsL.drewN {w : World} {A : Option Addr} {n : Nat} {xs : List Int} (h : IsL w A n xs) (m : Nat) : IsL (w.drewN m) A n xs := h
theorem IsL.alloc {w : World} {A : Option Addr} {n : Nat} {xs : List Int} (h : IsL w A n xs) (o : Obj) : IsL (w.alloc o) A n xs :=
  h.below ((Below.refl _ _).alloc (Nat.le_refl _) o)
/-- A set of numbers from 0 to most, its first k elements. -/
def SetTo (xs : List Int) (most : Int) (k : Nat) : Prop := ∀ i, i < k → 0 ≤ xs.getD i 0 ∧ xs.getD i 0 ≤ most ∧ (0 < i → xs.getD (i - 1) 0 < xs.getD i 0)
theorem SetTo.succ {xs : List Int} {most : Int} {k : Nat} (h : SetTo xs most k) (h1 : 0 ≤ xs.getD k 0) (h2 : xs.getD k 0 ≤ most) (h3 : 0 < k → xs.getD (k - 1) 0 < xs.getD k 0) : SetTo xs most (k + 1) := by
  intro i hi
  rcases Nat.lt_succ_iff_lt_or_eq.1 hi with h' | rfl
  · exact h i h'
  · exact ⟨h1, h2, h3⟩
theorem ret_false {P : Prop} {b : Bool} (hb : b = true ↔ P) (h : ¬ P) : Ending.returned (.bool false) = .returned (.bool b) := by
  cases b
  · rfl
  · exact absurd (hb.1 rfl) h
theorem ret_true {P : Prop} {b : Bool} (hb : b = true ↔ P) (h : P) : Ending.returned (.bool true) = .returned (.bool b) := by
  rw [hb.2 h]
set_option maxHeartbeats 2000000 in
theorem isSet_any (A : Option Addr) (n c : Nat) (xs : List Int) (most : Int) (b : Bool) (w : World) (hx : IsL w A n xs) (hn : n ≤ 4611686018427387904) (hb : b = true ↔ SetTo xs most n) :
    Calls Tryd.prog 71 #[.slice A n c, .int .i64 most] w fun e w' => e = .returned (.bool b) ∧ w = w' := by
  have HB := Lib.hid hb
  clear hb
  go_enter Tryd.func71, Tryd.ntmps71
  go_wp2
  go_loop [9] (fun i => ∃ k : Nat, i = .int .i64 k ∧ k ≤ n ∧ Hid (SetTo xs most k)) (fun i => n - (intOf i).toNat)
  case atStart => exact ⟨0, rfl, by omega, fun i hi => by omega⟩
  case round =>
    obtain ⟨k, rfl, hk, hs⟩ := hrel
    by_cases hlt : k < n
    · obtain ⟨bk, o, hA, hlt', hc⟩ := hx.2 (by omega)
      have h0 := hc k hlt
      obtain ⟨x, hxx⟩ : ∃ x, xs.getD k 0 = x := ⟨_, rfl⟩
      rw [hxx] at h0
      by_cases c1 : x < 0
      · subst hA
        have HX := Lib.hid hxx
        clear hxx hc hx
        go_wp2
        go_ret
        exact ⟨ret_false HB.out (fun h => by have := (h k hlt).1; rw [HX.out] at this; omega), rfl⟩
      · by_cases c2 : most < x
        · subst hA
          have HX := Lib.hid hxx
          clear hxx hc hx
          go_wp2
          go_ret
          exact ⟨ret_false HB.out (fun h => by have := (h k hlt).2.1; rw [HX.out] at this; omega), rfl⟩
        · by_cases c3 : k = 0
          · subst c3; subst hA
            simp only [Nat.add_zero] at h0
            have HX := Lib.hid hxx
            clear hxx hc hx
            have d2 : decide (most < x) = false := decide_eq_false c2
            go_wp2
            go_round
            case rel => exact ⟨0 + 1, by go_num, by omega, SetTo.succ hs.out (by rw [HX.out]; omega) (by rw [HX.out]; omega) (by omega)⟩
            case measure => simp [intOf]; omega
          · have h1 := hc (k - 1) (by omega)
            obtain ⟨y, hy⟩ : ∃ y, xs.getD (k - 1) 0 = y := ⟨_, rfl⟩
            rw [hy] at h1
            have HX := Lib.hid hxx
            have HY := Lib.hid hy
            have k0 : 0 < (k : Int) := by omega
            have d2 : decide (most < x) = false := decide_eq_false c2
            by_cases c4 : x ≤ y
            · subst hA
              clear hxx hc hx hy
              go_wp2
              go_ret
              exact ⟨ret_false HB.out (fun h => by have := (h k hlt).2.2 (by omega); rw [HX.out, HY.out] at this; omega), rfl⟩
            · have d4 : decide (x ≤ y) = false := decide_eq_false c4
              subst hA
              clear hxx hc hx hy
              go_wp2
              go_round
              case rel => exact ⟨k + 1, by go_num, by omega, SetTo.succ hs.out (by rw [HX.out]; omega) (by rw [HX.out]; omega) (by rw [HX.out, HY.out]; omega)⟩
              case measure => simp [intOf]; omega
    · have : k = n := by omega
      subst this
      go_wp2
      go_ret
      exact ⟨ret_true HB.out hs.out, rfl⟩
theorem quiet_add {P : Program} {f : FuncId} {args : Array Value} {w : World} {m n : Nat} {v : Value}
    (h : Calls P f args (w.drewN (m + n)) fun e w' => e = .returned v ∧ w.drewN (m + n) = w') : Calls P f args (w.drewN (m + n)) fun e w'' => e = .returned v ∧ ∃ k, w'' = w.drewN (m + k) :=
  h.mono fun _ _ ⟨he, hm⟩ => ⟨he, n, hm.symm⟩
set_option maxRecDepth 100000 in
set_option maxHeartbeats 4000000 in
theorem rIsSet_any (A : Option Addr) (n c : Nat) (xs : List Int) (most : Int) (b : Bool) (w : World) (hx : IsL w A n xs) (hn : n ≤ 4611686018427387904) (hb : b = true ↔ SetTo xs most n) :
    Calls Tryd.prog 72 #[.slice A n c, .int .i64 0, .int .i64 most] w fun e w' => e = .returned (.bool b) ∧ ∃ m, w' = w.drewN m := by
  have HB := Lib.hid hb
  clear hb
  go_enter Tryd.func72, Tryd.ntmps72
  go_wp2
  go_loopw [7] (fun i wr => ∃ k m : Nat, i = .int .i64 k ∧ wr = w.drewN m ∧ k ≤ n ∧ Hid (SetTo xs most k)) (fun i _ => n - (intOf i).toNat)
  case atStart => exact ⟨0, 0, rfl, rfl, by omega, fun i hi => by omega⟩
  case round =>
    obtain ⟨k, m, rfl, rfl, hk, hs⟩ := hrel
    by_cases hlt : k < n
    · obtain ⟨bk, o, hA, hlt', hc⟩ := hx.2 (by omega)
      have h0 := hc k hlt
      obtain ⟨x, hxx⟩ : ∃ x, xs.getD k 0 = x := ⟨_, rfl⟩
      rw [hxx] at h0
      have kn : (k : Int) < (n : Int) := by omega
      have k00 : 0 ≤ (k : Int) := by omega
      subst hA
      by_cases c1 : 0 ≤ x ∧ x ≤ most
      · obtain ⟨c1, c2⟩ := c1
        by_cases c3 : k = 0
        · have k0 : decide (0 < k) = false := decide_eq_false (by omega)
          have C3 := Lib.hid c3
          clear c3
          have HX := Lib.hid hxx
          clear hxx hc hx
          go_wp2
          go_quiet ((go_at_call 60; refine quiet_add (within_yes _ _ _ ?_ ?_ _) <;> omega))
          go_wp2
          go_roundw
          case rel => exact ⟨k + 1, _, by go_num, rfl, by omega, SetTo.succ hs.out (by rw [HX.out]; omega) (by rw [HX.out]; omega) (fun h => absurd C3.out (by omega))⟩
          case measure => simp [intOf]; omega
        · have h1 := hc (k - 1) (by omega)
          obtain ⟨y, hy⟩ : ∃ y, xs.getD (k - 1) 0 = y := ⟨_, rfl⟩
          rw [hy] at h1
          have HX := Lib.hid hxx
          have HY := Lib.hid hy
          have k0 : decide (0 < k) = true := decide_eq_true (by omega)
          have k1 : 0 ≤ (k : Int) - 1 := by omega
          have k2 : (k : Int) - 1 < (n : Int) := by omega
          have k3 : ((k : Int) - 1).toNat = k - 1 := by omega
          have k4 : IntKind.i64.wrap ((k : Int) - 1) = (k : Int) - 1 := IntWalk.i64_in _ ⟨by omega, by omega⟩
          by_cases c4 : x ≤ y
          · clear hxx hc hx hy
            go_wp2
            go_quiet ((go_at_call 60; refine quiet_add (within_yes _ _ _ ?_ ?_ _) <;> omega))
            go_wp2
            go_ret
            exact ⟨ret_false HB.out (fun h => by have := (h k hlt).2.2 (by omega); rw [HX.out, HY.out] at this; omega), _, World.drewN_drewN _ _ _⟩
          · have d4 : decide (x ≤ y) = false := decide_eq_false c4
            clear hxx hc hx hy
            go_wp2
            go_quiet ((go_at_call 60; refine quiet_add (within_yes _ _ _ ?_ ?_ _) <;> omega))
            go_wp2
            go_roundw
            case rel => exact ⟨k + 1, _, by go_num, rfl, by omega, SetTo.succ hs.out (by rw [HX.out]; omega) (by rw [HX.out]; omega) (by rw [HX.out, HY.out]; omega)⟩
            case measure => simp [intOf]; omega
      · have HX := Lib.hid hxx
        clear hxx hc hx
        go_wp2
        go_quiet ((go_at_call 60; refine quiet_add (within_no _ _ _ ?_ _); omega))
        go_wp2
        go_ret
        exact ⟨ret_false HB.out (fun h => by have := h k hlt; rw [HX.out] at this; omega), _, World.drewN_drewN _ _ _⟩
    · have : k = n := by omega
      subst this
      go_wp2
      go_ret
      exact ⟨ret_true HB.out hs.out, _, rfl⟩
end Go.Proofs.YtclbjgelefbmlaaDoor
