/-
  THE WALKS OF THE PROGRAM'S AND THE REFERENCE'S SMALL FUNCTIONS ON FRACTIONS: absolute values, greatest common divisors.
-/
import Derived.Test.YtaadelcmhbgpnaaGreatDoorProg
import Derived.WalkKit
import Derived.WalkLawsBesides
import Derived.Handy
import Derived.Lib.Hide
import Derived.Deep.QuietTactic
import Derived.BigQuiet
import Derived.Test.YtaadelcmhbgpnaaGreatDoorNumM
namespace Go.Proofs.YtaadelcmhbgpnaaGreatDoor
open Go.RowKit
theorem ret_int {k : IntKind} {a b : Int} (h : a = b) : Ending.returned (.int k a) = .returned (.int k b) := by rw [h]
theorem abs_any (n : Int) (h1 : -9223372036854775808 ≤ n) (h2 : n ≤ 9223372036854775807) (w : World) :
    Calls Tryz.prog 83 #[.int .i64 n] w fun e w' => e = .returned (.int .u64 n.natAbs) ∧ w = w' := by
  by_cases h : n < 0
  · go_enter Tryz.func83, Tryz.ntmps83
    go_wp2
    go_ret
    exact ⟨ret_int (by first | omega | (simp only [IntKind.wrap_u64]; omega)), rfl⟩
  · go_enter Tryz.func83, Tryz.ntmps83
    go_wp2
    go_ret
    exact ⟨ret_int (by first | omega | (simp only [IntKind.wrap_u64]; omega)), rfl⟩
theorem within_yes (n lo hi : Int) (h1 : lo ≤ n) (h2 : n ≤ hi) (w : World) :
    Calls Tryz.prog 117 #[.int .i64 n, .int .i64 lo, .int .i64 hi] w fun e w' => e = .returned (.bool true) ∧ w = w' := by
  go_enter Tryz.func117, Tryz.ntmps117
  go_wp2
  go_ret
  exact ⟨rfl, rfl⟩
theorem within_low (n lo hi : Int) (h1 : n < lo) (w : World) :
    Calls Tryz.prog 117 #[.int .i64 n, .int .i64 lo, .int .i64 hi] w fun e w' => e = .returned (.bool false) ∧ w = w' := by
  go_enter Tryz.func117, Tryz.ntmps117
  go_wp2
  go_ret
  exact ⟨rfl, rfl⟩
theorem within_high (n lo hi : Int) (h1 : lo ≤ n) (h2 : hi < n) (w : World) :
    Calls Tryz.prog 117 #[.int .i64 n, .int .i64 lo, .int .i64 hi] w fun e w' => e = .returned (.bool false) ∧ w = w' := by
  have h3 : decide (n ≤ hi) = false := decide_eq_false (by omega)
  go_enter Tryz.func117, Tryz.ntmps117
  go_wp2
  go_ret
  exact ⟨rfl, rfl⟩
theorem within_any (n lo hi : Int) (w : World) :
    Calls Tryz.prog 117 #[.int .i64 n, .int .i64 lo, .int .i64 hi] w fun e w' => e = .returned (.bool (decide (lo ≤ n ∧ n ≤ hi))) ∧ w = w' := by
  by_cases h1 : lo ≤ n
  · by_cases h2 : n ≤ hi
    · rw [decide_eq_true ⟨h1, h2⟩]; exact within_yes n lo hi h1 h2 w
    · rw [decide_eq_false (by omega)]; exact within_high n lo hi h1 (by omega) w
  · rw [decide_eq_false (by omega)]; exact within_low n lo hi (by omega) w
theorem gcd_mod_nat (a b : Nat) : Nat.gcd b (a % b) = Nat.gcd a b := by
  rw [Nat.gcd_comm b (a % b), ← Nat.gcd_rec, Nat.gcd_comm]
theorem gcd_any (a b : Nat) (w : World) (ha : a < 18446744073709551616) (hb : b < 18446744073709551616) :
    Calls Tryz.prog 82 #[.int .u64 a, .int .u64 b] w fun e w' => e = .returned (.int .u64 (Nat.gcd a b : Nat)) ∧ ∃ m, w' = w.drewN m := by
  go_enter Tryz.func82, Tryz.ntmps82
  go_wp2
  refine wp_scope_jumps 0 (fun a' w' => ∃ (x y m : Nat) (u5 u6 u7 u8 u9 u10 u11 : Value), w' = w.drewN m ∧ x ≤ 18446744073709551615 ∧ y ≤ 18446744073709551615 ∧ Hid (Nat.gcd x y = Nat.gcd a b) ∧ a' = { tmps := #[.int .u64 x, .int .u64 y, undef, undef, .int .u64 0, u5, u6, u7, u8, u9, u10, u11], defers := [] }) (fun a' _ => (intOf (a'.tmps.getD 1 undef)).toNat) rfl ?_ ?_
  · by_cases h0 : b = 0
    · subst h0
      go_wp2
      go_step3
      go_wp2
      simp only [Exit.jump]
      go_ret
      exact ⟨ret_int (by rw [Nat.gcd_zero_right]), 0, rfl⟩
    · have e0 : ((b : Int) == 0) = false := by rw [beq_eq_false_iff_ne]; omega
      have e1 : ¬ (b : Int) = 0 := by omega
      go_wp2
      go_step3
      go_wp2
      go_quiet (fail)
      go_wp2
      go_step3
      exact ⟨rfl, b, a % b, nq, _, _, _, _, _, _, _, rfl, by omega, by have := Nat.mod_lt a (show b > 0 by omega); omega, gcd_mod_nat a b, rfl⟩
  · rintro a' w' ⟨x, y, m, u5, u6, u7, u8, u9, u10, u11, rfl, hx, hy, hg, rfl⟩
    by_cases h0 : y = 0
    · subst h0
      go_wp2
      simp only [Exit.jump]
      go_ret
      exact ⟨ret_int (by rw [← hg.out, Nat.gcd_zero_right]), m, rfl⟩
    · have e0 : ((y : Int) == 0) = false := by rw [beq_eq_false_iff_ne]; omega
      have e1 : ¬ (y : Int) = 0 := by omega
      have hm := Nat.mod_lt x (show y > 0 by omega)
      go_wp2
      go_quiet (fail)
      go_wp2
      go_step3
      refine ⟨rfl, ⟨y, x % y, _, _, _, _, _, _, _, _, World.drewN_drewN _ _ _, hy, by omega, by rw [gcd_mod_nat]; exact hg.out, rfl⟩, ?_⟩
      simp [intOf]
      omega
theorem within_no (n lo hi : Int) (h : ¬ (lo ≤ n ∧ n ≤ hi)) (w : World) :
    Calls Tryz.prog 117 #[.int .i64 n, .int .i64 lo, .int .i64 hi] w fun e w' => e = .returned (.bool false) ∧ w = w' := by
  by_cases h1 : lo ≤ n
  · exact within_high n lo hi h1 (by omega) w
  · exact within_low n lo hi (by omega) w
end Go.Proofs.YtaadelcmhbgpnaaGreatDoor
