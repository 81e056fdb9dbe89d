/-
  THE PROGRAM: floor, mod, home, color.
-/
import Derived.Test.YtgmokojdlbdjeaaGreatDoorPatM
import Derived.Test.YtgmokojdlbdjeaaGreatDoorCalA
import Derived.Deep.QuietTactic
import Derived.BigQuiet
import Derived.Lib.Hide
namespace Go.Proofs.YtgmokojdlbdjeaaGreatDoor
open Go.RowKit
theorem fl_of {n d q r : Int} (h : d * q + r = n) (h0 : 0 ≤ r) (h1 : r < d) : n / d = q ∧ n % d = r := by
  have hd : 0 < d := by omega
  exact (Int.ediv_emod_unique hd).2 ⟨by omega, h0, h1⟩
theorem tmod_gt (n : Int) {d : Int} (hd : 0 < d) : -d < n.tmod d := by
  have h := Int.tmod_lt_of_pos (-n) hd
  rw [Int.neg_tmod] at h
  omega
theorem fl_neg {n d : Int} (hd : 0 < d) (h : n.tmod d < 0) : n.tdiv d - 1 = n / d := by
  have h1 := Int.mul_tdiv_add_tmod n d
  have h2 := tmod_gt n hd
  refine ((fl_of (r := n.tmod d + d) ?_ (by omega) (by omega)).1).symm
  rw [Int.mul_sub, Int.mul_one]; omega
theorem fl_pos {n d : Int} (hd : 0 < d) (h : ¬ n.tmod d < 0) : n.tdiv d = n / d := by
  have h1 := Int.mul_tdiv_add_tmod n d
  have h2 := Int.tmod_lt_of_pos n hd
  exact ((fl_of h1 (by omega) (by omega)).1).symm
theorem tdiv_bd {n d B : Int} (hd : 0 < d) (h0 : -B ≤ n) (h1 : n ≤ B) : -B ≤ n.tdiv d ∧ n.tdiv d ≤ B := by
  have h2 := Int.mul_tdiv_add_tmod n d
  have h3 := tmod_gt n hd
  have h4 := Int.tmod_lt_of_pos n hd
  rcases Int.lt_or_le (n.tdiv d) 0 with h5 | h5
  · refine ⟨?_, by omega⟩
    have : d * n.tdiv d ≤ 1 * n.tdiv d := Int.mul_le_mul_of_nonpos_right (by omega) (by omega)
    rcases Int.lt_or_le n 0 with h6 | h6
    · have h7 := Int.tmod_nonneg d (show 0 ≤ -n by omega)
      rw [Int.neg_tmod] at h7
      omega
    · have := Int.tdiv_nonneg h6 (show 0 ≤ d by omega)
      omega
  · refine ⟨by omega, ?_⟩
    have : 1 * n.tdiv d ≤ d * n.tdiv d := Int.mul_le_mul_of_nonneg_right (by omega) h5
    rcases Int.lt_or_le n 0 with h6 | h6
    · have h7 := Int.tdiv_nonneg (show 0 ≤ -n by omega) (show 0 ≤ d by omega)
      rw [Int.neg_tdiv] at h7
      omega
    · have := Int.tmod_nonneg d h6
      omega
set_option maxRecDepth 100000 in
theorem pfloor_any (n d : Int) (hd : 0 < d) (h0 : -4000000000000 ≤ n) (h1 : n ≤ 4000000000000) (h2 : d ≤ 4000000000000) (w : World) :
    Calls Tryz.prog 79 #[.int .i64 n, .int .i64 d] w fun e w' => e = .returned (.int .i64 (n / d)) ∧ w = w' := by
  have hb := tdiv_bd hd h0 h1
  have hne : (d == 0) = false := by rw [beq_eq_false_iff_ne]; omega
  have hmb1 := tmod_gt n hd
  have hmb2 := Int.tmod_lt_of_pos n hd
  by_cases h : n.tmod d < 0
  · have HR := Lib.hid (fl_neg hd h)
    have d1 : decide (n.tmod d < 0) = true := decide_eq_true h
    go_enter Tryz.func79, Tryz.ntmps79
    go_wp2
    go_ret
    exact ⟨congrArg (fun z => Ending.returned (.int .i64 z)) HR.out, rfl⟩
  · have HR := Lib.hid (fl_pos hd h)
    have d1 : decide (n.tmod d < 0) = false := decide_eq_false h
    go_enter Tryz.func79, Tryz.ntmps79
    go_wp2
    go_ret
    exact ⟨congrArg (fun z => Ending.returned (.int .i64 z)) HR.out, rfl⟩
set_option maxRecDepth 100000 in
theorem pmod_any (n d : Int) (hd : 0 < d) (h0 : -4000000000000 ≤ n) (h1 : n ≤ 4000000000000) (h2 : d ≤ 2000000) (w : World) :
    Calls Tryz.prog 65 #[.int .i64 n, .int .i64 d] w fun e w' => e = .returned (.int .i64 (n % d)) ∧ w = w' := by
  have e1 := Int.mul_ediv_add_emod n d
  have e2 := Int.emod_nonneg n (show d ≠ 0 by omega)
  have e3 := Int.emod_lt_of_pos n hd
  have e4 : n / d * d = d * (n / d) := Int.mul_comm _ _
  have HR := Lib.hid (show n - n / d * d = n % d by omega)
  have hb : -4000004000000 ≤ n / d * d ∧ n / d * d ≤ 4000004000000 := by omega
  have HC := Lib.hid (pfloor_any n d hd h0 h1 (by omega))
  clear e1 e2 e3 e4
  go_enter Tryz.func65, Tryz.ntmps65
  go_wp2_with fail
  refine (HC.out w).mono ?_
  rintro e w' ⟨rfl, rfl⟩
  obtain ⟨q, hq⟩ : ∃ q, q = n / d := ⟨_, rfl⟩
  rw [← hq] at HR hb ⊢
  clear hq
  go_wp2
  go_ret
  exact ⟨congrArg (fun z => Ending.returned (.int .i64 z)) HR.out, rfl⟩
end Go.Proofs.YtgmokojdlbdjeaaGreatDoor
