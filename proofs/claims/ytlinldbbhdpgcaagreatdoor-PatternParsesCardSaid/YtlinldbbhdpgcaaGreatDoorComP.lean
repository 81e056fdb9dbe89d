/-
  THE PERIODS THAT TWO LATTICES HAVE IN COMMON, AS THE PROGRAM FINDS THEM: PLAIN.
-/
import Derived.Test.YtlinldbbhdpgcaaGreatDoorComM
namespace Go.Proofs.YtlinldbbhdpgcaaGreatDoor
theorem com_prog2 {a1 b1 c1 a2 b2 c2 : Int} (h1 : 0 < a1) (h2 : 0 < a2) (h3 : 0 < c1) (h4 : 0 < c2) : ∃ C B : Int, (0 < C ∧ C ≤ a1 * (c1 * c2) ∧ C % lcmP c1 c2 = 0 ∧ lcmP c1 c2 ≤ C) ∧
    (∀ c, 0 < c → c < C → c % lcmP c1 c2 = 0 → (c / c1 * b1 - c / c2 * b2) % (Int.gcd a1 a2 : Int) ≠ 0) ∧ (C / c1 * b1 - C / c2 * b2) % (Int.gcd a1 a2 : Int) = 0 ∧
    (C / c1 * b1 % a1 ≤ B ∧ (B - C / c1 * b1 % a1) % a1 = 0 ∧ B ≤ a1 + a2 * a1) ∧ (∀ b, C / c1 * b1 % a1 ≤ b → b < B → (b - C / c1 * b1 % a1) % a1 = 0 → (b - C / c2 * b2) % a2 ≠ 0) ∧ (B - C / c2 * b2) % a2 = 0 ∧
    Com a1 b1 c1 a2 b2 c2 (lcmP a1 a2) (B % lcmP a1 a2) C := by
  obtain ⟨n, k, ⟨n0, n1, k0, k1⟩, f1, f2, f3, f4⟩ := com_prog (b1 := b1) (b2 := b2) h1 h2 h3 h4
  have hc := com_find (b1 := b1) (b2 := b2) h1 h2 h3 h4 n0 n1 f4
  obtain ⟨g1, g2, g3, g4, g5, g6, g7, g8, -⟩ := lcmP_spec h3 h4
  have hgl := (lcmP_spec h1 h2).2.1
  have hL : lcmP c1 c2 ≤ c1 * c2 := by
    have : lcmP c1 c2 * 1 ≤ lcmP c1 c2 * (Int.gcd c1 c2 : Int) := Int.mul_le_mul_of_nonneg_left (by omega) (by omega)
    omega
  have hr0 := Int.emod_nonneg (n * lcmP c1 c2 / c1 * b1) (show a1 ≠ 0 by omega)
  have hr1 := Int.emod_lt_of_pos (n * lcmP c1 c2 / c1 * b1) h1
  have hka : 0 ≤ k * a1 := Int.mul_nonneg k0 (by omega)
  have hka2 : k * a1 ≤ a2 * a1 := Int.mul_le_mul_of_nonneg_right k1 (by omega)
  refine ⟨n * lcmP c1 c2, n * lcmP c1 c2 / c1 * b1 % a1 + k * a1, ⟨Int.mul_pos n0 g5, Int.mul_le_mul (by omega) hL (by omega) (by omega), Int.mul_emod_left _ _, ?_⟩, fun c c0 cl hm => ?_, f2, ⟨by omega, ?_, by omega⟩, fun b b0 bl hm => ?_, f4, hc⟩
  · have : 1 * lcmP c1 c2 ≤ n * lcmP c1 c2 := Int.mul_le_mul_of_nonneg_right (by omega) (by omega)
    omega
  · obtain ⟨i, hi⟩ := Int.dvd_of_emod_eq_zero hm
    rw [Int.mul_comm] at hi
    rw [hi] at c0 cl ⊢
    exact f1 i (by
      rcases Int.lt_or_le 0 i with h | h
      · exact h
      · have := Int.mul_nonpos_of_nonpos_of_nonneg h (show 0 ≤ lcmP c1 c2 by omega)
        omega) (Int.lt_of_mul_lt_mul_right cl (by omega))
  · rw [show n * lcmP c1 c2 / c1 * b1 % a1 + k * a1 - n * lcmP c1 c2 / c1 * b1 % a1 = k * a1 by omega]
    exact Int.mul_emod_left _ _
  · obtain ⟨j, hj⟩ := Int.dvd_of_emod_eq_zero hm
    have hj2 : a1 * j = j * a1 := Int.mul_comm _ _
    have e : b = n * lcmP c1 c2 / c1 * b1 % a1 + j * a1 := by omega
    have h5 : j * a1 < k * a1 := by omega
    have hj0 : 0 ≤ j := by
      rcases Int.lt_or_le j 0 with h | h
      · have h6 : j * a1 ≤ -1 * a1 := Int.mul_le_mul_of_nonneg_right (by omega) (by omega)
        rw [Int.neg_mul, Int.one_mul] at h6
        omega
      · exact h
    rw [e]
    exact f3 j hj0 (Int.lt_of_mul_lt_mul_right h5 (by omega))
end Go.Proofs.YtlinldbbhdpgcaaGreatDoor
