/-
  WHAT A SHARE THAT IS WRITTEN IS: PLAIN.
-/
import Derived.Test.YtdgmpaijpjkeoaaLotJ
namespace Go.Proofs.Ytdgmpaijpjkeoaa
open Go.RowKit
theorem sh_val {l : List LotD} {of i p q : Int} (h : shE l of i = (p, q, 0)) : vld p q = true ∧ ∃ N D : Nat, N = fN l of.toNat i.toNat ∧ D = Pr (tN l) 0 (i.toNat + 1) ∧ 0 < D ∧ p * D = N * q := by
  unfold shE at h
  by_cases hc : chkE l [of, i] = 0
  · rw [if_neg (by simpa using hc)] at h
    obtain ⟨hgl, -⟩ := chk_zero hc
    have hle := fN_le hgl.lot of.toNat i.toNat
    have hD : 0 < Pr (tN l) 0 (i.toNat + 1) := Pr_pos (tN_pos hgl.lot) _ _
    obtain ⟨N, hN⟩ : ∃ N, N = fN l of.toNat i.toNat := ⟨_, rfl⟩
    obtain ⟨D, hDD⟩ : ∃ D, D = Pr (tN l) 0 (i.toNat + 1) := ⟨_, rfl⟩
    rw [← hN, ← hDD] at h hle
    rw [← hDD] at hD
    rcases Nat.eq_zero_or_pos N with h0 | h0
    · subst h0
      rw [show frE 0 D = (0, 1, 0) from rfl] at h
      simp only [Prod.mk.injEq, and_true] at h
      obtain ⟨rfl, rfl⟩ := h
      exact ⟨by decide, 0, D, hN, hDD, hD, by simp⟩
    · rw [← frE_mk h0 hle] at h
      obtain ⟨-, hv, he⟩ := mk_ok h
      refine ⟨hv, N, D, hN, hDD, hD, ?_⟩
      have g1 : N / Nat.gcd N D * Nat.gcd N D = N := Nat.div_mul_cancel (Nat.gcd_dvd_left _ _)
      have g2 : D / Nat.gcd N D * Nat.gcd N D = D := Nat.div_mul_cancel (Nat.gcd_dvd_right _ _)
      have e1 : (N : Int) = ((N / Nat.gcd N D : Nat) : Int) * ((Nat.gcd N D : Nat) : Int) := by rw [← Int.natCast_mul, g1]
      have e2 : (D : Int) = ((D / Nat.gcd N D : Nat) : Int) * ((Nat.gcd N D : Nat) : Int) := by rw [← Int.natCast_mul, g2]
      rw [e1, e2, ← Int.mul_assoc, he, Int.mul_assoc, Int.mul_assoc, Int.mul_comm q]
  · rw [if_pos hc] at h
    simp only [Prod.mk.injEq] at h
    exact absurd h.2.2 hc
theorem sh_bd {l : List LotD} {of i p q z : Int} (h : shE l of i = (p, q, z)) : -9223372036854775808 ≤ p ∧ p ≤ 9223372036854775807 ∧ -9223372036854775808 ≤ q ∧ q ≤ 9223372036854775807 := by
  by_cases hz : z = 0
  · subst hz
    have := vld_bd (sh_val h).1
    omega
  · unfold shE frE at h
    split at h
    · simp only [Prod.mk.injEq] at h; omega
    · split at h
      · simp only [Prod.mk.injEq] at h; omega
      · split at h
        · simp only [Prod.mk.injEq] at h; omega
        · simp only [Prod.mk.injEq] at h; omega
end Go.Proofs.Ytdgmpaijpjkeoaa
