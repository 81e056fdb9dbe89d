/-
  THE GREATEST COMMON DIVISOR BY HALVING; LONG DIVISION BY SHIFTS: PLAIN.
-/
import Derived.Test.YtdgmpaijpjkeoaaNatM
namespace Go.Proofs.Ytdgmpaijpjkeoaa
theorem gcd_half_both {a b : Nat} (ha : a % 2 = 0) (hb : b % 2 = 0) : Nat.gcd a b = 2 * Nat.gcd (a / 2) (b / 2) := by
  obtain ⟨x, rfl⟩ : ∃ x, a = 2 * x := ⟨a / 2, by omega⟩
  obtain ⟨y, rfl⟩ : ∃ y, b = 2 * y := ⟨b / 2, by omega⟩
  rw [Nat.gcd_mul_left, Nat.mul_div_cancel_left _ (by decide), Nat.mul_div_cancel_left _ (by decide)]
theorem gcd_half_left {a b : Nat} (ha : a % 2 = 0) (hg : Nat.gcd a b % 2 = 1) : Nat.gcd (a / 2) b = Nat.gcd a b := by
  obtain ⟨x, rfl⟩ : ∃ x, a = 2 * x := ⟨a / 2, by omega⟩
  rw [Nat.mul_div_cancel_left _ (by decide)]
  apply Nat.dvd_antisymm
  · exact Nat.dvd_gcd (Nat.dvd_trans (Nat.gcd_dvd_left x b) (Nat.dvd_mul_left x 2)) (Nat.gcd_dvd_right x b)
  · have hc : Nat.Coprime (Nat.gcd (2 * x) b) 2 := by
      have hd := Nat.gcd_dvd_right (Nat.gcd (2 * x) b) 2
      have hl := Nat.gcd_dvd_left (Nat.gcd (2 * x) b) 2
      have hle := Nat.le_of_dvd (by decide) hd
      have hp : 0 < Nat.gcd (Nat.gcd (2 * x) b) 2 := Nat.gcd_pos_of_pos_right _ (by decide)
      rcases Nat.lt_or_ge (Nat.gcd (Nat.gcd (2 * x) b) 2) 2 with h | h
      · unfold Nat.Coprime; omega
      · have e : Nat.gcd (Nat.gcd (2 * x) b) 2 = 2 := by omega
        rw [e] at hl
        omega
    exact Nat.dvd_gcd (hc.dvd_of_dvd_mul_left (Nat.gcd_dvd_left (2 * x) b)) (Nat.gcd_dvd_right (2 * x) b)
theorem gcd_half_right {a b : Nat} (hb : b % 2 = 0) (hg : Nat.gcd a b % 2 = 1) : Nat.gcd a (b / 2) = Nat.gcd a b := by
  rw [Nat.gcd_comm a, Nat.gcd_comm a] at *
  exact gcd_half_left hb hg
theorem gcd_minus {a b : Nat} (h : b ≤ a) : Nat.gcd (a - b) b = Nat.gcd a b := Nat.gcd_sub_self_left h
theorem gcd_odd {a b : Nat} (h : ¬ (a % 2 = 0 ∧ b % 2 = 0)) : Nat.gcd a b % 2 = 1 := by
  have h1 := Nat.gcd_dvd_left a b
  have h2 := Nat.gcd_dvd_right a b
  rcases Nat.mod_two_eq_zero_or_one (Nat.gcd a b) with e | e
  · exfalso
    have e2 : 2 ∣ Nat.gcd a b := Nat.dvd_of_mod_eq_zero e
    exact h ⟨Nat.mod_eq_zero_of_dvd (Nat.dvd_trans e2 h1), Nat.mod_eq_zero_of_dvd (Nat.dvd_trans e2 h2)⟩
  · exact e
/-- L is the number of bits of a. -/
def Bits (a L : Nat) : Prop := a < 2 ^ L ∧ (0 < L → 2 ^ (L - 1) ≤ a)
theorem Bits.zero {L : Nat} (h : Bits 0 L) : L = 0 := by
  rcases Nat.eq_zero_or_pos L with e | e
  · exact e
  · have := h.2 e
    have := Nat.pow_pos (n := L - 1) (show 0 < 2 by decide)
    omega
theorem Bits.pos {a L : Nat} (ha : 0 < a) (h : Bits a L) : 0 < L := by
  rcases Nat.eq_zero_or_pos L with e | e
  · subst e; have := h.1; simp at this; omega
  · exact e
theorem Bits.unique {a L M : Nat} (h : Bits a L) (k : Bits a M) : L = M := by
  rcases Nat.lt_trichotomy L M with g | g | g
  · have := k.2 (by omega)
    have := h.1
    have := Nat.pow_le_pow_right (show 0 < 2 by decide) (show L ≤ M - 1 by omega)
    omega
  · exact g
  · have := h.2 (by omega)
    have := k.1
    have := Nat.pow_le_pow_right (show 0 < 2 by decide) (show M ≤ L - 1 by omega)
    omega
theorem Bits.mono {a b L M : Nat} (h : Bits a L) (k : Bits b M) (hab : a ≤ b) : L ≤ M := by
  rcases Nat.lt_or_ge M L with g | g
  · have := h.2 (by omega)
    have := k.1
    have := Nat.pow_le_pow_right (show 0 < 2 by decide) (show M ≤ L - 1 by omega)
    omega
  · exact g
/-- From here on the quotient is found bit by bit. -/
theorem div_start {a b L M : Nat} (h : Bits a L) (hb : 0 < b) (k : Bits b M) (hs : M ≤ L) : a < 2 ^ (L - M + 1) * b := by
  have h1 := h.1
  have hM := k.pos hb
  have h2 := k.2 hM
  have : 2 ^ (L - M + 1) * 2 ^ (M - 1) ≤ 2 ^ (L - M + 1) * b := Nat.mul_le_mul_left _ h2
  rw [← Nat.pow_add, show L - M + 1 + (M - 1) = L by omega] at this
  omega
theorem div_room {b L M : Nat} (k : Bits b M) (hs : M ≤ L) (s : Nat) (hsl : s ≤ L - M) : 2 ^ s * b < 2 ^ L := by
  have h1 := k.1
  have : 2 ^ s * b < 2 ^ s * 2 ^ M := Nat.mul_lt_mul_of_pos_left h1 (Nat.pow_pos (by decide))
  rw [← Nat.pow_add] at this
  exact Nat.lt_of_lt_of_le this (Nat.pow_le_pow_right (by decide) (by omega))
theorem div_big {a b L M : Nat} (h : Bits a L) (k : Bits b M) (hs : M + 60 < L) : 2 ^ 60 * b ≤ a := by
  have h2 := h.2 (by omega)
  have h1 := k.1
  have : 2 ^ 60 * b ≤ 2 ^ 60 * 2 ^ M := Nat.mul_le_mul_left _ (by omega)
  rw [← Nat.pow_add] at this
  exact Nat.le_trans this (Nat.le_trans (Nat.pow_le_pow_right (by decide) (by omega)) h2)
theorem div_step {A q a b s : Nat} (h : A = q * (2 ^ (s + 1) * b) + a) (hl : a < 2 ^ (s + 1) * b) :
    (2 ^ s * b ≤ a → A = (2 * q + 1) * (2 ^ s * b) + (a - 2 ^ s * b) ∧ a - 2 ^ s * b < 2 ^ s * b) ∧ (a < 2 ^ s * b → A = (2 * q) * (2 ^ s * b) + a) := by
  have e : 2 ^ (s + 1) * b = 2 * (2 ^ s * b) := by rw [Nat.pow_succ]; rw [Nat.mul_comm (2 ^ s) 2, Nat.mul_assoc]
  rw [e] at h hl
  refine ⟨fun h1 => ⟨?_, by omega⟩, fun _ => ?_⟩
  · rw [Nat.add_mul, Nat.one_mul, Nat.mul_comm 2 q, Nat.mul_assoc]; omega
  · rw [Nat.mul_comm 2 q, Nat.mul_assoc]; omega
theorem div_end {A q a b : Nat} (hb : 0 < b) (h : A = q * (2 ^ 0 * b) + a) (hl : a < 2 ^ 0 * b) : q = A / b := by
  simp only [Nat.pow_zero, Nat.one_mul] at h hl
  rw [h, Nat.mul_comm, Nat.mul_add_div hb, Nat.div_eq_of_lt hl]; omega
end Go.Proofs.Ytdgmpaijpjkeoaa
