/-
  NATURAL NUMBERS IN WORDS OF 32 BITS: PLAIN.
-/
import Derived.Test.YtdgmpaijpjkeoaaProg
namespace Go.Proofs.Ytdgmpaijpjkeoaa
/-- The i-th word of a. -/
def dg (a i : Nat) : Nat := a / 4294967296 ^ i % 4294967296
/-- The words below the i-th. -/
def lw (a i : Nat) : Nat := a % 4294967296 ^ i
theorem pw_pos (i : Nat) : 0 < 4294967296 ^ i := Nat.pow_pos (by decide)
theorem dg_lt (a i : Nat) : dg a i < 4294967296 := Nat.mod_lt _ (by decide)
theorem lw_lt (a i : Nat) : lw a i < 4294967296 ^ i := Nat.mod_lt _ (pw_pos i)
theorem lw_zero (a : Nat) : lw a 0 = 0 := by simp [lw, Nat.mod_one]
theorem lw_succ (a i : Nat) : lw a (i + 1) = lw a i + 4294967296 ^ i * dg a i := by
  unfold lw dg
  rw [Nat.pow_succ, Nat.mod_mul]
theorem lw_all {a i : Nat} (h : a < 4294967296 ^ i) : lw a i = a := Nat.mod_eq_of_lt h
theorem dg_lw (a i : Nat) : a = lw a (i + 1) + 4294967296 ^ (i + 1) * (a / 4294967296 ^ (i + 1)) := by
  unfold lw; rw [Nat.mod_add_div]
/-- Two numbers with the same words below k have the same remainder. -/
theorem lw_ext {a b : Nat} : ∀ k, (∀ i < k, dg a i = dg b i) → lw a k = lw b k
  | 0, _ => by rw [lw_zero, lw_zero]
  | k + 1, h => by rw [lw_succ, lw_succ, lw_ext k (fun i hi => h i (by omega)), h k (by omega)]
theorem eq_of_words {a b k : Nat} (ha : a < 4294967296 ^ k) (hb : b < 4294967296 ^ k) (h : ∀ i < k, dg a i = dg b i) : a = b := by
  rw [← lw_all ha, ← lw_all hb, lw_ext k h]
theorem dg_big {a i : Nat} (h : a < 4294967296 ^ i) : dg a i = 0 := by
  unfold dg; rw [Nat.div_eq_of_lt h]
/-- times: the carry below the k-th word. -/
def cyT (a n k : Nat) : Nat := lw a k * n / 4294967296 ^ k
theorem cyT_zero (a n : Nat) : cyT a n 0 = 0 := by simp [cyT, lw_zero]
theorem cyT_lt {a n : Nat} (k : Nat) (hn : 0 < n) : cyT a n k < n := by
  unfold cyT
  rw [Nat.div_lt_iff_lt_mul (pw_pos k), Nat.mul_comm n]
  exact Nat.mul_lt_mul_of_pos_right (lw_lt a k) hn
theorem cyT_le (a n k : Nat) : cyT a n k ≤ n := by
  rcases Nat.eq_zero_or_pos n with rfl | h
  · simp [cyT]
  · exact Nat.le_of_lt (cyT_lt k h)
theorem cyT_step (a n k : Nat) : cyT a n (k + 1) = (cyT a n k + dg a k * n) / 4294967296 := by
  unfold cyT
  rw [lw_succ, Nat.pow_succ, ← Nat.div_div_eq_div_mul, Nat.add_mul, Nat.mul_assoc, Nat.add_mul_div_left _ _ (pw_pos k)]
theorem dg_mul (a n k : Nat) : dg (a * n) k = (cyT a n k + dg a k * n) % 4294967296 := by
  have e : a * n = (lw a k * n + 4294967296 ^ k * (dg a k * n)) + 4294967296 ^ k * (4294967296 * (a / 4294967296 ^ (k + 1) * n)) := by
    conv => lhs; rw [dg_lw a k, lw_succ]
    rw [Nat.add_mul, Nat.add_mul, Nat.pow_succ]
    simp only [Nat.mul_assoc]
  unfold dg cyT
  rw [e, Nat.add_mul_div_left _ _ (pw_pos k), Nat.add_mul_div_left _ _ (pw_pos k), Nat.add_mul_mod_self_left]
  rfl
/-- plus. -/
def cyP (a b k : Nat) : Nat := (lw a k + lw b k) / 4294967296 ^ k
theorem cyP_zero (a b : Nat) : cyP a b 0 = 0 := by simp [cyP, lw_zero]
theorem cyP_le (a b k : Nat) : cyP a b k ≤ 1 := by
  have h1 := lw_lt a k
  have h2 := lw_lt b k
  have : cyP a b k < 2 := by
    unfold cyP; rw [Nat.div_lt_iff_lt_mul (pw_pos k)]; omega
  omega
theorem cyP_step (a b k : Nat) : cyP a b (k + 1) = (cyP a b k + (dg a k + dg b k)) / 4294967296 := by
  unfold cyP
  rw [lw_succ, lw_succ, Nat.pow_succ, ← Nat.div_div_eq_div_mul, show lw a k + 4294967296 ^ k * dg a k + (lw b k + 4294967296 ^ k * dg b k) = (lw a k + lw b k) + 4294967296 ^ k * (dg a k + dg b k) by rw [Nat.mul_add]; omega, Nat.add_mul_div_left _ _ (pw_pos k)]
theorem dg_add (a b k : Nat) : dg (a + b) k = (cyP a b k + (dg a k + dg b k)) % 4294967296 := by
  have e : a + b = ((lw a k + lw b k) + 4294967296 ^ k * (dg a k + dg b k)) + 4294967296 ^ k * (4294967296 * (a / 4294967296 ^ (k + 1) + b / 4294967296 ^ (k + 1))) := by
    conv => lhs; rw [dg_lw a k, lw_succ, dg_lw b k, lw_succ]
    rw [Nat.pow_succ, Nat.mul_add, Nat.mul_add, Nat.mul_add]
    simp only [Nat.mul_assoc]
    omega
  unfold dg cyP
  rw [e, Nat.add_mul_div_left _ _ (pw_pos k), Nat.add_mul_div_left _ _ (pw_pos k), Nat.add_mul_mod_self_left]
  rfl
/-- minus: the borrow. -/
def cyM (a b k : Nat) : Nat := if lw a k < lw b k then 1 else 0
theorem cyM_zero (a b : Nat) : cyM a b 0 = 0 := by simp [cyM, lw_zero]
theorem cyM_step (a b k : Nat) : cyM a b (k + 1) = if dg a k < dg b k + cyM a b k then 1 else 0 := by
  unfold cyM
  rw [lw_succ, lw_succ]
  have h1 := lw_lt a k
  have h2 := lw_lt b k
  have key : (lw a k + 4294967296 ^ k * dg a k < lw b k + 4294967296 ^ k * dg b k) ↔ dg a k < dg b k + (if lw a k < lw b k then 1 else 0) := by
    rcases Nat.lt_trichotomy (dg a k) (dg b k) with h | h | h
    · have : 4294967296 ^ k * (dg a k + 1) ≤ 4294967296 ^ k * dg b k := Nat.mul_le_mul_left _ h
      rw [Nat.mul_add, Nat.mul_one] at this
      constructor <;> intro <;> omega
    · rw [h]
      split <;> omega
    · have : 4294967296 ^ k * (dg b k + 1) ≤ 4294967296 ^ k * dg a k := Nat.mul_le_mul_left _ h
      rw [Nat.mul_add, Nat.mul_one] at this
      constructor
      · intro; omega
      · split <;> omega
  by_cases h : lw a k + 4294967296 ^ k * dg a k < lw b k + 4294967296 ^ k * dg b k
  · rw [if_pos h, if_pos (key.1 h)]
  · rw [if_neg h, if_neg (fun x => h (key.2 x))]
theorem dg_sub {a b : Nat} (h : b ≤ a) (k : Nat) : dg (a - b) k = (dg a k + 4294967296 - dg b k - cyM a b k) % 4294967296 := by
  -- a = (a - b) + b
  have h1 := dg_add (a - b) b k
  rw [Nat.sub_add_cancel h] at h1
  have hc : cyP (a - b) b k = cyM a b k := by
    have ha : lw a k = (lw (a - b) k + lw b k) % 4294967296 ^ k := by
      unfold lw
      conv => lhs; rw [← Nat.sub_add_cancel h, Nat.add_mod]
    have l1 := lw_lt (a - b) k
    have l2 := lw_lt b k
    unfold cyP cyM
    by_cases hs : lw (a - b) k + lw b k < 4294967296 ^ k
    · rw [Nat.mod_eq_of_lt hs] at ha
      rw [Nat.div_eq_of_lt hs, if_neg (by omega)]
    · rw [Nat.mod_eq_sub_mod (by omega), Nat.mod_eq_of_lt (by omega)] at ha
      rw [Nat.div_eq_sub_div (pw_pos k) (by omega), Nat.div_eq_of_lt (by omega), if_pos (by omega)]
  rw [hc] at h1
  have l1 := dg_lt (a - b) k
  have l2 := dg_lt b k
  have l3 : cyM a b k ≤ 1 := by unfold cyM; split <;> omega
  omega
/-- comparing: the words above the k-th are the same. -/
theorem cmp_lt {a b k : Nat} (h : a / 4294967296 ^ (k + 1) = b / 4294967296 ^ (k + 1)) (hd : dg a k < dg b k) : a < b := by
  rw [dg_lw a k, dg_lw b k, h, lw_succ, lw_succ]
  have h1 := lw_lt a k
  have : 4294967296 ^ k * (dg a k + 1) ≤ 4294967296 ^ k * dg b k := Nat.mul_le_mul_left _ hd
  rw [Nat.mul_add, Nat.mul_one] at this
  omega
theorem up_same {a b k : Nat} (h : a / 4294967296 ^ (k + 1) = b / 4294967296 ^ (k + 1)) (hd : dg a k = dg b k) : a / 4294967296 ^ k = b / 4294967296 ^ k := by
  have e : ∀ x : Nat, x / 4294967296 ^ k = x / 4294967296 ^ (k + 1) * 4294967296 + dg x k := by
    intro x
    unfold dg
    rw [Nat.pow_succ, ← Nat.div_div_eq_div_mul, Nat.mul_comm, Nat.div_add_mod]
  rw [e a, e b, h, hd]
/-- half. -/
theorem dg_half (a k : Nat) : dg (a / 2) k = dg a k / 2 + dg a (k + 1) % 2 * 2147483648 := by
  unfold dg
  rw [Nat.div_div_eq_div_mul, Nat.mul_comm 2, ← Nat.div_div_eq_div_mul, Nat.pow_succ, ← Nat.div_div_eq_div_mul]
  omega
theorem even_iff (a : Nat) : dg a 0 % 2 = a % 2 := by
  unfold dg; simp
end Go.Proofs.Ytdgmpaijpjkeoaa
