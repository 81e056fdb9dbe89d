/-
  NATURAL NUMBERS IN WORDS OF 32 BITS: PLAIN.
-/
import Derived.Test.YtdgmpaijpjkeoaaProg
import Derived.Test.YtdgmpaijpjkeoaaReg
import Derived.Deep.WholeRow
import Derived.Deep.DeepCutAuto
import Derived.Laws.BitsAllLaws
import Derived.Deep.RegionWith
import Derived.Test.YtdgmpaijpjkeoaaShelf
import Derived.ChangeKeysEq
import Derived.Laws.Tables
namespace Go.Proofs.Ytdgmpaijpjkeoaa
/-- The i-th word of a. -/
def dg (a i : Nat) : Nat := a / 4294967296 ^ i % 4294967296
/-- The words below the i-th. -/
def lw (a i : Nat) : Nat := a % 4294967296 ^ i
theorem pw_pos (i : Nat) : 0 < 4294967296 ^ i := Nat.pow_pos (by decide)
theorem dg_lt (a i : Nat) : dg a i < 4294967296 := Nat.mod_lt _ (by decide)
theorem lw_lt (a i : Nat) : lw a i < 4294967296 ^ i := Nat.mod_lt _ (pw_pos i)
theorem lw_zero (a : Nat) : lw a 0 = 0 := by simp [lw, Nat.mod_one]
theorem lw_succ (a i : Nat) : lw a (i + 1) = lw a i + 4294967296 ^ i * dg a i := by
  unfold lw dg
  rw [Nat.pow_succ, Nat.mod_mul]
theorem lw_all {a i : Nat} (h : a < 4294967296 ^ i) : lw a i = a := Nat.mod_eq_of_lt h
theorem dg_lw (a i : Nat) : a = lw a (i + 1) + 4294967296 ^ (i + 1) * (a / 4294967296 ^ (i + 1)) := by
  unfold lw; rw [Nat.mod_add_div]
/-- Two numbers with the same words below k have the same remainder. -/
theorem lw_ext {a b : Nat} : ∀ k, (∀ i < k, dg a i = dg b i) → lw a k = lw b k
  | 0, _ => by rw [lw_zero, lw_zero]
  | k + 1, h => by rw [lw_succ, lw_succ, lw_ext k (fun i hi => h i (by omega)), h k (by omega)]
theorem eq_of_words {a b k : Nat} (ha : a < 4294967296 ^ k) (hb : b < 4294967296 ^ k) (h : ∀ i < k, dg a i = dg b i) : a = b := by
  rw [← lw_all ha, ← lw_all hb, lw_ext k h]
theorem dg_big {a i : Nat} (h : a < 4294967296 ^ i) : dg a i = 0 := by
  unfold dg; rw [Nat.div_eq_of_lt h]
/-- times: the carry below the k-th word. -/
def cyT (a n k : Nat) : Nat := lw a k * n / 4294967296 ^ k
theorem cyT_zero (a n : Nat) : cyT a n 0 = 0 := by simp [cyT, lw_zero]
theorem cyT_lt {a n : Nat} (k : Nat) (hn : 0 < n) : cyT a n k < n := by
  unfold cyT
  rw [Nat.div_lt_iff_lt_mul (pw_pos k), Nat.mul_comm n]
  exact Nat.mul_lt_mul_of_pos_right (lw_lt a k) hn
theorem cyT_le (a n k : Nat) : cyT a n k ≤ n := by
  rcases Nat.eq_zero_or_pos n with rfl | h
  · simp [cyT]
  · exact Nat.le_of_lt (cyT_lt k h)
theorem cyT_step (a n k : Nat) : cyT a n (k + 1) = (cyT a n k + dg a k * n) / 4294967296 := by
  unfold cyT
  rw [lw_succ, Nat.pow_succ, ← Nat.div_div_eq_div_mul, Nat.add_mul, Nat.mul_assoc, Nat.add_mul_div_left _ _ (pw_pos k)]
theorem dg_mul (a n k : Nat) : dg (a * n) k = (cyT a n k + dg a k * n) % 4294967296 := by
  have e : a * n = (lw a k * n + 4294967296 ^ k * (dg a k * n)) + 4294967296 ^ k * (4294967296 * (a / 4294967296 ^ (k + 1) * n)) := by
    conv => lhs; rw [dg_lw a k, lw_succ]
    rw [Nat.add_mul, Nat.add_mul, Nat.pow_succ]
    simp only [Nat.mul_assoc]
  unfold dg cyT
  rw [e, Nat.add_mul_div_left _ _ (pw_pos k), Nat.add_mul_div_left _ _ (pw_pos k), Nat.add_mul_mod_self_left]
  rfl
/-- plus. -/
def cyP (a b k : Nat) : Nat := (lw a k + lw b k) / 4294967296 ^ k
theorem cyP_zero (a b : Nat) : cyP a b 0 = 0 := by simp [cyP, lw_zero]
theorem cyP_le (a b k : Nat) : cyP a b k ≤ 1 := by
  have h1 := lw_lt a k
  have h2 := lw_lt b k
  have : cyP a b k < 2 := by
    unfold cyP; rw [Nat.div_lt_iff_lt_mul (pw_pos k)]; omega
  omega
theorem cyP_step (a b k : Nat) : cyP a b (k + 1) = (cyP a b k + (dg a k + dg b k)) / 4294967296 := by
  unfold cyP
  rw [lw_succ, lw_succ, Nat.pow_succ, ← Nat.div_div_eq_div_mul, show lw a k + 4294967296 ^ k * dg a k + (lw b k + 4294967296 ^ k * dg b k) = (lw a k + lw b k) + 4294967296 ^ k * (dg a k + dg b k) by rw [Nat.mul_add]; omega, Nat.add_mul_div_left _ _ (pw_pos k)]
theorem dg_add (a b k : Nat) : dg (a + b) k = (cyP a b k + (dg a k + dg b k)) % 4294967296 := by
  have e : a + b = ((lw a k + lw b k) + 4294967296 ^ k * (dg a k + dg b k)) + 4294967296 ^ k * (4294967296 * (a / 4294967296 ^ (k + 1) + b / 4294967296 ^ (k + 1))) := by
    conv => lhs; rw [dg_lw a k, lw_succ, dg_lw b k, lw_succ]
    rw [Nat.pow_succ, Nat.mul_add, Nat.mul_add, Nat.mul_add]
    simp only [Nat.mul_assoc]
    omega
  unfold dg cyP
  rw [e, Nat.add_mul_div_left _ _ (pw_pos k), Nat.add_mul_div_left _ _ (pw_pos k), Nat.add_mul_mod_self_left]
  rfl
/-- minus: the borrow. -/
def cyM (a b k : Nat) : Nat := if lw a k < lw b k then 1 else 0
theorem cyM_zero (a b : Nat) : cyM a b 0 = 0 := by simp [cyM, lw_zero]
theorem cyM_step (a b k : Nat) : cyM a b (k + 1) = if dg a k < dg b k + cyM a b k then 1 else 0 := by
  unfold cyM
  rw [lw_succ, lw_succ]
  have h1 := lw_lt a k
  have h2 := lw_lt b k
  have key : (lw a k + 4294967296 ^ k * dg a k < lw b k + 4294967296 ^ k * dg b k) ↔ dg a k < dg b k + (if lw a k < lw b k then 1 else 0) := by
    rcases Nat.lt_trichotomy (dg a k) (dg b k) with h | h | h
    · have : 4294967296 ^ k * (dg a k + 1) ≤ 4294967296 ^ k * dg b k := Nat.mul_le_mul_left _ h
      rw [Nat.mul_add, Nat.mul_one] at this
      constructor <;> intro <;> omega
    · rw [h]
      split <;> omega
    · have : 4294967296 ^ k * (dg b k + 1) ≤ 4294967296 ^ k * dg a k := Nat.mul_le_mul_left _ h
      rw [Nat.mul_add, Nat.mul_one] at this
      constructor
      · intro; omega
      · split <;> omega
  by_cases h : lw a k + 4294967296 ^ k * dg a k < lw b k + 4294967296 ^ k * dg b k
  · rw [if_pos h, if_pos (key.1 h)]
  · rw [if_neg h, if_neg (fun x => h (key.2 x))]
theorem dg_sub {a b : Nat} (h : b ≤ a) (k : Nat) : dg (a - b) k = (dg a k + 4294967296 - dg b k - cyM a b k) % 4294967296 := by
  -- a = (a - b) + b
  have h1 := dg_add (a - b) b k
  rw [Nat.sub_add_cancel h] at h1
  have hc : cyP (a - b) b k = cyM a b k := by
    have ha : lw a k = (lw (a - b) k + lw b k) % 4294967296 ^ k := by
      unfold lw
      conv => lhs; rw [← Nat.sub_add_cancel h, Nat.add_mod]
    have l1 := lw_lt (a - b) k
    have l2 := lw_lt b k
    unfold cyP cyM
    by_cases hs : lw (a - b) k + lw b k < 4294967296 ^ k
    · rw [Nat.mod_eq_of_lt hs] at ha
      rw [Nat.div_eq_of_lt hs, if_neg (by omega)]
    · rw [Nat.mod_eq_sub_mod (by omega), Nat.mod_eq_of_lt (by omega)] at ha
      rw [Nat.div_eq_sub_div (pw_pos k) (by omega), Nat.div_eq_of_lt (by omega), if_pos (by omega)]
  rw [hc] at h1
  have l1 := dg_lt (a - b) k
  have l2 := dg_lt b k
  have l3 : cyM a b k ≤ 1 := by unfold cyM; split <;> omega
  omega
/-- comparing: the words above the k-th are the same. -/
theorem cmp_lt {a b k : Nat} (h : a / 4294967296 ^ (k + 1) = b / 4294967296 ^ (k + 1)) (hd : dg a k < dg b k) : a < b := by
  rw [dg_lw a k, dg_lw b k, h, lw_succ, lw_succ]
  have h1 := lw_lt a k
  have : 4294967296 ^ k * (dg a k + 1) ≤ 4294967296 ^ k * dg b k := Nat.mul_le_mul_left _ hd
  rw [Nat.mul_add, Nat.mul_one] at this
  omega
theorem up_same {a b k : Nat} (h : a / 4294967296 ^ (k + 1) = b / 4294967296 ^ (k + 1)) (hd : dg a k = dg b k) : a / 4294967296 ^ k = b / 4294967296 ^ k := by
  have e : ∀ x : Nat, x / 4294967296 ^ k = x / 4294967296 ^ (k + 1) * 4294967296 + dg x k := by
    intro x
    unfold dg
    rw [Nat.pow_succ, ← Nat.div_div_eq_div_mul, Nat.mul_comm, Nat.div_add_mod]
  rw [e a, e b, h, hd]
/-- half. -/
theorem dg_half (a k : Nat) : dg (a / 2) k = dg a k / 2 + dg a (k + 1) % 2 * 2147483648 := by
  unfold dg
  rw [Nat.div_div_eq_div_mul, Nat.mul_comm 2, ← Nat.div_div_eq_div_mul, Nat.pow_succ, ← Nat.div_div_eq_div_mul]
  omega
theorem even_iff (a : Nat) : dg a 0 % 2 = a % 2 := by
  unfold dg; simp
end Go.Proofs.Ytdgmpaijpjkeoaa
/-
  THE GREATEST COMMON DIVISOR BY HALVING; LONG DIVISION BY SHIFTS: PLAIN.
-/
namespace Go.Proofs.Ytdgmpaijpjkeoaa
theorem gcd_half_both {a b : Nat} (ha : a % 2 = 0) (hb : b % 2 = 0) : Nat.gcd a b = 2 * Nat.gcd (a / 2) (b / 2) := by
  obtain ⟨x, rfl⟩ : ∃ x, a = 2 * x := ⟨a / 2, by omega⟩
  obtain ⟨y, rfl⟩ : ∃ y, b = 2 * y := ⟨b / 2, by omega⟩
  rw [Nat.gcd_mul_left, Nat.mul_div_cancel_left _ (by decide), Nat.mul_div_cancel_left _ (by decide)]
theorem gcd_half_left {a b : Nat} (ha : a % 2 = 0) (hg : Nat.gcd a b % 2 = 1) : Nat.gcd (a / 2) b = Nat.gcd a b := by
  obtain ⟨x, rfl⟩ : ∃ x, a = 2 * x := ⟨a / 2, by omega⟩
  rw [Nat.mul_div_cancel_left _ (by decide)]
  apply Nat.dvd_antisymm
  · exact Nat.dvd_gcd (Nat.dvd_trans (Nat.gcd_dvd_left x b) (Nat.dvd_mul_left x 2)) (Nat.gcd_dvd_right x b)
  · have hc : Nat.Coprime (Nat.gcd (2 * x) b) 2 := by
      have hd := Nat.gcd_dvd_right (Nat.gcd (2 * x) b) 2
      have hl := Nat.gcd_dvd_left (Nat.gcd (2 * x) b) 2
      have hle := Nat.le_of_dvd (by decide) hd
      have hp : 0 < Nat.gcd (Nat.gcd (2 * x) b) 2 := Nat.gcd_pos_of_pos_right _ (by decide)
      rcases Nat.lt_or_ge (Nat.gcd (Nat.gcd (2 * x) b) 2) 2 with h | h
      · unfold Nat.Coprime; omega
      · have e : Nat.gcd (Nat.gcd (2 * x) b) 2 = 2 := by omega
        rw [e] at hl
        omega
    exact Nat.dvd_gcd (hc.dvd_of_dvd_mul_left (Nat.gcd_dvd_left (2 * x) b)) (Nat.gcd_dvd_right (2 * x) b)
theorem gcd_half_right {a b : Nat} (hb : b % 2 = 0) (hg : Nat.gcd a b % 2 = 1) : Nat.gcd a (b / 2) = Nat.gcd a b := by
  rw [Nat.gcd_comm a, Nat.gcd_comm a] at *
  exact gcd_half_left hb hg
theorem gcd_minus {a b : Nat} (h : b ≤ a) : Nat.gcd (a - b) b = Nat.gcd a b := Nat.gcd_sub_self_left h
theorem gcd_odd {a b : Nat} (h : ¬ (a % 2 = 0 ∧ b % 2 = 0)) : Nat.gcd a b % 2 = 1 := by
  have h1 := Nat.gcd_dvd_left a b
  have h2 := Nat.gcd_dvd_right a b
  rcases Nat.mod_two_eq_zero_or_one (Nat.gcd a b) with e | e
  · exfalso
    have e2 : 2 ∣ Nat.gcd a b := Nat.dvd_of_mod_eq_zero e
    exact h ⟨Nat.mod_eq_zero_of_dvd (Nat.dvd_trans e2 h1), Nat.mod_eq_zero_of_dvd (Nat.dvd_trans e2 h2)⟩
  · exact e
/-- L is the number of bits of a. -/
def Bits (a L : Nat) : Prop := a < 2 ^ L ∧ (0 < L → 2 ^ (L - 1) ≤ a)
theorem Bits.zero {L : Nat} (h : Bits 0 L) : L = 0 := by
  rcases Nat.eq_zero_or_pos L with e | e
  · exact e
  · have := h.2 e
    have := Nat.pow_pos (n := L - 1) (show 0 < 2 by decide)
    omega
theorem Bits.pos {a L : Nat} (ha : 0 < a) (h : Bits a L) : 0 < L := by
  rcases Nat.eq_zero_or_pos L with e | e
  · subst e; have := h.1; simp at this; omega
  · exact e
theorem Bits.unique {a L M : Nat} (h : Bits a L) (k : Bits a M) : L = M := by
  rcases Nat.lt_trichotomy L M with g | g | g
  · have := k.2 (by omega)
    have := h.1
    have := Nat.pow_le_pow_right (show 0 < 2 by decide) (show L ≤ M - 1 by omega)
    omega
  · exact g
  · have := h.2 (by omega)
    have := k.1
    have := Nat.pow_le_pow_right (show 0 < 2 by decide) (show M ≤ L - 1 by omega)
    omega
theorem Bits.mono {a b L M : Nat} (h : Bits a L) (k : Bits b M) (hab : a ≤ b) : L ≤ M := by
  rcases Nat.lt_or_ge M L with g | g
  · have := h.2 (by omega)
    have := k.1
    have := Nat.pow_le_pow_right (show 0 < 2 by decide) (show M ≤ L - 1 by omega)
    omega
  · exact g
/-- From here on the quotient is found bit by bit. -/
theorem div_start {a b L M : Nat} (h : Bits a L) (hb : 0 < b) (k : Bits b M) (hs : M ≤ L) : a < 2 ^ (L - M + 1) * b := by
  have h1 := h.1
  have hM := k.pos hb
  have h2 := k.2 hM
  have : 2 ^ (L - M + 1) * 2 ^ (M - 1) ≤ 2 ^ (L - M + 1) * b := Nat.mul_le_mul_left _ h2
  rw [← Nat.pow_add, show L - M + 1 + (M - 1) = L by omega] at this
  omega
theorem div_room {b L M : Nat} (k : Bits b M) (hs : M ≤ L) (s : Nat) (hsl : s ≤ L - M) : 2 ^ s * b < 2 ^ L := by
  have h1 := k.1
  have : 2 ^ s * b < 2 ^ s * 2 ^ M := Nat.mul_lt_mul_of_pos_left h1 (Nat.pow_pos (by decide))
  rw [← Nat.pow_add] at this
  exact Nat.lt_of_lt_of_le this (Nat.pow_le_pow_right (by decide) (by omega))
theorem div_big {a b L M : Nat} (h : Bits a L) (k : Bits b M) (hs : M + 60 < L) : 2 ^ 60 * b ≤ a := by
  have h2 := h.2 (by omega)
  have h1 := k.1
  have : 2 ^ 60 * b ≤ 2 ^ 60 * 2 ^ M := Nat.mul_le_mul_left _ (by omega)
  rw [← Nat.pow_add] at this
  exact Nat.le_trans this (Nat.le_trans (Nat.pow_le_pow_right (by decide) (by omega)) h2)
theorem div_step {A q a b s : Nat} (h : A = q * (2 ^ (s + 1) * b) + a) (hl : a < 2 ^ (s + 1) * b) :
    (2 ^ s * b ≤ a → A = (2 * q + 1) * (2 ^ s * b) + (a - 2 ^ s * b) ∧ a - 2 ^ s * b < 2 ^ s * b) ∧ (a < 2 ^ s * b → A = (2 * q) * (2 ^ s * b) + a) := by
  have e : 2 ^ (s + 1) * b = 2 * (2 ^ s * b) := by rw [Nat.pow_succ]; rw [Nat.mul_comm (2 ^ s) 2, Nat.mul_assoc]
  rw [e] at h hl
  refine ⟨fun h1 => ⟨?_, by omega⟩, fun _ => ?_⟩
  · rw [Nat.add_mul, Nat.one_mul, Nat.mul_comm 2 q, Nat.mul_assoc]; omega
  · rw [Nat.mul_comm 2 q, Nat.mul_assoc]; omega
theorem div_end {A q a b : Nat} (hb : 0 < b) (h : A = q * (2 ^ 0 * b) + a) (hl : a < 2 ^ 0 * b) : q = A / b := by
  simp only [Nat.pow_zero, Nat.one_mul] at h hl
  rw [h, Nat.mul_comm, Nat.mul_add_div hb, Nat.div_eq_of_lt hl]; omega
end Go.Proofs.Ytdgmpaijpjkeoaa
/-
  NATURALS OF TWENTY WORDS: how they lie in memory; times.
-/
namespace Go.Proofs.Ytdgmpaijpjkeoaa
open Go.RowKit
/-- The words, b's below the k-th and a's from there on. -/
def mixC (b a k : Nat) : Array Value := ((List.range 20).map fun i => Value.int .u32 (dg (if i < k then b else a) i)).toArray
def natC (a : Nat) : Array Value := mixC a a 0
theorem mixC_size (b a k : Nat) : (mixC b a k).size = 20 := by simp [mixC]
theorem mixC_at {b a k i : Nat} (h : i < 20) : (mixC b a k)[i]? = some (.int .u32 (dg (if i < k then b else a) i)) := by simp [mixC, h]
theorem mixC_get {b a k i : Nat} (h : i < 20) (hk : k ≤ i) : (mixC b a k)[i]? = some (.int .u32 (dg a i)) := by rw [mixC_at h, if_neg (by omega)]
theorem mixC_zero (b a : Nat) : mixC b a 0 = natC a := by simp [natC, mixC]
theorem natC_at {a i : Nat} (h : i < 20) : (natC a)[i]? = some (.int .u32 (dg a i)) := mixC_get h (Nat.zero_le _)
theorem mixC_all (b a : Nat) : mixC b a 20 = natC b := by
  apply Array.ext_getElem?
  intro i
  by_cases h : i < 20
  · rw [mixC_at h, natC_at h, if_pos h]
  · rw [Array.getElem?_eq_none (by rw [mixC_size]; omega), Array.getElem?_eq_none (by rw [natC, mixC_size]; omega)]
theorem mixC_set {b a k : Nat} (h : k < 20) : (mixC b a k).setIfInBounds k (.int .u32 (dg b k)) = mixC b a (k + 1) := by
  apply Array.ext_getElem?
  intro i
  rw [Array.getElem?_setIfInBounds]
  by_cases hi : i < 20
  · rw [mixC_at hi, mixC_at hi]
    by_cases he : k = i
    · subst he; rw [if_pos rfl, mixC_size, if_pos h, if_pos (by omega)]
    · rw [if_neg he]
      by_cases hl : i < k
      · rw [if_pos hl, if_pos (by omega)]
      · rw [if_neg hl, if_neg (by omega)]
  · rw [if_neg (by omega), Array.getElem?_eq_none (by rw [mixC_size]; omega), Array.getElem?_eq_none (by rw [mixC_size]; omega)]
/-- A natural as a value. -/
def natV (a : Nat) : Value := .agg (natC a)
theorem natC_size (a : Nat) : (natC a).size = 20 := mixC_size _ _ _
theorem natZ : (#[Value.int IntKind.u32 0, Value.int IntKind.u32 0, Value.int IntKind.u32 0, Value.int IntKind.u32 0, Value.int IntKind.u32 0, Value.int IntKind.u32 0, Value.int IntKind.u32 0, Value.int IntKind.u32 0, Value.int IntKind.u32 0, Value.int IntKind.u32 0, Value.int IntKind.u32 0, Value.int IntKind.u32 0, Value.int IntKind.u32 0, Value.int IntKind.u32 0, Value.int IntKind.u32 0, Value.int IntKind.u32 0, Value.int IntKind.u32 0, Value.int IntKind.u32 0, Value.int IntKind.u32 0, Value.int IntKind.u32 0] : Array Value) = natC 0 := by kernel_rfl
theorem natInfo : (Try.prog.info? 77).map (·.size) = some 20 := by kernel_rfl
theorem natZero (w : World) : (zeroValue 77).run Try.prog w = .ok (natV 0) w :=
  (zero_of_info (P := Try.prog) (t := 77) (v := natV 0) (n := 20) (by kernel_rfl)).1 w
theorem natSz (c : Array Value) (h : c.size = 20) : (Try.prog.info? 77).map (·.size) = some c.size := by rw [h]; exact natInfo
theorem push_last (a : Array Obj) (o : Obj) (i : Nat) (h : i = a.size) : (a.push o)[i]? = some o := by rw [Array.getElem?_push, if_pos h]
theorem push_old (a : Array Obj) (o : Obj) (i : Nat) (h : i < a.size) : (a.push o)[i]? = a[i]? := by rw [Array.getElem?_push, if_neg (by omega)]
theorem hp1 (w : World) (o p : Obj) : ((w.alloc o).alloc p).heap[w.heap.size]? = some o := (push_old (w.heap.push o) p _ (by simp)).trans (push_last w.heap o _ rfl)
theorem hp11 (w : World) (o p : Obj) : ((w.alloc o).alloc p).heap[w.heap.size + 1]? = some p := push_last (w.heap.push o) p _ (by simp)
theorem hp2 (w : World) (o p q : Obj) : (((w.alloc o).alloc p).alloc q).heap[w.heap.size]? = some o := (push_old ((w.heap.push o).push p) q _ (by simp; omega)).trans (hp1 w o p)
theorem hp21 (w : World) (o p q : Obj) : (((w.alloc o).alloc p).alloc q).heap[w.heap.size + 1]? = some p := (push_old ((w.heap.push o).push p) q _ (by simp)).trans (hp11 w o p)
theorem hp22 (w : World) (o p q : Obj) : (((w.alloc o).alloc p).alloc q).heap[w.heap.size + 1 + 1]? = some q := push_last ((w.heap.push o).push p) q _ (by simp)
theorem setRow1 (w : World) (o : Obj) (c c' : Array Value) (t : TypeId) : ((w.alloc o).alloc (.cells c t)).setRow (w.heap.size + 1) c' = (w.alloc o).alloc (.cells c' t) := by
  have := World.setRow_alloc_new (w.alloc o) c c' t
  rwa [show (w.alloc o).heap.size = w.heap.size + 1 from Array.size_push _] at this
theorem setRow2 (w : World) (o p : Obj) (c c' : Array Value) (t : TypeId) : (((w.alloc o).alloc p).alloc (.cells c t)).setRow (w.heap.size + 1 + 1) c' = ((w.alloc o).alloc p).alloc (.cells c' t) := by
  have := World.setRow_alloc_new ((w.alloc o).alloc p) c c' t
  rwa [show ((w.alloc o).alloc p).heap.size = w.heap.size + 1 + 1 from (Array.size_push _).trans (congrArg (· + 1) (Array.size_push _))] at this
theorem natC_one (a : Nat) : (natC a).all (·.oneCell') = true := by
  rw [Array.all_eq_true]
  intro i hi
  have h := natC_at (a := a) (i := i) (by rw [natC_size] at hi; exact hi)
  rw [Array.getElem?_eq_getElem hi] at h
  rw [Option.some.inj h]; rfl
set_option maxRecDepth 100000 in
set_option maxHeartbeats 400000 in
theorem nat_times (a n : Nat) (hn : n < 4294967296) (w : World) :
    Calls Try.prog 89 #[natV a, .int .i64 n] w fun e w' => e = .returned (natV (a * n)) ∧ Below w.heap.size w w' := by
  unfold natV
  obtain ⟨c, hc⟩ : ∃ c, c = natC a := ⟨_, rfl⟩
  rw [← hc]
  have HC := Lib.hid hc
  clear hc
  go_enter Try.func89, Try.ntmps89
  go_wp2
  rw [natZ]
  obtain ⟨z, hz⟩ : ∃ z, z = natC 0 := ⟨_, rfl⟩
  rw [← hz, HC.out]
  have HZ := Lib.hid hz
  clear hz
  go_loopw [5, 7] (fun v i wr => ∃ k : Nat, v = .int .u64 (cyT a n k) ∧ i = .int .i64 k ∧ k ≤ 20 ∧ wr = (w.alloc (.cells (mixC (a * n) a k) 77)).alloc (.cells z 77)) (fun _ i _ => 20 - (intOf i).toNat)
  case atStart => exact ⟨0, by rw [cyT_zero]; rfl, rfl, by omega, by rw [mixC_zero]⟩
  case round =>
    obtain ⟨k, rfl, rfl, hk, rfl⟩ := hrel
    by_cases hlt : k < 20
    · obtain ⟨m, hm⟩ : ∃ m, m = mixC (a * n) a k := ⟨_, rfl⟩
      rw [← hm]
      obtain ⟨d, hd⟩ : ∃ d, d = dg a k := ⟨_, rfl⟩
      have hd2 : d < 4294967296 := by rw [hd]; exact dg_lt _ _
      have hms : m.size = 20 := by rw [hm]; exact mixC_size _ _ _
      have hq : m[k] = .int .u32 d := Option.some.inj ((Array.getElem?_eq_getElem (by omega)).symm.trans (by rw [hm, hd]; exact mixC_get hlt (Nat.le_refl _)))
      obtain ⟨cy, hcy⟩ : ∃ cy, cy = cyT a n k := ⟨_, rfl⟩
      rw [← hcy]
      have hcy2 : cy ≤ n := by rw [hcy]; exact cyT_le _ _ _
      obtain ⟨x, hx⟩ : ∃ x, d * n = x := ⟨_, rfl⟩
      have hx2 : x ≤ 18446744065119617025 := by rw [← hx]; exact Nat.mul_le_mul (show d ≤ 4294967295 by omega) (show n ≤ 4294967295 by omega)
      have hxi : (d : Int) * (n : Int) = (x : Int) := by rw [← hx]; simp
      have HM := Lib.hid hm
      have HD := Lib.hid hd
      have HCY := Lib.hid hcy
      have HX := Lib.hid hx
      clear hm hd hcy hx
      have e1 : (cyT a n (k + 1) : Int) = ((cy : Int) + x) / 4294967296 := by
        rw [cyT_step, ← HCY.out, ← HD.out, HX.out]; omega
      have e2 : m.setIfInBounds k (.int .u32 (((cy : Int) + x) % 4294967296)) = mixC (a * n) a (k + 1) := by
        rw [← mixC_set hlt, ← HM.out]
        congr 2
        rw [dg_mul, ← HCY.out, ← HD.out, HX.out]; omega
      have E1 := Lib.hid e1
      have E2 := Lib.hid e2
      clear e1 e2
      go_wp2
      go_roundw
      case rel => exact ⟨k + 1, by rw [E1.out], by go_num, by omega, by rw [E2.out]⟩
      case measure => simp [intOf]; omega
    · obtain rfl : k = 20 := by omega
      rw [mixC_all]
      obtain ⟨m, hm⟩ : ∃ m, m = natC (a * n) := ⟨_, rfl⟩
      rw [← hm]
      have hms : m.size = 20 := by rw [hm]; exact natC_size _
      have hzs : z.size = 20 := by rw [HZ.out]; exact natC_size _
      have HM := Lib.hid hm
      clear hm
      go_wp2_with (first | refine wpList_load_row rfl 77 _ rfl _ rfl 77 _ (0, 0) _ (hp1 _ _ _) Try.underlying77 rfl (natSz _ hms) ?_ | refine wpList_store_row rfl 77 _ _ rfl _ _ rfl rfl 77 _ (hp11 _ _ _) (natSz _ hms) (by rw [hzs, hms]) (by rw [HM.out]; exact natC_one _) ?_)
      rw [setRow1]
      refine bodyPost_ret (v := .agg m) (results_cell_row rfl _ _ (w.heap.size + 1) 77 m (0, 0) _ rfl (hp11 _ _ _) Try.underlying77 rfl (natSz _ hms)) rfl ⟨by rw [HM.out], (by repeat' (first | (with_reducible exact Below.refl _ _) | (with_reducible assumption) | (with_reducible refine below_drewN ?_ _) | (with_reducible refine below_step (by assumption) ?_ ?_) | (with_reducible refine Below.alloc ?_ ?_ _) | (with_reducible refine Below.setCell ?_ ?_ _) | (with_reducible refine Below.drew ?_) | go_size | (exact Below.size (by assumption)) | (refine Nat.le_trans (Below.size (by assumption)) ?_)))⟩
end Go.Proofs.Ytdgmpaijpjkeoaa
/-
  NATURALS OF TWENTY WORDS: plus.
-/
namespace Go.Proofs.Ytdgmpaijpjkeoaa
open Go.RowKit
theorem set3 (w : World) (c : Array Value) (t : TypeId) (o p : Obj) (k n : Nat) (v : Value) :
    ((((w.alloc (.cells c t)).alloc o).alloc p).drewN n).setCell ⟨w.heap.size, k, none⟩ v = (((w.alloc (.cells (c.setIfInBounds k v) t)).alloc o).alloc p).drewN n := by
  show ((((w.alloc (.cells c t)).alloc o).alloc p).setCell ⟨w.heap.size, k, none⟩ v).drewN n = _
  rw [World.setCell_alloc_past _ _ _ _ (by simp; omega), World.setCell_alloc_past _ _ _ _ (by simp), World.setCell_alloc_at _ _ _ _ _ rfl]
theorem setRow2n (w : World) (o p : Obj) (c c' : Array Value) (t : TypeId) (n : Nat) : ((((w.alloc o).alloc p).alloc (.cells c t)).drewN n).setRow (w.heap.size + 1 + 1) c' = (((w.alloc o).alloc p).alloc (.cells c' t)).drewN n := by
  show ((((w.alloc o).alloc p).alloc (.cells c t)).setRow (w.heap.size + 1 + 1) c').drewN n = _
  rw [setRow2]
set_option maxRecDepth 100000 in
set_option maxHeartbeats 400000 in
theorem nat_plus (a b : Nat) (w : World) :
    Calls Try.prog 77 #[natV a, natV b] w fun e w' => e = .returned (natV (a + b)) ∧ Below w.heap.size w w' := by
  unfold natV
  obtain ⟨c, hc⟩ : ∃ c, c = natC a := ⟨_, rfl⟩
  obtain ⟨e, he⟩ : ∃ e, e = natC b := ⟨_, rfl⟩
  rw [← hc, ← he]
  have HC := Lib.hid hc
  have HE := Lib.hid he
  clear hc he
  go_enter Try.func77, Try.ntmps77
  go_wp2
  rw [natZ]
  obtain ⟨z, hz⟩ : ∃ z, z = natC 0 := ⟨_, rfl⟩
  rw [← hz, HC.out]
  have HZ := Lib.hid hz
  clear hz
  go_loopw [5, 7] (fun v i wr => ∃ k nd : Nat, v = .int .u64 (cyP a b k) ∧ i = .int .i64 k ∧ k ≤ 20 ∧ wr = (((w.alloc (.cells (mixC (a + b) a k) 77)).alloc (.cells e 77)).alloc (.cells z 77)).drewN nd) (fun _ i _ => 20 - (intOf i).toNat)
  case atStart => exact ⟨0, 0, by rw [cyP_zero]; rfl, rfl, by omega, by rw [mixC_zero]; rfl⟩
  case round =>
    obtain ⟨k, nd, rfl, rfl, hk, rfl⟩ := hrel
    by_cases hlt : k < 20
    · obtain ⟨m, hm⟩ : ∃ m, m = mixC (a + b) a k := ⟨_, rfl⟩
      rw [← hm]
      obtain ⟨d, hd⟩ : ∃ d, d = dg a k := ⟨_, rfl⟩
      have hd2 : d < 4294967296 := by rw [hd]; exact dg_lt _ _
      obtain ⟨x, hx⟩ : ∃ x, x = dg b k := ⟨_, rfl⟩
      have hx2 : x < 4294967296 := by rw [hx]; exact dg_lt _ _
      have hms : m.size = 20 := by rw [hm]; exact mixC_size _ _ _
      have hes : e.size = 20 := by rw [HE.out]; exact natC_size _
      have hq : m[k] = .int .u32 d := Option.some.inj ((Array.getElem?_eq_getElem (by omega)).symm.trans (by rw [hm, hd]; exact mixC_get hlt (Nat.le_refl _)))
      have hq2 : e[k] = .int .u32 x := Option.some.inj ((Array.getElem?_eq_getElem (by omega)).symm.trans (by rw [HE.out, hx]; exact natC_at hlt))
      obtain ⟨cy, hcy⟩ : ∃ cy, cy = cyP a b k := ⟨_, rfl⟩
      rw [← hcy]
      have hcy2 : cy ≤ 1 := by rw [hcy]; exact cyP_le _ _ _
      have HM := Lib.hid hm
      have HD := Lib.hid hd
      have HCY := Lib.hid hcy
      have HX := Lib.hid hx
      clear hm hd hcy hx
      have e1 : (cyP a b (k + 1) : Int) = ((cy : Int) + (d + x)) / 4294967296 := by
        rw [cyP_step, ← HCY.out, ← HD.out, ← HX.out]; omega
      have e2 : m.setIfInBounds k (.int .u32 (((cy : Int) + (d + x)) % 4294967296)) = mixC (a + b) a (k + 1) := by
        rw [← mixC_set hlt, ← HM.out]
        congr 2
        rw [dg_add, ← HCY.out, ← HD.out, ← HX.out]; omega
      have E1 := Lib.hid e1
      have E2 := Lib.hid e2
      clear e1 e2
      go_wp2
      go_quiet (fail)
      go_wp2
      go_roundw
      case rel => exact ⟨k + 1, _, by rw [E1.out], by go_num, by omega, by rw [set3, E2.out]⟩
      case measure => simp [intOf]; omega
    · obtain rfl : k = 20 := by omega
      rw [mixC_all]
      obtain ⟨m, hm⟩ : ∃ m, m = natC (a + b) := ⟨_, rfl⟩
      rw [← hm]
      have hms : m.size = 20 := by rw [hm]; exact natC_size _
      have hzs : z.size = 20 := by rw [HZ.out]; exact natC_size _
      have HM := Lib.hid hm
      clear hm
      go_wp2_with (first | refine wpList_load_row rfl 77 _ rfl _ rfl 77 _ (0, 0) _ (hp2 _ _ _ _) Try.underlying77 rfl (natSz _ hms) ?_ | refine wpList_store_row rfl 77 _ _ rfl _ _ rfl rfl 77 _ (hp22 _ _ _ _) (natSz _ hms) (by rw [hzs, hms]) (by rw [HM.out]; exact natC_one _) ?_)
      rw [setRow2n]
      refine bodyPost_ret (v := .agg m) (results_cell_row rfl _ _ (w.heap.size + 1 + 1) 77 m (0, 0) _ rfl (hp22 _ _ _ _) Try.underlying77 rfl (natSz _ hms)) rfl ⟨by rw [HM.out], (by repeat' (first | (with_reducible exact Below.refl _ _) | (with_reducible assumption) | (with_reducible refine below_drewN ?_ _) | (with_reducible refine below_step (by assumption) ?_ ?_) | (with_reducible refine Below.alloc ?_ ?_ _) | (with_reducible refine Below.setCell ?_ ?_ _) | (with_reducible refine Below.drew ?_) | go_size | (exact Below.size (by assumption)) | (refine Nat.le_trans (Below.size (by assumption)) ?_)))⟩
end Go.Proofs.Ytdgmpaijpjkeoaa
/-
  NATURALS OF TWENTY WORDS: half.
-/
namespace Go.Proofs.Ytdgmpaijpjkeoaa
open Go.RowKit
attribute [local go_sem] grow_cell grow_frozen
/-- Block b holds the cells c of a natural. -/
def NB (w : World) (b : Nat) (c : Array Value) : Prop := w.heap[b]? = some (.cells c 77 (0, 0))
theorem NB.lt {w : World} {b : Nat} {c : Array Value} (h : NB w b c) : b < w.heap.size := (Array.getElem?_eq_some_iff.1 h).1
theorem NB.cell {w : World} {b : Nat} {c : Array Value} (h : NB w b c) (k : Nat) : w.cell? ⟨b, k, none⟩ = c[k]? := cell_of_row w b k c _ (0, 0) h
theorem NB.free {w : World} {b : Nat} {c : Array Value} (h : NB w b c) (k : Nat) : w.frozen? ⟨b, k, none⟩ = false := frozen_of_row w b k c _ h
theorem NB.of_block {w w' : World} {b : Nat} {c : Array Value} (h : NB w b c) (hb : w'.heap[b]? = w.heap[b]?) : NB w' b c := hb.trans h
theorem NB.keep {w w' : World} {b : Nat} {c : Array Value} (h : NB w b c) (hb : Below w.heap.size w w') : NB w' b c := h.of_block (hb.block b h.lt)
theorem NB.alloc {w : World} {b : Nat} {c : Array Value} (h : NB w b c) (o : Obj) : NB (w.alloc o) b c := h.keep ((Below.refl _ _).alloc (Nat.le_refl _) o)
theorem NB.other {w : World} {b : Nat} {c : Array Value} (h : NB w b c) {p : Addr} (hp : b ≠ p.block) (u : Value) : NB (w.setCell p u) b c := h.of_block (Below.heap_setCell w p u b hp)
theorem NB.set {w : World} {b : Nat} {c : Array Value} (h : NB w b c) (k : Nat) (u : Value) : NB (w.setCell ⟨b, k, none⟩ u) b (c.setIfInBounds k u) := by
  obtain ⟨hg, he⟩ := Array.getElem?_eq_some_iff.1 h
  unfold NB
  simp [World.setCell, hg, Array.getElem_modify, he]
theorem NB.row {w : World} {b : Nat} {c : Array Value} (h : NB w b c) (c' : Array Value) : NB (w.setRow b c') b c' := by
  obtain ⟨hg, he⟩ := Array.getElem?_eq_some_iff.1 h
  unfold NB
  simp [World.setRow, hg, Array.getElem_modify, he]
theorem NB.rowOther {w : World} {b : Nat} {c : Array Value} (h : NB w b c) {g : Nat} (hg : b ≠ g) (c' : Array Value) : NB (w.setRow g c') b c := by
  refine h.of_block ?_
  simp only [World.setRow, Array.getElem?_modify]
  rw [if_neg (fun e => hg e.symm)]
theorem NB.drewN {w : World} {b : Nat} {c : Array Value} (h : NB w b c) (n : Nat) : NB (w.drewN n) b c := h
theorem NB.new (w : World) (c : Array Value) : NB (w.alloc (.cells c 77)) w.heap.size c := push_last w.heap _ _ rfl
theorem below_setRow {B : Nat} {w w' : World} (h : Below B w w') {g : Nat} (hg : B ≤ g) (c : Array Value) : Below B w (w'.setRow g c) := by
  refine ⟨h.os, h.tape, h.output, ?_, fun k hk => ?_⟩
  · have := h.size; simpa [World.setRow] using this
  · simp only [World.setRow, Array.getElem?_modify]
    rw [if_neg (by omega)]
    exact h.block k hk
theorem half_or (d x : Nat) (hd : d < 4294967296) : bits BinOp.or .u32 ((d : Int) / 2) ((x : Int) * 2147483648 % 4294967296) = ((d / 2 + x % 2 * 2147483648 : Nat) : Int) := by
  rw [show (d : Int) / 2 = ((d / 2 : Nat) : Int) by omega, show (x : Int) * 2147483648 % 4294967296 = ((x % 2 * 2147483648 : Nat) : Int) by omega, u32_or_nat _ _ (by omega) (by omega)]
  have h := Nat.two_pow_add_eq_or_of_lt (i := 31) (b := d / 2) (by omega) (x % 2)
  rw [show 2 ^ 31 * (x % 2) = x % 2 * 2147483648 by omega] at h
  rw [Nat.or_comm, ← h, Nat.add_comm]
set_option maxRecDepth 100000 in
set_option maxHeartbeats 400000 in
theorem nat_half (a : Nat) (ha : a < 4294967296 ^ 20) (w : World) :
    Calls Try.prog 110 #[natV a] w fun e w' => e = .returned (natV (a / 2)) ∧ Below w.heap.size w w' := by
  unfold natV
  obtain ⟨c, hc⟩ : ∃ c, c = natC a := ⟨_, rfl⟩
  rw [← hc]
  have HC := Lib.hid hc
  have HA := Lib.hid ha
  clear hc ha
  go_enter Try.func110, Try.ntmps110
  go_wp2
  rw [natZ]
  obtain ⟨z, hz⟩ : ∃ z, z = natC 0 := ⟨_, rfl⟩
  rw [← hz, HC.out]
  have HZ := Lib.hid hz
  clear hz
  go_loopw [4] (fun i wr => ∃ k : Nat, i = .int .i64 k ∧ k ≤ 20 ∧ Hid (NB wr w.heap.size (mixC (a / 2) a k) ∧ NB wr (w.heap.size + 1) z ∧ Below w.heap.size w wr)) (fun i _ => 20 - (intOf i).toNat)
  case atStart => exact ⟨0, rfl, by omega, by rw [mixC_zero]; exact hp1 _ _ _, hp11 _ _ _, (by repeat' (first | (with_reducible exact Below.refl _ _) | (with_reducible assumption) | (with_reducible refine below_drewN ?_ _) | (with_reducible refine below_step (by assumption) ?_ ?_) | (with_reducible refine Below.alloc ?_ ?_ _) | (with_reducible refine Below.setCell ?_ ?_ _) | (with_reducible refine Below.drew ?_) | go_size | (exact Below.size (by assumption)) | (refine Nat.le_trans (Below.size (by assumption)) ?_)))⟩
  case round =>
    obtain ⟨k, rfl, hk, hr⟩ := hrel
    have hsz := hr.out.1.lt
    by_cases hlt : k < 20
    · obtain ⟨d, hd⟩ : ∃ d, d = dg a k := ⟨_, rfl⟩
      have hd2 : d < 4294967296 := by rw [hd]; exact dg_lt _ _
      have hq : wr.cell? ⟨w.heap.size, k, none⟩ = some (.int .u32 d) := by rw [hr.out.1.cell, hd]; exact mixC_get hlt (Nat.le_refl _)
      have hf : wr.frozen? ⟨w.heap.size, k, none⟩ = false := hr.out.1.free k
      have HD := Lib.hid hd
      clear hd
      by_cases hl2 : k + 1 < 20
      · obtain ⟨x, hx⟩ : ∃ x, x = dg a (k + 1) := ⟨_, rfl⟩
        have hx2 : x < 4294967296 := by rw [hx]; exact dg_lt _ _
        have hq2 : wr.cell? ⟨w.heap.size, k + 1, none⟩ = some (.int .u32 x) := by rw [hr.out.1.cell, hx]; exact mixC_get hl2 (by omega)
        have hf2 : wr.frozen? ⟨w.heap.size, k + 1, none⟩ = false := hr.out.1.free _
        have HX := Lib.hid hx
        clear hx
        go_wp2
        obtain ⟨wa, hwa⟩ : ∃ wa, wa = wr.setCell ⟨w.heap.size, k, none⟩ (.int .u32 ((d : Int) / 2)) := ⟨_, rfl⟩
        rw [← hwa]
        have hn1 : Hid (NB wa w.heap.size ((mixC (a / 2) a k).setIfInBounds k (.int .u32 ((d : Int) / 2)))) := by rw [hwa]; exact hr.out.1.set _ _
        have hn2 : Hid (NB wa (w.heap.size + 1) z) := by rw [hwa]; exact hr.out.2.1.other (by simp) _
        have hn3 : Hid (Below w.heap.size w wa) := by rw [hwa]; exact hr.out.2.2.setCell (by simp) _
        have hsz2 := hn1.out.lt
        have qa : wa.cell? ⟨w.heap.size, k, none⟩ = some (.int .u32 ((d : Int) / 2)) := by
          rw [hn1.out.cell, Array.getElem?_setIfInBounds, if_pos rfl, mixC_size, if_pos hlt]
        have qb : wa.cell? ⟨w.heap.size, k + 1, none⟩ = some (.int .u32 x) := by
          rw [hn1.out.cell, Array.getElem?_setIfInBounds, if_neg (by omega), HX.out]; exact mixC_get hl2 (by omega)
        have fa := hn1.out.free k
        have fb := hn1.out.free (k + 1)
        clear hwa hq hq2 hf hf2 hsz
        refine region_grow_tail 9 (by kernel_rfl) (by kernel_rfl) ?_
        simp only [List.take_succ_cons, List.take_zero, List.drop_succ_cons, List.drop_zero]
        repeat (go_big_quiet_step (fail))
        refine wpQuiet_nil ?_
        rintro w1 ⟨xg, hxg⟩
        have hb1 := below_grow wa xg
        rw [← hxg] at hb1
        clear hxg xg
        have hm1 := Lib.hid (hn1.out.keep hb1)
        have hm2 := Lib.hid (hn2.out.keep hb1)
        have hm3 := Lib.hid (hn3.out.trans (hb1.mono hn3.out.size))
        have qc : w1.cell? ⟨w.heap.size, k, none⟩ = some (.int .u32 ((d : Int) / 2)) := by
          rw [hm1.out.cell, Array.getElem?_setIfInBounds, if_pos rfl, mixC_size, if_pos hlt]
        have fc := hm1.out.free k
        clear qa qb fa fb hb1
        have e2 : ((mixC (a / 2) a k).setIfInBounds k (.int .u32 ((d : Int) / 2))).setIfInBounds k (.int .u32 (bits BinOp.or .u32 ((d : Int) / 2) ((x : Int) * 2147483648 % 4294967296))) = mixC (a / 2) a (k + 1) := by
          rw [half_or d x hd2, Array.setIfInBounds_setIfInBounds, ← mixC_set hlt, dg_half, ← HD.out, ← HX.out]
        have E2 := Lib.hid e2
        clear e2
        go_wp2
        go_roundw
        case rel => exact ⟨k + 1, by go_num, by omega, by rw [← E2.out]; exact hm1.out.set _ _, hm2.out.other (by simp) _, hm3.out.setCell (by simp) _⟩
        case measure => simp [intOf]; omega
      · have e2 : (mixC (a / 2) a k).setIfInBounds k (.int .u32 ((d : Int) / 2)) = mixC (a / 2) a (k + 1) := by
          have hz0 : dg a (k + 1) = 0 := dg_big (by rw [show k + 1 = 20 by omega]; exact HA.out)
          rw [← mixC_set hlt, dg_half, ← HD.out, hz0]
          congr 2
        have E2 := Lib.hid e2
        clear e2
        go_wp2
        go_roundw
        case rel => exact ⟨k + 1, by go_num, by omega, by rw [← E2.out]; exact hr.out.1.set _ _, hr.out.2.1.other (by simp) _, hr.out.2.2.setCell (by simp) _⟩
        case measure => simp [intOf]; omega
    · obtain rfl : k = 20 := by omega
      have hr := hr
      rw [mixC_all] at hr
      obtain ⟨m, hm⟩ : ∃ m, m = natC (a / 2) := ⟨_, rfl⟩
      rw [← hm] at hr
      have hms : m.size = 20 := by rw [hm]; exact natC_size _
      have hzs : z.size = 20 := by rw [HZ.out]; exact natC_size _
      have HM := Lib.hid hm
      clear hm
      go_wp2_with (first | refine wpList_load_row rfl 77 _ rfl _ rfl 77 _ (0, 0) _ hr.out.1 Try.underlying77 rfl (natSz _ hms) ?_ | refine wpList_store_row rfl 77 _ _ rfl _ _ rfl rfl 77 _ hr.out.2.1 (natSz _ hms) (by rw [hzs, hms]) (by rw [HM.out]; exact natC_one _) ?_)
      refine bodyPost_ret (v := .agg m) (results_cell_row rfl _ _ (w.heap.size + 1) 77 m (0, 0) _ rfl (hr.out.2.1.row _) Try.underlying77 rfl (natSz _ hms)) rfl ⟨by rw [HM.out], below_setRow hr.out.2.2 (by omega) _⟩
end Go.Proofs.Ytdgmpaijpjkeoaa
/-
  NATURALS OF TWENTY WORDS: compare, length.
-/
namespace Go.Proofs.Ytdgmpaijpjkeoaa
open Go.RowKit
/-- -1, 0 or 1 as a is below, equal to or above b. -/
def cmpN (a b : Nat) : Int := if a < b then -1 else if b < a then 1 else 0
theorem top_zero {a : Nat} (h : a < 4294967296 ^ 20) : a / 4294967296 ^ 20 = 0 := Nat.div_eq_of_lt h
set_option maxRecDepth 100000 in
set_option maxHeartbeats 400000 in
theorem nat_compare (a b : Nat) (ha : a < 4294967296 ^ 20) (hb : b < 4294967296 ^ 20) (w : World) :
    Calls Try.prog 103 #[natV a, natV b] w fun e w' => e = .returned (.int .i64 (cmpN a b)) ∧ Below w.heap.size w w' := by
  unfold natV
  obtain ⟨c, hc⟩ : ∃ c, c = natC a := ⟨_, rfl⟩
  obtain ⟨f, hf⟩ : ∃ e, e = natC b := ⟨_, rfl⟩
  rw [← hc, ← hf]
  have HC := Lib.hid hc
  have HE := Lib.hid hf
  have hcs : c.size = 20 := by rw [hc]; exact natC_size _
  have hfs : f.size = 20 := by rw [hf]; exact natC_size _
  have HT := Lib.hid ((top_zero ha).trans (top_zero hb).symm)
  clear hc hf ha hb
  go_enter Try.func103, Try.ntmps103
  go_wp2
  go_loopw [5] (fun i wr => ∃ k nd : Nat, i = .int .i64 ((k : Int) - 1) ∧ k ≤ 20 ∧ Hid (a / 4294967296 ^ k = b / 4294967296 ^ k) ∧ wr = ((w.alloc (.cells c 77)).alloc (.cells f 77)).drewN nd) (fun i _ => (intOf i + 1).toNat)
  case atStart => exact ⟨20, 0, rfl, by omega, HT, rfl⟩
  case round =>
    obtain ⟨k, nd, rfl, hk, hu, rfl⟩ := hrel
    cases k with
    | zero =>
      have hab : a = b := by have := hu.out; simpa using this
      have HAB := Lib.hid (show cmpN a b = 0 by rw [hab, cmpN, if_neg (by omega), if_neg (by omega)])
      clear hab
      go_wp2
      go_ret
      exact ⟨by rw [HAB.out]; rfl, (by repeat' (first | (with_reducible exact Below.refl _ _) | (with_reducible assumption) | (with_reducible refine below_drewN ?_ _) | (with_reducible refine below_step (by assumption) ?_ ?_) | (with_reducible refine Below.alloc ?_ ?_ _) | (with_reducible refine Below.setCell ?_ ?_ _) | (with_reducible refine Below.drew ?_) | go_size | (exact Below.size (by assumption)) | (refine Nat.le_trans (Below.size (by assumption)) ?_)))⟩
    | succ k =>
      rw [show ((k + 1 : Nat) : Int) - 1 = (k : Int) by omega]
      have hk2 : k < 20 := by omega
      obtain ⟨d, hd⟩ : ∃ d, d = dg a k := ⟨_, rfl⟩
      obtain ⟨x, hx⟩ : ∃ x, x = dg b k := ⟨_, rfl⟩
      have hq : c[k] = .int .u32 d := Option.some.inj ((Array.getElem?_eq_getElem (by omega)).symm.trans (by rw [HC.out, hd]; exact natC_at hk2))
      have hq2 : f[k] = .int .u32 x := Option.some.inj ((Array.getElem?_eq_getElem (by omega)).symm.trans (by rw [HE.out, hx]; exact natC_at hk2))
      have HD := Lib.hid hd
      have HX := Lib.hid hx
      clear hd hx
      rcases Nat.lt_trichotomy d x with h | h | h
      · have HAB := Lib.hid (show cmpN a b = -1 by rw [cmpN, if_pos (cmp_lt hu.out (by rw [← HD.out, ← HX.out]; exact h))])
        have d1 : decide ((d : Int) < (x : Int)) = true := decide_eq_true (by omega)
        go_wp2
        go_quiet (fail)
        go_wp2
        go_ret
        exact ⟨by rw [HAB.out]; rfl, (by repeat' (first | (with_reducible exact Below.refl _ _) | (with_reducible assumption) | (with_reducible refine below_drewN ?_ _) | (with_reducible refine below_step (by assumption) ?_ ?_) | (with_reducible refine Below.alloc ?_ ?_ _) | (with_reducible refine Below.setCell ?_ ?_ _) | (with_reducible refine Below.drew ?_) | go_size | (exact Below.size (by assumption)) | (refine Nat.le_trans (Below.size (by assumption)) ?_)))⟩
      · subst h
        have HU := Lib.hid (up_same hu.out (by rw [← HD.out, ← HX.out]))
        go_wp2
        go_quiet (fail)
        go_wp2
        go_quiet (fail)
        go_wp2
        go_roundw
        case rel => exact ⟨k, _, by go_num, by omega, HU, rfl⟩
        case measure => simp [intOf]
      · have hlt := cmp_lt hu.out.symm (by rw [← HD.out, ← HX.out]; exact h)
        have HAB := Lib.hid (show cmpN a b = 1 by rw [cmpN, if_neg (by omega), if_pos hlt])
        clear hlt
        have d1 : decide ((d : Int) < (x : Int)) = false := decide_eq_false (by omega)
        go_wp2
        go_quiet (fail)
        go_wp2
        go_quiet (fail)
        go_wp2
        go_ret
        exact ⟨by rw [HAB.out]; rfl, (by repeat' (first | (with_reducible exact Below.refl _ _) | (with_reducible assumption) | (with_reducible refine below_drewN ?_ _) | (with_reducible refine below_step (by assumption) ?_ ?_) | (with_reducible refine Below.alloc ?_ ?_ _) | (with_reducible refine Below.setCell ?_ ?_ _) | (with_reducible refine Below.drew ?_) | go_size | (exact Below.size (by assumption)) | (refine Nat.le_trans (Below.size (by assumption)) ?_)))⟩
end Go.Proofs.Ytdgmpaijpjkeoaa
/-
  NATURALS OF TWENTY WORDS: minus.
-/
namespace Go.Proofs.Ytdgmpaijpjkeoaa
open Go.RowKit
theorem top_bit {x : Nat} (h : x < 4294967296) : x.testBit 31 = decide (2147483648 ≤ x) := by
  rw [Nat.testBit_eq_decide_div_mod_eq]
  rw [Bool.eq_iff_iff]; simp; omega
theorem shr_top {x : Nat} (h : x < 4294967296) : x / 2147483648 = (x.testBit 31).toNat := by
  rw [top_bit h]
  by_cases g : 2147483648 ≤ x
  · rw [decide_eq_true g]; simp; omega
  · rw [decide_eq_false g]; simp; omega
theorem borrow_bit {x y b : Nat} (hx : x < 4294967296) (hy : y < 4294967296) (hb : b ≤ 1) :
    (((4294967295 - x) &&& y) ||| ((4294967295 - (x ^^^ y)) &&& ((x + 4294967296 - y - b) % 4294967296))) / 2147483648 = if x < y + b then 1 else 0 := by
  have hxy : x ^^^ y < 4294967296 := Nat.xor_lt_two_pow (n := 32) hx hy
  have h1 : ((4294967295 - x) &&& y) < 4294967296 := Nat.lt_of_le_of_lt Nat.and_le_right hy
  have h2 : ((4294967295 - (x ^^^ y)) &&& ((x + 4294967296 - y - b) % 4294967296)) < 4294967296 := Nat.lt_of_le_of_lt Nat.and_le_right (Nat.mod_lt _ (by decide))
  have hc : ∀ z, z < 4294967296 → (4294967295 - z).testBit 31 = !z.testBit 31 := fun z hz => by
    rw [top_bit (show 4294967295 - z < 4294967296 by omega), top_bit hz]
    by_cases g : 2147483648 ≤ z
    · rw [decide_eq_true g, decide_eq_false (by omega)]; rfl
    · rw [decide_eq_false g, decide_eq_true (by omega)]; rfl
  rw [shr_top (Nat.or_lt_two_pow (n := 32) h1 h2), Nat.testBit_or, Nat.testBit_and, Nat.testBit_and, hc x hx, hc _ hxy, Nat.testBit_xor, top_bit hx, top_bit hy, top_bit (Nat.mod_lt _ (by decide))]
  by_cases gx : 2147483648 ≤ x <;> by_cases gy : 2147483648 ≤ y <;> simp only [gx, gy, decide_true, decide_false, Bool.not_true, Bool.not_false, Bool.true_and, Bool.false_and, Bool.or_false, Bool.false_or, Bool.xor_true, Bool.xor_false]
  · by_cases g : 2147483648 ≤ (x + 4294967296 - y - b) % 4294967296
    · rw [decide_eq_true g, if_pos (by omega)]; rfl
    · rw [decide_eq_false g, if_neg (by omega)]; rfl
  · rw [if_neg (by omega)]; rfl
  · rw [if_pos (by omega)]; rfl
  · by_cases g : 2147483648 ≤ (x + 4294967296 - y - b) % 4294967296
    · rw [decide_eq_true g, if_pos (by omega)]; rfl
    · rw [decide_eq_false g, if_neg (by omega)]; rfl
theorem xor_all {x : Nat} (h : x < 4294967296) : 4294967295 ^^^ x = 4294967295 - x := by
  apply Nat.eq_of_testBit_eq
  intro i
  have e := Nat.testBit_two_pow_sub_succ (n := 32) h i
  rw [show 4294967295 - x = 2 ^ 32 - (x + 1) by omega, e, Nat.testBit_xor, show (4294967295 : Nat) = 2 ^ 32 - 1 by decide, Nat.testBit_two_pow_sub_one]
  by_cases hi : i < 32
  · simp [hi]
  · simp [hi]
    exact Nat.testBit_lt_two_pow (Nat.lt_of_lt_of_le (show x < 2 ^ 32 by omega) (Nat.pow_le_pow_right (by decide) (by omega)))
theorem sub_bits {x y b : Nat} (hx : x < 4294967296) (hy : y < 4294967296) (hb : b ≤ 1) :
    bits BinOp.or .u32 (bits BinOp.and .u32 (bits BinOp.xor .u32 IntKind.u32.max x) y) (bits BinOp.and .u32 (bits BinOp.xor .u32 IntKind.u32.max (bits BinOp.xor .u32 x y)) (((x : Int) - y - b) % 4294967296)) / 2147483648 = ((if x < y + b then 1 else 0 : Nat) : Int) := by
  have hxy : x ^^^ y < 4294967296 := Nat.xor_lt_two_pow (n := 32) hx hy
  have h1 : ((4294967295 - x) &&& y) < 4294967296 := Nat.lt_of_le_of_lt Nat.and_le_right hy
  have h2 : ((4294967295 - (x ^^^ y)) &&& ((x + 4294967296 - y - b) % 4294967296)) < 4294967296 := Nat.lt_of_le_of_lt Nat.and_le_right (Nat.mod_lt _ (by decide))
  rw [show IntKind.u32.max = ((4294967295 : Nat) : Int) by decide, show ((x : Int) - y - b) % 4294967296 = (((x + 4294967296 - y - b) % 4294967296 : Nat) : Int) by omega,
    u32_xor_nat _ _ (by decide) hx, xor_all hx, u32_and_nat _ _ (by omega) hy, u32_xor_nat _ _ hx hy, u32_xor_nat _ _ (by decide) hxy, xor_all hxy, u32_and_nat _ _ (by omega) (Nat.mod_lt _ (by decide)), u32_or_nat _ _ h1 h2]
  have := borrow_bit hx hy hb
  omega
set_option maxRecDepth 100000 in
set_option maxHeartbeats 400000 in
theorem sub32_any (x y b D C : Nat) (hx : x < 4294967296) (hy : y < 4294967296) (hb : b ≤ 1) (hD : D = (x + 4294967296 - y - b) % 4294967296) (hC : C = if x < y + b then 1 else 0) (w : World) :
    Calls Try.prog 118 #[.int .u32 x, .int .u32 y, .int .u32 b] w fun e w' => e = .returned (.tuple #[.int .u32 D, .int .u32 C]) ∧ w = w' := by
  have e1 : (D : Int) = ((x : Int) - y - b) % 4294967296 := by rw [hD]; omega
  have e2 := sub_bits hx hy hb
  rw [← hC] at e2
  have E1 := Lib.hid e1
  have E2 := Lib.hid e2
  clear e1 e2 hD hC
  go_enter Try.func118, Try.ntmps118
  go_wp2
  refine bodyPost_ret (v := .tuple #[.int .u32 D, .int .u32 C]) ?_ rfl ⟨rfl, rfl⟩
  rw [E1.out, ← E2.out]
  simp only [results, Try.results118]
  go_simp
attribute [local go_sem] grow_cell grow_frozen
set_option maxRecDepth 100000 in
set_option maxHeartbeats 400000 in
theorem nat_minus (a b : Nat) (hba : b ≤ a) (w : World) :
    Calls Try.prog 111 #[natV a, natV b] w fun e w' => e = .returned (natV (a - b)) ∧ Below w.heap.size w w' := by
  unfold natV
  obtain ⟨c, hc⟩ : ∃ c, c = natC a := ⟨_, rfl⟩
  obtain ⟨f, hf⟩ : ∃ e, e = natC b := ⟨_, rfl⟩
  rw [← hc, ← hf]
  have HC := Lib.hid hc
  have HE := Lib.hid hf
  have HBA := Lib.hid hba
  clear hc hf hba
  go_enter Try.func111, Try.ntmps111
  go_wp2
  rw [natZ]
  obtain ⟨z, hz⟩ : ∃ z, z = natC 0 := ⟨_, rfl⟩
  rw [← hz]
  have HZ := Lib.hid hz
  clear hz
  go_loopw [5, 7] (fun v i wr => ∃ k : Nat, v = .int .u32 (cyM a b k) ∧ i = .int .i64 k ∧ k ≤ 20 ∧ Hid (NB wr w.heap.size (mixC (a - b) a k) ∧ NB wr (w.heap.size + 1) f ∧ NB wr (w.heap.size + 1 + 1) z ∧ Below w.heap.size w wr)) (fun _ i _ => 20 - (intOf i).toNat)
  case atStart => exact ⟨0, by rw [cyM_zero]; rfl, rfl, by omega, by rw [mixC_zero, ← HC.out]; exact hp2 _ _ _ _, hp21 _ _ _ _, hp22 _ _ _ _, (by repeat' (first | (with_reducible exact Below.refl _ _) | (with_reducible assumption) | (with_reducible refine below_drewN ?_ _) | (with_reducible refine below_step (by assumption) ?_ ?_) | (with_reducible refine Below.alloc ?_ ?_ _) | (with_reducible refine Below.setCell ?_ ?_ _) | (with_reducible refine Below.drew ?_) | go_size | (exact Below.size (by assumption)) | (refine Nat.le_trans (Below.size (by assumption)) ?_)))⟩
  case round =>
    obtain ⟨k, rfl, rfl, hk, hr⟩ := hrel
    have hsz := hr.out.2.1.lt
    have hsz0 := hr.out.1.lt
    by_cases hlt : k < 20
    · obtain ⟨d, hd⟩ : ∃ d, d = dg a k := ⟨_, rfl⟩
      have hd2 : d < 4294967296 := by rw [hd]; exact dg_lt _ _
      obtain ⟨x, hx⟩ : ∃ x, x = dg b k := ⟨_, rfl⟩
      have hx2 : x < 4294967296 := by rw [hx]; exact dg_lt _ _
      obtain ⟨cy, hcy⟩ : ∃ cy, cy = cyM a b k := ⟨_, rfl⟩
      rw [← hcy]
      have hcy2 : cy ≤ 1 := by rw [hcy]; unfold cyM; split <;> omega
      have hq : wr.cell? ⟨w.heap.size, k, none⟩ = some (.int .u32 d) := by rw [hr.out.1.cell, hd]; exact mixC_get hlt (Nat.le_refl _)
      have hf1 : wr.frozen? ⟨w.heap.size, k, none⟩ = false := hr.out.1.free k
      have hq2 : wr.cell? ⟨w.heap.size + 1, k, none⟩ = some (.int .u32 x) := by rw [hr.out.2.1.cell, HE.out, hx]; exact natC_at hlt
      have hf2 : wr.frozen? ⟨w.heap.size + 1, k, none⟩ = false := hr.out.2.1.free k
      obtain ⟨D, hD⟩ : ∃ D, D = (d + 4294967296 - x - cy) % 4294967296 := ⟨_, rfl⟩
      obtain ⟨C, hC⟩ : ∃ C, C = if d < x + cy then 1 else 0 := ⟨_, rfl⟩
      have HD := Lib.hid hD
      have HCC := Lib.hid hC
      have e1 : C = cyM a b (k + 1) := by rw [cyM_step, ← hcy, ← hd, ← hx]; exact hC
      have e2 : (mixC (a - b) a k).setIfInBounds k (.int .u32 D) = mixC (a - b) a (k + 1) := by
        rw [← mixC_set hlt, dg_sub HBA.out, ← hcy, ← hd, ← hx, hD]
      have E1 := Lib.hid e1
      have E2 := Lib.hid e2
      clear hd hx hcy hD hC e1 e2
      go_wp2
      go_region_with ((go_at_call 118; refine (sub32_any d x cy D C hd2 hx2 hcy2 HD.out HCC.out _).mono ?_; rintro e w' ⟨rfl, rfl⟩))
      all_goals
        go_wp2
        go_roundw
        case rel => exact ⟨k + 1, by rw [E1.out], by go_num, by omega, by rw [← E2.out]; exact hr.out.1.set _ _, hr.out.2.1.other (by simp) _, hr.out.2.2.1.other (by simp; omega) _, (hr.out.2.2.2.setCell (by simp) _).drew⟩
        case measure => simp [intOf]; omega
    · obtain rfl : k = 20 := by omega
      have hr := hr
      rw [mixC_all] at hr
      obtain ⟨m, hm⟩ : ∃ m, m = natC (a - b) := ⟨_, rfl⟩
      rw [← hm] at hr
      have hms : m.size = 20 := by rw [hm]; exact natC_size _
      have hzs : z.size = 20 := by rw [HZ.out]; exact natC_size _
      have HM := Lib.hid hm
      clear hm
      go_wp2_with (first | refine wpList_load_row rfl 77 _ rfl _ rfl 77 _ (0, 0) _ hr.out.1 Try.underlying77 rfl (natSz _ hms) ?_ | refine wpList_store_row rfl 77 _ _ rfl _ _ rfl rfl 77 _ hr.out.2.2.1 (natSz _ hms) (by rw [hzs, hms]) (by rw [HM.out]; exact natC_one _) ?_)
      refine bodyPost_ret (v := .agg m) (results_cell_row rfl _ _ (w.heap.size + 1 + 1) 77 m (0, 0) _ rfl (hr.out.2.2.1.row _) Try.underlying77 rfl (natSz _ hms)) rfl ⟨by rw [HM.out], below_setRow hr.out.2.2.2 (by omega) _⟩
end Go.Proofs.Ytdgmpaijpjkeoaa
/-
  THE NUMBER OF BITS.
-/
namespace Go.Proofs.Ytdgmpaijpjkeoaa
open Go.RowKit
theorem bits_aux : ∀ (f x : Nat), x < 2 ^ f → Bits x (Lib.bitLenAux f x)
  | 0, x, h => by
    have : x = 0 := by simpa using h
    subst this
    exact ⟨by decide, fun h => absurd h (by decide)⟩
  | f + 1, x, h => by
    unfold Lib.bitLenAux
    split
    · rename_i hx; subst hx
      exact ⟨by decide, fun h => absurd h (by decide)⟩
    · rename_i hx
      rw [Nat.pow_succ] at h
      obtain ⟨h1, h2⟩ := bits_aux f (x / 2) (by omega)
      refine ⟨by rw [Nat.add_comm, Nat.pow_succ]; omega, fun _ => ?_⟩
      rw [Nat.add_comm, Nat.add_sub_cancel]
      rcases Nat.eq_zero_or_pos (Lib.bitLenAux f (x / 2)) with e | e
      · rw [e]; simp; omega
      · have := h2 e
        obtain ⟨m, hm⟩ : ∃ m, Lib.bitLenAux f (x / 2) = m + 1 := ⟨_, (Nat.sub_add_cancel e).symm⟩
        rw [hm] at this ⊢
        rw [Nat.add_sub_cancel] at this
        rw [Nat.pow_succ]; omega
theorem bits_len (x : Nat) (h : x < 4294967296) : Bits x (Lib.bitLen x) := bits_aux 64 x (Nat.lt_trans h (by decide))
theorem bits_shift {x L k : Nat} (h : Bits (x / 2 ^ k) L) (hx : 0 < x / 2 ^ k) : Bits x (L + k) := by
  have hL := h.pos hx
  have h1 := h.1
  have h2 := h.2 hL
  refine ⟨?_, fun _ => ?_⟩
  · rw [Nat.pow_add, ← Nat.div_lt_iff_lt_mul (Nat.pow_pos (by decide))]; exact h1
  · rw [show L + k - 1 = L - 1 + k by omega, Nat.pow_add]
    exact (Nat.le_div_iff_mul_le (Nat.pow_pos (by decide))).1 h2
theorem pow32 (k : Nat) : 4294967296 ^ k = 2 ^ (32 * k) := by rw [Nat.pow_mul]
theorem bits_word {a k : Nat} (h : a / 4294967296 ^ (k + 1) = 0) (hd : dg a k ≠ 0) : Bits a (32 * k + Lib.bitLen (dg a k)) := by
  have e : a / 4294967296 ^ k = dg a k := by
    unfold dg
    rw [Nat.pow_succ, ← Nat.div_div_eq_div_mul] at h
    omega
  have hb := bits_len (dg a k) (dg_lt a k)
  rw [Nat.add_comm]
  apply bits_shift
  · rw [← pow32, e]; exact hb
  · rw [← pow32, e]; omega
theorem len_bd {a L : Nat} (h : Bits a L) (ha : a < 4294967296 ^ 20) : L ≤ 640 := by
  have := pow32 20
  rcases Nat.lt_or_ge 640 L with g | g
  · have h2 := h.2 (by omega)
    have := Nat.pow_le_pow_right (show 0 < 2 by decide) (show 640 ≤ L - 1 by omega)
    omega
  · exact g
set_option maxRecDepth 100000 in
set_option maxHeartbeats 400000 in
theorem nat_length (a : Nat) (ha : a < 4294967296 ^ 20) (w : World) :
    Calls Try.prog 113 #[natV a] w fun e w' => (∃ L : Nat, e = .returned (.int .i64 L) ∧ Bits a L ∧ L ≤ 640) ∧ Below w.heap.size w w' := by
  unfold natV
  obtain ⟨c, hc⟩ : ∃ c, c = natC a := ⟨_, rfl⟩
  rw [← hc]
  have HC := Lib.hid hc
  have hcs : c.size = 20 := by rw [hc]; exact natC_size _
  have HT := Lib.hid (top_zero ha)
  have HLB := Lib.hid (fun L (h : Bits a L) => len_bd h ha)
  clear hc ha
  go_enter Try.func113, Try.ntmps113
  go_wp2
  go_loopw [3] (fun i wr => ∃ k : Nat, i = .int .i64 ((k : Int) - 1) ∧ k ≤ 20 ∧ Hid (a / 4294967296 ^ k = 0) ∧ wr = w.alloc (.cells c 77)) (fun i _ => (intOf i + 1).toNat)
  case atStart => exact ⟨20, rfl, by omega, HT, rfl⟩
  case round =>
    obtain ⟨k, rfl, hk, hu, rfl⟩ := hrel
    cases k with
    | zero =>
      have hab : a = 0 := by have := hu.out; simpa using this
      have HAB := Lib.hid (show Bits a 0 by rw [hab]; exact ⟨by decide, fun h => absurd h (by decide)⟩)
      clear hab
      go_wp2
      go_ret
      exact ⟨⟨0, rfl, HAB.out, by omega⟩, (by repeat' (first | (with_reducible exact Below.refl _ _) | (with_reducible assumption) | (with_reducible refine below_drewN ?_ _) | (with_reducible refine below_step (by assumption) ?_ ?_) | (with_reducible refine Below.alloc ?_ ?_ _) | (with_reducible refine Below.setCell ?_ ?_ _) | (with_reducible refine Below.drew ?_) | go_size | (exact Below.size (by assumption)) | (refine Nat.le_trans (Below.size (by assumption)) ?_)))⟩
    | succ k =>
      rw [show ((k + 1 : Nat) : Int) - 1 = (k : Int) by omega]
      have hk2 : k < 20 := by omega
      obtain ⟨d, hd⟩ : ∃ d, d = dg a k := ⟨_, rfl⟩
      have hd2 : d < 4294967296 := by rw [hd]; exact dg_lt _ _
      have hq : c[k] = .int .u32 d := Option.some.inj ((Array.getElem?_eq_getElem (by omega)).symm.trans (by rw [HC.out, hd]; exact natC_at hk2))
      have HD := Lib.hid hd
      clear hd
      by_cases h0 : d = 0
      · have HU := Lib.hid ((up_same (b := 0) (by rw [hu.out]; simp) (by rw [← HD.out, h0]; simp [dg])).trans (Nat.zero_div _) : a / 4294967296 ^ k = 0)
        have q1 : ((d : Int) == 0) = true := by rw [h0]; rfl
        have q2 : ((d : Int) != 0) = false := by rw [h0]; rfl
        clear h0
        go_wp2
        go_roundw
        case rel => exact ⟨k, by go_num, by omega, HU, trivial⟩
        case measure => simp [intOf]
      · have hb := bits_word hu.out (by rw [← HD.out]; exact h0)
        rw [← HD.out] at hb
        have hl := HLB.out _ hb
        have HB := Lib.hid hb
        obtain ⟨l, hll⟩ : ∃ l, l = Lib.bitLen d := ⟨_, rfl⟩
        rw [← hll] at hl HB
        have HLL := Lib.hid hll
        have q1 : ((d : Int) == 0) = false := by rw [beq_eq_false_iff_ne]; omega
        have q2 : ((d : Int) != 0) = true := by rw [bne_iff_ne]; omega
        clear h0 hb hll
        go_wp2_with fail
        refine (Try.bits_Len32 d _ (by omega) (by omega)).mono ?_
        rintro e w' ⟨rfl, rfl⟩
        rw [Int.toNat_natCast, ← HLL.out]
        go_wp2
        go_ret
        exact ⟨⟨32 * k + l, by go_num, HB.out, hl⟩, (by repeat' (first | (with_reducible exact Below.refl _ _) | (with_reducible assumption) | (with_reducible refine below_drewN ?_ _) | (with_reducible refine below_step (by assumption) ?_ ?_) | (with_reducible refine Below.alloc ?_ ?_ _) | (with_reducible refine Below.setCell ?_ ?_ _) | (with_reducible refine Below.drew ?_) | go_size | (exact Below.size (by assumption)) | (refine Nat.le_trans (Below.size (by assumption)) ?_)))⟩
end Go.Proofs.Ytdgmpaijpjkeoaa
/-
  NATURALS OF TWENTY WORDS IN BLOCKS: loads, stores, tests; double, small.
-/
namespace Go.Proofs.Ytdgmpaijpjkeoaa
open Go.RowKit
/-- Block b holds the natural a. -/
def NatB (w : World) (b a : Nat) : Prop := NB w b (natC a)
theorem NatB.lt {w : World} {b a : Nat} (h : NatB w b a) : b < w.heap.size := NB.lt h
theorem NatB.keep {w w' : World} {b a : Nat} (h : NatB w b a) (hb : Below w.heap.size w w') : NatB w' b a := NB.keep h hb
theorem NatB.grown {w w' : World} {b a : Nat} {row : Option Nat} (h : NatB w b a) (hg : w.grownBy w' row) (hne : some b ≠ row) : NatB w' b a := NB.of_block h (hg.block b h.lt hne)
theorem NatB.cell {w : World} {b a : Nat} (h : NatB w b a) {k : Nat} (hk : k < 20) : w.cell? ⟨b, k, none⟩ = some (.int .u32 (dg a k)) := (NB.cell h k).trans (natC_at hk)
theorem NatB.free {w : World} {b a : Nat} (h : NatB w b a) (k : Nat) : w.frozen? ⟨b, k, none⟩ = false := NB.free h k
theorem NatB.load {w : World} {b a : Nat} (h : NatB w b a) : (loadVar 77 ⟨b, 0, none⟩).run Try.prog w = .ok (natV a) w :=
  run_loadVar_row w b 77 77 (natC a) (0, 0) _ h Try.underlying77 rfl (natSz _ (natC_size a))
theorem grown_setRow (w : World) (b : Nat) (c : Array Value) : w.grownBy (w.setRow b c) (some b) := by
  refine ⟨rfl, rfl, rfl, by simp [World.setRow], fun k _ hk => ?_⟩
  simp only [World.setRow, Array.getElem?_modify]
  rw [if_neg (fun e => hk (by rw [e]))]
theorem below_grown {B b : Nat} {w w1 w2 : World} (h : Below B w w1) (hg : w1.grownBy w2 (some b)) (hb : B ≤ b) (hs : B ≤ w1.heap.size) : Below B w w2 :=
  ⟨hg.os.trans h.os, hg.tape.trans h.tape, hg.output.trans h.output, Nat.le_trans h.size hg.size, fun k hk => (hg.block k (by omega) (by intro e; cases e; omega)).trans (h.block k hk)⟩
section
variable {ops : Array Oper} {rest : List Oper} {o : Oper} {a : Act} {w : World} {Q : Exit → Act → World → Prop}
theorem ld_nat (hgd : o.guard = none) (x : Operand) (ho : o.op = .load 77 x) (b n : Nat) (hx : a.eval x = .pointer (some ⟨b, 0, none⟩)) (h : NatB w b n) (hK : wpList Try.prog ops Q rest (a.put o.dst (natV n)) w) : wpList Try.prog ops Q (o :: rest) a w :=
  wpList_load_row hgd 77 x ho b hx 77 (natC n) (0, 0) _ h Try.underlying77 rfl (natSz _ (natC_size n)) hK
theorem st_nat (hgd : o.guard = none) (x y : Operand) (ho : o.op = .store 77 x y) (hd : o.dst = none) (b n m : Nat) (hx : a.eval x = .pointer (some ⟨b, 0, none⟩)) (hy : a.eval y = natV m) (h : NatB w b n)
    (hK : ∀ w', NatB w' b m → w.grownBy w' (some b) → wpList Try.prog ops Q rest a w') : wpList Try.prog ops Q (o :: rest) a w :=
  wpList_store_row hgd 77 x y ho b (natC m) hx hy 77 (natC n) h (natSz _ (natC_size m)) (by rw [natC_size, natC_size]) (natC_one m) (by rw [hd]; exact hK _ (NB.row h _) (grown_setRow _ _ _))
end
theorem ret_nat {w : World} {b n : Nat} {tmps : Array Value} {fn : Func} {p : Tmp} (h : fn.results = #[.cell p 77]) (hp : tmps.getD p undef = .pointer (some ⟨b, 0, none⟩)) (hg : NatB w b n) : (results fn tmps).run Try.prog w = .ok (natV n) w :=
  results_cell_row h _ _ b 77 (natC n) (0, 0) _ hp hg Try.underlying77 rfl (natSz _ (natC_size n))
theorem eqItems_nat (d a b : Nat) (w : World) (is : List Nat) (h : ∀ i ∈ is, i < 20) : (Op.eqItems (d + 1) 75 1 (natC a) (natC b) is).run Try.prog w = .ok (is.all fun i => decide (dg a i = dg b i)) w := by
  induction is with
  | nil => rfl
  | cons i is ih =>
    have hi := h i (by simp)
    have pa : ∀ x : Nat, (part 75 (natC x) (i * 1)).run Try.prog w = .ok (.int .u32 (dg x i)) w := fun x => by
      have := natC_at (a := x) hi
      simp [part, isAgg, run_underlying Try.underlying75, this]
    have pe : (Op.equalIn (d + 1) 75 (.int .u32 (dg a i)) (.int .u32 (dg b i))).run Try.prog w = .ok (decide (dg a i = dg b i)) w := by
      rw [run_equalIn_int w d 75 .u32 .u32 _ _ Try.underlying75]
      congr 1
      rw [Bool.eq_iff_iff]
      simp
      omega
    simp only [Op.eqItems, Sem.run_bind, pa, pe, Result.andThen_ok, List.all_cons]
    by_cases he : dg a i = dg b i
    · simp only [he, decide_true, Bool.not_true, Bool.false_eq_true, if_false, Bool.true_and]
      exact ih (fun j hj => h j (by simp [hj]))
    · simp [he]
theorem words_all {a b : Nat} (ha : a < 4294967296 ^ 20) (hb : b < 4294967296 ^ 20) : ((List.range 20).all fun i => decide (dg a i = dg b i)) = decide (a = b) := by
  rw [Bool.eq_iff_iff]
  simp only [List.all_eq_true, List.mem_range, decide_eq_true_eq]
  constructor
  · exact eq_of_words ha hb
  · rintro rfl i _; rfl
theorem nat_equalIn {a b : Nat} (ha : a < 4294967296 ^ 20) (hb : b < 4294967296 ^ 20) (w : World) : (Op.equalIn 10000 77 (natV a) (natV b)).run Try.prog w = .ok (decide (a = b)) w := by
  obtain ⟨i, hi⟩ : ∃ i, Try.prog.info? 75 = some i := Option.isSome_iff_exists.1 (by kernel_rfl)
  unfold natV
  rw [run_equalIn_array w 9999 (natC a) (natC b) Try.underlying77 hi, show Try.prog.cellsOf 75 = 1 by kernel_rfl, eqItems_nat 9998 a b w (List.range 20) (by simp), words_all ha hb]
theorem nat_eql {a b : Nat} (ha : a < 4294967296 ^ 20) (hb : b < 4294967296 ^ 20) (w : World) : (binOp .eql 77 (natV a) (natV b)).run Try.prog w = .ok (.bool (decide (a = b))) w := by
  have h := nat_equalIn ha hb w
  unfold natV at h ⊢
  rw [run_eql_struct, h]; rfl
theorem nat_neq {a b : Nat} (ha : a < 4294967296 ^ 20) (hb : b < 4294967296 ^ 20) (w : World) : (binOp .neq 77 (natV a) (natV b)).run Try.prog w = .ok (.bool (!decide (a = b))) w := by
  have h := nat_equalIn ha hb w
  unfold natV at h ⊢
  rw [run_neq_struct, h]; rfl
section
variable {ops : Array Oper} {rest : List Oper} {o : Oper} {a : Act} {w : World} {Q : Exit → Act → World → Prop}
theorem ne_nat (hgd : o.guard = none) (x y : Operand) (t' : TypeId) (ho : o.op = .binOp .neq 77 x y t') (n m : Nat) (c : Bool) (hx : a.eval x = natV n) (hy : a.eval y = natV m) (hn : n < 4294967296 ^ 20) (hm : m < 4294967296 ^ 20) (hc : (!decide (n = m)) = c)
    (hK : wpList Try.prog ops Q rest (a.put o.dst (.bool c)) w) : wpList Try.prog ops Q (o :: rest) a w := by
  refine wpList_plain hgd fun K' hK' => ?_
  have hr := nat_neq hn hm w
  have hg : (eqGuard .neq 77 x y (natV n) (natV m)).run Try.prog w = .ok () w := run_eqGuard_agg w .neq 77 x y (natC n) (natC m) (by kernel_rfl)
  rw [hc] at hr
  unfold Oper.wp
  simp [execOp, ho, hx, hy, hg, hr, Result.andThen]
  exact hK' _ _ hK
theorem eq_nat (hgd : o.guard = none) (x y : Operand) (t' : TypeId) (ho : o.op = .binOp .eql 77 x y t') (n m : Nat) (c : Bool) (hx : a.eval x = natV n) (hy : a.eval y = natV m) (hn : n < 4294967296 ^ 20) (hm : m < 4294967296 ^ 20) (hc : (decide (n = m)) = c)
    (hK : wpList Try.prog ops Q rest (a.put o.dst (.bool c)) w) : wpList Try.prog ops Q (o :: rest) a w := by
  refine wpList_plain hgd fun K' hK' => ?_
  have hr := nat_eql hn hm w
  have hg : (eqGuard .eql 77 x y (natV n) (natV m)).run Try.prog w = .ok () w := run_eqGuard_agg w .eql 77 x y (natC n) (natC m) (by kernel_rfl)
  rw [hc] at hr
  unfold Oper.wp
  simp [execOp, ho, hx, hy, hg, hr, Result.andThen]
  exact hK' _ _ hK
end
set_option maxRecDepth 100000 in
set_option maxHeartbeats 400000 in
theorem nat_double (a n : Nat) (hn : n ≤ 1000) (w : World) :
    Calls Try.prog 112 #[natV a, .int .i64 n] w fun e w' => e = .returned (natV (2 ^ n * a)) ∧ Below w.heap.size w w' := by
  unfold natV
  obtain ⟨c, hc⟩ : ∃ c, c = natC a := ⟨_, rfl⟩
  rw [← hc]
  have HC := Lib.hid hc
  clear hc
  go_enter Try.func112, Try.ntmps112
  go_wp2
  rw [natZ, HC.out]
  obtain ⟨W, hW⟩ : ∃ W, W = (w.alloc (.cells (natC a) 77)).alloc (.cells (natC 0) 77) := ⟨_, rfl⟩
  rw [← hW]
  have h0 : Hid (NatB W w.heap.size a ∧ NatB W (w.heap.size + 1) 0 ∧ Below w.heap.size w W) := by rw [hW]; exact ⟨hp1 _ _ _, hp11 _ _ _, (by repeat' (first | (with_reducible exact Below.refl _ _) | (with_reducible assumption) | (with_reducible refine below_drewN ?_ _) | (with_reducible refine below_step (by assumption) ?_ ?_) | (with_reducible refine Below.alloc ?_ ?_ _) | (with_reducible refine Below.setCell ?_ ?_ _) | (with_reducible refine Below.drew ?_) | go_size | (exact Below.size (by assumption)) | (refine Nat.le_trans (Below.size (by assumption)) ?_)))⟩
  clear hW
  go_loopw [6] (fun i wr => ∃ k : Nat, i = .int .i64 k ∧ k ≤ n ∧ Hid (NatB wr w.heap.size (2 ^ k * a) ∧ NatB wr (w.heap.size + 1) 0 ∧ Below w.heap.size w wr)) (fun i _ => n - (intOf i).toNat)
  case atStart => exact ⟨0, rfl, by omega, by rw [Nat.pow_zero, Nat.one_mul]; exact h0⟩
  case round =>
    obtain ⟨k, rfl, hk, hr⟩ := hrel
    by_cases hlt : k < n
    · obtain ⟨m, hm⟩ : ∃ m, m = 2 ^ k * a := ⟨_, rfl⟩
      rw [← hm] at hr
      have HM := Lib.hid hm
      clear hm
      go_wp2_with (refine ld_nat rfl _ rfl _ _ rfl hr.out.1 ?_)
      refine (nat_times m 2 (by omega) _).mono ?_
      rintro e w1 ⟨rfl, hb1⟩
      have hr1 := Lib.hid (show NatB w1 w.heap.size m ∧ NatB w1 (w.heap.size + 1) 0 ∧ Below w.heap.size w w1 from ⟨hr.out.1.keep hb1, hr.out.2.1.keep hb1, hr.out.2.2.trans (hb1.mono hr.out.2.2.size)⟩)
      clear hb1
      go_wp2_with (refine st_nat rfl _ _ rfl rfl _ _ _ rfl rfl hr1.out.1 ?_)
      intro w2 hn hg
      go_wp2
      go_roundw
      case rel => exact ⟨k + 1, by go_num, by omega, by rw [Nat.pow_succ, Nat.mul_right_comm, ← HM.out]; exact ⟨hn, hr1.out.2.1.grown hg (by simp), below_grown hr1.out.2.2 hg (by omega) hr1.out.2.2.size⟩⟩
      case measure => simp [intOf]; omega
    · obtain rfl : k = n := by omega
      go_wp2_with (first | refine ld_nat rfl _ rfl _ _ rfl hr.out.1 ?_ | (refine st_nat rfl _ _ rfl rfl _ _ _ rfl rfl hr.out.2.1 ?_; intro w2 hq hg))
      refine bodyPost_ret (v := natV (2 ^ k * a)) (ret_nat rfl rfl hq) rfl ⟨rfl, below_grown hr.out.2.2 hg (by omega) hr.out.2.2.size⟩
theorem natOne : Value.agg #[Value.int IntKind.u32 1, Value.int IntKind.u32 0, Value.int IntKind.u32 0, Value.int IntKind.u32 0, Value.int IntKind.u32 0, Value.int IntKind.u32 0, Value.int IntKind.u32 0, Value.int IntKind.u32 0, Value.int IntKind.u32 0, Value.int IntKind.u32 0, Value.int IntKind.u32 0, Value.int IntKind.u32 0, Value.int IntKind.u32 0, Value.int IntKind.u32 0, Value.int IntKind.u32 0, Value.int IntKind.u32 0, Value.int IntKind.u32 0, Value.int IntKind.u32 0, Value.int IntKind.u32 0, Value.int IntKind.u32 0] = natV 1 := by kernel_rfl
set_option maxRecDepth 100000 in
set_option maxHeartbeats 400000 in
theorem small_one (w : World) :
    Calls Try.prog 88 #[.int .i64 1] w fun e w' => e = .returned (natV 1) ∧ Below w.heap.size w w' := by
  have hz : NatB (w.alloc (.cells (natC 0) 77)) w.heap.size 0 := NB.new _ _
  rw [← natZ] at hz
  have HZ := Lib.hid hz
  clear hz
  go_enter Try.func88, Try.ntmps88
  go_wp2_with (refine st_nat rfl _ _ rfl rfl _ _ _ rfl natOne HZ.out ?_; intro w2 hq hg)
  refine bodyPost_ret (v := natV 1) (ret_nat rfl rfl hq) rfl ⟨rfl, below_grown ((Below.refl _ _).alloc (Nat.le_refl _) _) hg (by omega) (by simp)⟩
end Go.Proofs.Ytdgmpaijpjkeoaa
/-
  NATURALS OF TWENTY WORDS: the greatest common divisor.
-/
namespace Go.Proofs.Ytdgmpaijpjkeoaa
open Go.RowKit
attribute [local go_sem] grow_cell grow_frozen
section
variable {C : World → Prop} {K : Act → Prop} {a : Act} {o : Oper}
theorem quiet_ld_nat (x : Operand) (ho : o.op = .load 77 x) (b n : Nat) (hx : a.eval x = .pointer (some ⟨b, 0, none⟩)) (h : ∀ w, C w → NatB w b n) (hk : K (a.put o.dst (natV n))) : o.quiet Try.prog a C K :=
  ⟨natV n, fun w hw => by
    unfold Oper.quietAt execOp
    simp only [ho, hx, Instr.loadAt, Instr.sureAddr, Sem.run_bind, Sem.run_pure, Result.andThen_ok, (h w hw).load]
    exact ⟨rfl, rfl⟩, hk⟩
end
theorem NatB.inGrow {w : World} {b n : Nat} (h : NatB w b n) : ∀ w', (∃ x, w' = grow w x) → NatB w' b n := by
  rintro w' ⟨x, rfl⟩
  exact h.keep (below_grow w x)
/-- The number in a block, read off its words. -/
def wordAt (w : World) (b k : Nat) : Nat := match w.cell? ⟨b, k, none⟩ with | some (.int _ z) => z.toNat | _ => 0
def valK (w : World) (b : Nat) : Nat → Nat
  | 0 => 0
  | k + 1 => valK w b k + 4294967296 ^ k * wordAt w b k
def valB (w : World) (b : Nat) : Nat := valK w b 20
theorem NatB.valK {w : World} {b a : Nat} (h : NatB w b a) : ∀ k, k ≤ 20 → Go.Proofs.Ytdgmpaijpjkeoaa.valK w b k = lw a k
  | 0, _ => (lw_zero a).symm
  | k + 1, hk => by
    rw [Go.Proofs.Ytdgmpaijpjkeoaa.valK, NatB.valK h k (by omega), lw_succ, wordAt, h.cell (show k < 20 by omega)]
    simp
theorem NatB.val {w : World} {b a : Nat} (h : NatB w b a) (ha : a < 4294967296 ^ 20) : valB w b = a := (h.valK 20 (Nat.le_refl _)).trans (lw_all ha)
theorem and_one {d : Nat} (h : d < 4294967296) : bits BinOp.and .u32 (d : Int) 1 = ((d % 2 : Nat) : Int) := by
  have := u32_and_nat d 1 h (by decide)
  rw [Nat.and_one_is_mod] at this
  exact this
/-- The first word of a block, and its last bit. -/
theorem NatB.even {w : World} {b a : Nat} (h : NatB w b a) (he : a % 2 = 0) : ∃ d : Nat, d < 4294967296 ∧ w.cell? ⟨b, 0, none⟩ = some (.int .u32 d) ∧ bits BinOp.and .u32 (d : Int) 1 = 0 :=
  ⟨dg a 0, dg_lt _ _, h.cell (by decide), by rw [and_one (dg_lt _ _), even_iff, he]; rfl⟩
theorem NatB.odd {w : World} {b a : Nat} (h : NatB w b a) (he : a % 2 = 1) : ∃ d : Nat, d < 4294967296 ∧ w.cell? ⟨b, 0, none⟩ = some (.int .u32 d) ∧ bits BinOp.and .u32 (d : Int) 1 = 1 :=
  ⟨dg a 0, dg_lt _ _, h.cell (by decide), by rw [and_one (dg_lt _ _), even_iff, he]; rfl⟩
/-- The blocks of gcd. -/
structure G3 (w W : World) (x y : Nat) : Prop where
  a : NatB W w.heap.size x
  b : NatB W (w.heap.size + 1) y
  c : NatB W (w.heap.size + 1 + 1) 0
  h : Below w.heap.size w W
theorem G3.keep {w W W' : World} {x y : Nat} (h : G3 w W x y) (hb : Below W.heap.size W W') : G3 w W' x y := ⟨h.a.keep hb, h.b.keep hb, h.c.keep hb, h.h.trans (hb.mono h.h.size)⟩
theorem G3.setA {w W W' : World} {x y x' : Nat} (h : G3 w W x y) (hn : NatB W' w.heap.size x') (hg : W.grownBy W' (some w.heap.size)) : G3 w W' x' y := ⟨hn, h.b.grown hg (by simp), h.c.grown hg (by simp; omega), below_grown h.h hg (by omega) h.h.size⟩
theorem G3.setB {w W W' : World} {x y y' : Nat} (h : G3 w W x y) (hn : NatB W' (w.heap.size + 1) y') (hg : W.grownBy W' (some (w.heap.size + 1))) : G3 w W' x y' := ⟨h.a.grown hg (by simp), hn, h.c.grown hg (by simp), below_grown h.h hg (by omega) h.h.size⟩
theorem natZV : Value.agg #[Value.int IntKind.u32 0, Value.int IntKind.u32 0, Value.int IntKind.u32 0, Value.int IntKind.u32 0, Value.int IntKind.u32 0, Value.int IntKind.u32 0, Value.int IntKind.u32 0, Value.int IntKind.u32 0, Value.int IntKind.u32 0, Value.int IntKind.u32 0, Value.int IntKind.u32 0, Value.int IntKind.u32 0, Value.int IntKind.u32 0, Value.int IntKind.u32 0, Value.int IntKind.u32 0, Value.int IntKind.u32 0, Value.int IntKind.u32 0, Value.int IntKind.u32 0, Value.int IntKind.u32 0, Value.int IntKind.u32 0] = natV 0 := by rw [natZ]; rfl
theorem pow_small {k a : Nat} (h : 2 ^ k ≤ a) (ha : a < 4294967296 ^ 20) : k ≤ 640 := by
  rw [pow32] at ha
  have : 2 ^ k < 2 ^ (32 * 20) := Nat.lt_of_le_of_lt h ha
  have := (Nat.pow_lt_pow_iff_right (show 1 < 2 by decide)).1 this
  omega
set_option maxRecDepth 100000 in
set_option maxHeartbeats 1000000 in
theorem nat_gcd (a b : Nat) (ha : a < 4294967296 ^ 20) (hb : b < 4294967296 ^ 20) (ha0 : 0 < a) (hb0 : 0 < b) (w : World) :
    Calls Try.prog 85 #[natV a, natV b] w fun e w' => e = .returned (natV (Nat.gcd a b)) ∧ Below w.heap.size w w' := by
  have HA := Lib.hid ha
  have HB := Lib.hid hb
  have HA0 := Lib.hid ha0
  have HB0 := Lib.hid hb0
  clear ha hb ha0 hb0
  unfold natV
  obtain ⟨c, hc⟩ : ∃ c, c = natC a := ⟨_, rfl⟩
  obtain ⟨f, hf⟩ : ∃ f, f = natC b := ⟨_, rfl⟩
  rw [← hc, ← hf]
  have HC := Lib.hid hc
  have HF := Lib.hid hf
  clear hc hf
  go_enter Try.func85, Try.ntmps85
  go_wp2
  rw [natZ, HC.out, HF.out]
  obtain ⟨W, hW⟩ : ∃ W, W = ((w.alloc (.cells (natC a) 77)).alloc (.cells (natC b) 77)).alloc (.cells (natC 0) 77) := ⟨_, rfl⟩
  rw [← hW]
  have h0 : Hid (G3 w W a b) := by rw [hW]; exact ⟨hp2 _ _ _ _, hp21 _ _ _ _, hp22 _ _ _ _, (by repeat' (first | (with_reducible exact Below.refl _ _) | (with_reducible assumption) | (with_reducible refine below_drewN ?_ _) | (with_reducible refine below_step (by assumption) ?_ ?_) | (with_reducible refine Below.alloc ?_ ?_ _) | (with_reducible refine Below.setCell ?_ ?_ _) | (with_reducible refine Below.drew ?_) | go_size | (exact Below.size (by assumption)) | (refine Nat.le_trans (Below.size (by assumption)) ?_)))⟩
  clear hW
  go_loopw [5] (fun t wr => ∃ k x y : Nat, t = .int .i64 k ∧ k ≤ 640 ∧ Hid (2 ^ k * x = a ∧ 2 ^ k * y = b ∧ G3 w wr x y)) (fun _ wr => valB wr w.heap.size)
  case atStart => exact ⟨0, a, b, rfl, by omega, by rw [Nat.pow_zero, Nat.one_mul, Nat.one_mul]; exact ⟨rfl, rfl, h0.out⟩⟩
  case round =>
    obtain ⟨k, x, y, rfl, hk, hr⟩ := hrel
    go_upto_region 2 with fail
    go_cut [15] (fun s wx => ∃ c : Bool, s = .bool c ∧ Hid (c = true ↔ x % 2 = 0 ∧ y % 2 = 0) ∧ wr = wx)
    case first =>
      have hf1 := hr.out.2.2.a.free 0
      have hf2 := hr.out.2.2.b.free 0
      by_cases hx : x % 2 = 0
      · obtain ⟨d, hd1, hd2, hd3⟩ := hr.out.2.2.a.even hx
        have HX := Lib.hid hx
        clear hx
        by_cases hy : y % 2 = 0
        · obtain ⟨e, he1, he2, he3⟩ := hr.out.2.2.b.even hy
          have HY := Lib.hid hy
          clear hy
          go_wp2_with fail
          go_meet
          exact ⟨true, rfl, Lib.hid ⟨fun _ => ⟨HX.out, HY.out⟩, fun _ => rfl⟩, rfl⟩
        · obtain ⟨e, he1, he2, he3⟩ := hr.out.2.2.b.odd (by omega)
          have HY := Lib.hid hy
          clear hy
          go_wp2_with fail
          go_meet
          exact ⟨false, rfl, Lib.hid ⟨(fun h => by cases h), fun h => absurd h.2 HY.out⟩, rfl⟩
      · obtain ⟨d, hd1, hd2, hd3⟩ := hr.out.2.2.a.odd (by omega)
        have HX := Lib.hid hx
        clear hx
        go_wp2_with fail
        go_meet
        exact ⟨false, rfl, Lib.hid ⟨(fun h => by cases h), fun h => absurd h.1 HX.out⟩, rfl⟩
    case rest =>
    obtain ⟨c, rfl, hc, rfl⟩ := hcut
    cases c with
    | true =>
      have hx2 : x / 2 * 2 = x := by have := hc.out.1 rfl; omega
      have hy2 : y / 2 * 2 = y := by have := hc.out.1 rfl; omega
      have hxa : x ≤ a := by have h1 := hr.out.1; have : 1 * x ≤ 2 ^ k * x := Nat.mul_le_mul_right _ (Nat.pow_pos (by decide)); omega
      have hya : y ≤ b := by have h1 := hr.out.2.1; have : 1 * y ≤ 2 ^ k * y := Nat.mul_le_mul_right _ (Nat.pow_pos (by decide)); omega
      have hx0 : 0 < x := by have h1 := hr.out.1; have h2 := HA0.out; rcases Nat.eq_zero_or_pos x with h | h; (rw [h] at h1; simp at h1; omega); exact h
      have XA := Lib.hid (Nat.lt_of_le_of_lt hxa HA.out)
      have YB := Lib.hid (Nat.lt_of_le_of_lt hya HB.out)
      have e1 : 2 ^ (k + 1) * (x / 2) = a := by rw [Nat.pow_succ, Nat.mul_assoc, Nat.mul_comm 2, hx2]; exact hr.out.1
      have e2 : 2 ^ (k + 1) * (y / 2) = b := by rw [Nat.pow_succ, Nat.mul_assoc, Nat.mul_comm 2, hy2]; exact hr.out.2.1
      have hk2 : k + 1 ≤ 640 := pow_small (a := a) (by have : 2 ^ (k + 1) * 1 ≤ 2 ^ (k + 1) * (x / 2) := Nat.mul_le_mul_left _ (by omega); omega) HA.out
      have E1 := Lib.hid e1
      have E2 := Lib.hid e2
      have X0 := Lib.hid hx0
      clear e1 e2 hx2 hy2 hxa hya hx0
      go_wp2
      refine region_grow_tail 4 (by kernel_rfl) (by kernel_rfl) ?_
      simp only [List.take_succ_cons, List.take_zero, List.drop_succ_cons, List.drop_zero]
      repeat (first | (go_big_quiet_want; (first | refine quiet_ld_nat _ rfl _ _ rfl hr.out.2.2.a.inGrow ?_ | refine quiet_ld_nat _ rfl _ _ rfl hr.out.2.2.b.inGrow ?_); go_simp; go_big_quiet_on) | go_big_quiet_step ((go_at_call 110; first | (with_reducible exact grow_call (nat_half x XA.out _)) | (with_reducible exact grow_call (nat_half y YB.out _)))))
      refine wpQuiet_nil ?_
      rintro w1 ⟨xg, hxg⟩
      have hb1 := below_grow wr xg
      rw [← hxg] at hb1
      clear hxg xg
      have g1 := Lib.hid (hr.out.2.2.keep hb1)
      clear hb1
      go_wp2_with (first | (refine st_nat rfl _ _ rfl rfl _ _ _ rfl rfl g1.out.a ?_; intro w2 hnw2 hgw2; have g2 := Lib.hid (g1.out.setA hnw2 hgw2)) | (refine st_nat rfl _ _ rfl rfl _ _ _ rfl rfl g2.out.b ?_; intro w3 hnw3 hgw3; have g3 := Lib.hid (g2.out.setB hnw3 hgw3)))
      go_roundw
      case rel => exact ⟨k + 1, x / 2, y / 2, by go_num, hk2, E1.out, E2.out, g3.out⟩
      case measure =>
        rw [g3.out.a.val (by have := XA.out; omega), hr.out.2.2.a.val XA.out]
        have := X0.out
        omega
    | false =>
      have HO := Lib.hid (gcd_odd (a := x) (b := y) (fun h => by have := hc.out.2 h; cases this))
      have hxa : x ≤ a := by have h1 := hr.out.1; have : 1 * x ≤ 2 ^ k * x := Nat.mul_le_mul_right _ (Nat.pow_pos (by decide)); omega
      have hya : y ≤ b := by have h1 := hr.out.2.1; have : 1 * y ≤ 2 ^ k * y := Nat.mul_le_mul_right _ (Nat.pow_pos (by decide)); omega
      have hy0 : 0 < y := by have h1 := hr.out.2.1; have h2 := HB0.out; rcases Nat.eq_zero_or_pos y with h | h; (rw [h] at h1; simp at h1; omega); exact h
      have XA := Lib.hid (Nat.lt_of_le_of_lt hxa HA.out)
      have YB := Lib.hid (Nat.lt_of_le_of_lt hya HB.out)
      have Y0 := Lib.hid hy0
      have HG := Lib.hid (show 2 ^ k * Nat.gcd x y = Nat.gcd a b by rw [← Nat.gcd_mul_left, hr.out.1, hr.out.2.1])
      obtain ⟨g, hg⟩ : ∃ g, g = Nat.gcd x y := ⟨_, rfl⟩
      rw [← hg] at HG HO
      have h0' := Lib.hid (show Nat.gcd x y = g ∧ 0 < y ∧ x < 4294967296 ^ 20 ∧ y < 4294967296 ^ 20 ∧ G3 w wr x y from ⟨hg.symm, hy0, XA.out, YB.out, hr.out.2.2⟩)
      clear hxa hya hy0 hg hc hr XA YB Y0
      go_wp2
      go_loopw [] (fun wr => ∃ x y : Nat, Hid (Nat.gcd x y = g ∧ 0 < y ∧ x < 4294967296 ^ 20 ∧ y < 4294967296 ^ 20 ∧ G3 w wr x y)) (fun wr => valB wr w.heap.size + valB wr (w.heap.size + 1))
      case atStart => exact ⟨x, y, h0'⟩
      case round =>
        clear h0'
        obtain ⟨x, y, hq⟩ := hrel
        by_cases hx0 : x = 0
        · subst hx0
          have hyg : y = g := by rw [← hq.out.1, Nat.gcd_zero_left]
          subst hyg
          go_wp2_with (first | (refine ld_nat rfl _ rfl _ _ rfl hq.out.2.2.2.2.a ?_) | (refine ld_nat rfl _ rfl _ _ rfl hq.out.2.2.2.2.b ?_) | refine ne_nat rfl _ _ _ rfl _ _ false rfl natZV (by decide) (by decide) rfl ?_)
          refine (nat_double y k (by omega) _).mono ?_
          rintro e w1 ⟨rfl, hb1⟩
          have g1 := Lib.hid (hq.out.2.2.2.2.keep hb1)
          clear hb1
          go_wp2_with (refine st_nat rfl _ _ rfl rfl _ _ _ rfl rfl g1.out.c ?_; intro w2 hn2 hg2)
          refine bodyPost_ret (v := natV (2 ^ k * y)) (ret_nat rfl rfl hn2) rfl ⟨by rw [HG.out]; rfl, below_grown g1.out.h hg2 (by omega) g1.out.h.size⟩
        · have hd : (!decide (x = 0)) = true := by simp [hx0]
          have HD := Lib.hid hd
          have HX0 := Lib.hid (Nat.pos_of_ne_zero hx0)
          clear hx0 hd
          go_wp2_with (first | (refine ld_nat rfl _ rfl _ _ rfl hq.out.2.2.2.2.a ?_) | refine ne_nat rfl _ _ _ rfl _ _ true rfl natZV hq.out.2.2.1 (by decide) HD.out ?_)
          go_simp
          go_loopw [] (fun wq => ∃ x' : Nat, Hid (Nat.gcd x' y = g ∧ 0 < x' ∧ x' ≤ x ∧ G3 w wq x' y)) (fun wq => valB wq w.heap.size)
          case atStart => exact ⟨x, Lib.hid ⟨hq.out.1, HX0.out, Nat.le_refl _, hq.out.2.2.2.2⟩⟩
          case round =>
            obtain ⟨x1, h1⟩ := hrel
            have hf1 := h1.out.2.2.2.a.free 0
            by_cases hx : x1 % 2 = 0
            · obtain ⟨d, hd1, hd2, hd3⟩ := h1.out.2.2.2.a.even hx
              have HX := Lib.hid hx
              clear hx
              go_wp2_with (first | (refine ld_nat rfl _ rfl _ _ rfl h1.out.2.2.2.a ?_))
              refine (nat_half x1 (Nat.lt_of_le_of_lt h1.out.2.2.1 hq.out.2.2.1) _).mono ?_
              rintro e w1 ⟨rfl, hb1⟩
              have g1 := Lib.hid (h1.out.2.2.2.keep hb1)
              clear hb1
              go_wp2_with (first | (refine st_nat rfl _ _ rfl rfl _ _ _ rfl rfl g1.out.a ?_; intro w2 hnw2 hgw2; have g2 := Lib.hid (g1.out.setA hnw2 hgw2)))
              go_roundw
              case rel => exact ⟨x1 / 2, Lib.hid ⟨by rw [gcd_half_left HX.out (by rw [h1.out.1]; exact HO.out)]; exact h1.out.1, by have := h1.out.2.1; have := HX.out; omega, by have := h1.out.2.2.1; omega, g2.out⟩⟩
              case measure =>
                have h2 := h1.out.2.1
                have h3 := h1.out.2.2.1
                have h4 := hq.out.2.2.1
                rw [g2.out.a.val (by omega), h1.out.2.2.2.a.val (by omega)]
                omega
            · obtain ⟨d, hd1, hd2, hd3⟩ := h1.out.2.2.2.a.odd (by omega)
              clear hx
              go_wp2
              go_loopw [] (fun wq => ∃ y' : Nat, Hid (Nat.gcd x1 y' = g ∧ 0 < y' ∧ y' ≤ y ∧ G3 w wq x1 y')) (fun wq => valB wq (w.heap.size + 1))
              case atStart => exact ⟨y, Lib.hid ⟨h1.out.1, hq.out.2.1, Nat.le_refl _, h1.out.2.2.2⟩⟩
              case round =>
                clear hf1 hd1 hd2 hd3
                obtain ⟨y1, h2⟩ := hrel
                have hf2 := h2.out.2.2.2.b.free 0
                by_cases hy : y1 % 2 = 0
                · obtain ⟨d, hd1, hd2, hd3⟩ := h2.out.2.2.2.b.even hy
                  have HY := Lib.hid hy
                  clear hy
                  go_wp2_with (first | (refine ld_nat rfl _ rfl _ _ rfl h2.out.2.2.2.b ?_))
                  refine (nat_half y1 (Nat.lt_of_le_of_lt h2.out.2.2.1 hq.out.2.2.2.1) _).mono ?_
                  rintro e w1 ⟨rfl, hb1⟩
                  have g1 := Lib.hid (h2.out.2.2.2.keep hb1)
                  clear hb1
                  go_wp2_with (first | (refine st_nat rfl _ _ rfl rfl _ _ _ rfl rfl g1.out.b ?_; intro w2 hnw2 hgw2; have g2 := Lib.hid (g1.out.setB hnw2 hgw2)))
                  go_roundw
                  case rel => exact ⟨y1 / 2, Lib.hid ⟨by rw [gcd_half_right HY.out (by rw [h2.out.1]; exact HO.out)]; exact h2.out.1, by have := h2.out.2.1; have := HY.out; omega, by have := h2.out.2.2.1; omega, g2.out⟩⟩
                  case measure =>
                    have i2 := h2.out.2.1
                    have h3 := h2.out.2.2.1
                    have h4 := hq.out.2.2.2.1
                    rw [g2.out.b.val (by omega), h2.out.2.2.2.b.val (by omega)]
                    omega
                · obtain ⟨d, hd1, hd2, hd3⟩ := h2.out.2.2.2.b.odd (by omega)
                  clear hy
                  have XL := Lib.hid (Nat.lt_of_le_of_lt h1.out.2.2.1 hq.out.2.2.1)
                  have YL := Lib.hid (Nat.lt_of_le_of_lt h2.out.2.2.1 hq.out.2.2.2.1)
                  by_cases hlt : x1 < y1
                  · have HL := Lib.hid hlt
                    have hc1 : cmpN x1 y1 = -1 := by rw [cmpN, if_pos hlt]
                    have HC1 := Lib.hid hc1
                    clear hlt hc1
                    go_wp2_with (first | (refine ld_nat rfl _ rfl _ _ rfl h2.out.2.2.2.a ?_) | (refine ld_nat rfl _ rfl _ _ rfl h2.out.2.2.2.b ?_))
                    refine (nat_compare x1 y1 XL.out YL.out _).mono ?_
                    rw [HC1.out]
                    rintro e w1 ⟨rfl, hb1⟩
                    have g1 := Lib.hid (h2.out.2.2.2.keep hb1)
                    clear hb1 hd1 hd2 hd3 hf2
                    go_wp2_with (first | (refine ld_nat rfl _ rfl _ _ rfl g1.out.a ?_) | (refine ld_nat rfl _ rfl _ _ rfl g1.out.b ?_) | (refine st_nat rfl _ _ rfl rfl _ _ _ rfl rfl g1.out.a ?_; intro w2 hnw2 hgw2; have g2 := Lib.hid (g1.out.setA hnw2 hgw2)) | (refine st_nat rfl _ _ rfl rfl _ _ _ rfl rfl g2.out.b ?_; intro w3 hnw3 hgw3; have g3 := Lib.hid (g2.out.setB hnw3 hgw3)) | (refine ld_nat rfl _ rfl _ _ rfl g3.out.a ?_) | (refine ld_nat rfl _ rfl _ _ rfl g3.out.b ?_))
                    refine (nat_minus y1 x1 (Nat.le_of_lt HL.out) _).mono ?_
                    rintro e w4 ⟨rfl, hb4⟩
                    have g4 := Lib.hid (g3.out.keep hb4)
                    clear hb4
                    go_wp2_with (first | (refine st_nat rfl _ _ rfl rfl _ _ _ rfl rfl g4.out.a ?_; intro w5 hnw5 hgw5; have g5 := Lib.hid (g4.out.setA hnw5 hgw5)))
                    go_roundw
                    case rel => exact ⟨y1 - x1, x1, Lib.hid ⟨by rw [gcd_minus (Nat.le_of_lt HL.out), Nat.gcd_comm]; exact h2.out.1, h1.out.2.1, by have := YL.out; omega, XL.out, g5.out⟩⟩
                    case measure =>
                      have i1 := h1.out.2.1
                      have i2 := h2.out.2.2.1
                      have i3 := HL.out
                      have i4 := YL.out
                      rw [g5.out.a.val (by omega), g5.out.b.val XL.out, hq.out.2.2.2.2.a.val hq.out.2.2.1, hq.out.2.2.2.2.b.val hq.out.2.2.2.1]
                      have := HX0.out
                      omega
                  · have HL := Lib.hid (Nat.le_of_not_lt hlt)
                    have hc1 : (cmpN x1 y1 < 0) = False := by rw [cmpN, if_neg hlt]; split <;> simp
                    have hc2 : 0 ≤ cmpN x1 y1 := by rw [cmpN, if_neg hlt]; split <;> simp
                    obtain ⟨cc, hcc⟩ : ∃ cc, cc = cmpN x1 y1 := ⟨_, rfl⟩
                    rw [← hcc] at hc2
                    have HC1 := Lib.hid hcc
                    clear hlt hc1 hcc
                    go_wp2_with (first | (refine ld_nat rfl _ rfl _ _ rfl h2.out.2.2.2.a ?_) | (refine ld_nat rfl _ rfl _ _ rfl h2.out.2.2.2.b ?_))
                    refine (nat_compare x1 y1 XL.out YL.out _).mono ?_
                    rw [← HC1.out]
                    rintro e w1 ⟨rfl, hb1⟩
                    have g1 := Lib.hid (h2.out.2.2.2.keep hb1)
                    clear hb1 hd1 hd2 hd3 hf2
                    go_wp2_with (first | (refine ld_nat rfl _ rfl _ _ rfl g1.out.a ?_) | (refine ld_nat rfl _ rfl _ _ rfl g1.out.b ?_))
                    refine (nat_minus x1 y1 HL.out _).mono ?_
                    rintro e w4 ⟨rfl, hb4⟩
                    have g4 := Lib.hid (g1.out.keep hb4)
                    clear hb4
                    go_wp2_with (first | (refine st_nat rfl _ _ rfl rfl _ _ _ rfl rfl g4.out.a ?_; intro w5 hnw5 hgw5; have g5 := Lib.hid (g4.out.setA hnw5 hgw5)))
                    go_roundw
                    case rel => exact ⟨x1 - y1, y1, Lib.hid ⟨by rw [gcd_minus HL.out]; exact h2.out.1, h2.out.2.1, by have := XL.out; omega, YL.out, g5.out⟩⟩
                    case measure =>
                      have i1 := h1.out.2.2.1
                      have i2 := h2.out.2.1
                      have i3 := HL.out
                      have i4 := XL.out
                      have i5 := h2.out.2.2.1
                      rw [g5.out.a.val (by omega), g5.out.b.val YL.out, hq.out.2.2.2.2.a.val hq.out.2.2.1, hq.out.2.2.2.2.b.val hq.out.2.2.2.1]
                      omega
end Go.Proofs.Ytdgmpaijpjkeoaa
/-
  NATURALS OF TWENTY WORDS: division.
-/
namespace Go.Proofs.Ytdgmpaijpjkeoaa
open Go.RowKit
attribute [local go_sem] grow_cell grow_frozen
/-- The number of bits. -/
def bitsN (a : Nat) : Nat := if a = 0 then 0 else a.log2 + 1
theorem bitsN_bits (a : Nat) : Bits a (bitsN a) := by
  unfold bitsN
  split
  · rename_i h; subst h; exact ⟨by decide, fun h => absurd h (by decide)⟩
  · rename_i h
    exact ⟨Nat.lt_log2_self, fun _ => by rw [Nat.add_sub_cancel]; exact Nat.log2_self_le h⟩
theorem nat_length' (a L : Nat) (hL : L = bitsN a) (ha : a < 4294967296 ^ 20) (w : World) :
    Calls Try.prog 113 #[natV a] w fun e w' => e = .returned (.int .i64 L) ∧ Below w.heap.size w w' :=
  (nat_length a ha w).mono fun e w' ⟨⟨M, he, hM, _⟩, hb⟩ => ⟨by rw [he, hM.unique (bitsN_bits a), hL], hb⟩
theorem bitsN_le {a : Nat} (ha : a < 4294967296 ^ 20) : bitsN a ≤ 640 := len_bd (bitsN_bits a) ha
/-- What over returns. -/
def ovq (a b : Nat) : Int := if bitsN b + 60 < bitsN a then 0 else ((a / b : Nat) : Int)
def ovf (a b : Nat) : Bool := !decide (bitsN b + 60 < bitsN a)
/-- The blocks of over. -/
structure G2 (w W : World) (x y : Nat) : Prop where
  a : NatB W w.heap.size x
  b : NatB W (w.heap.size + 1) y
  h : Below w.heap.size w W
theorem G2.keep {w W W' : World} {x y : Nat} (h : G2 w W x y) (hb : Below W.heap.size W W') : G2 w W' x y := ⟨h.a.keep hb, h.b.keep hb, h.h.trans (hb.mono h.h.size)⟩
theorem G2.setA {w W W' : World} {x y x' : Nat} (h : G2 w W x y) (hn : NatB W' w.heap.size x') (hg : W.grownBy W' (some w.heap.size)) : G2 w W' x' y := ⟨hn, h.b.grown hg (by simp), below_grown h.h hg (by omega) h.h.size⟩
theorem G2.other {w W W' : World} {x y b : Nat} (h : G2 w W x y) (hb : w.heap.size + 1 < b) (hg : W.grownBy W' (some b)) : G2 w W' x y := ⟨h.a.grown hg (by simp; omega), h.b.grown hg (by simp; omega), below_grown h.h hg (by omega) h.h.size⟩
theorem over_q {A b q x c S : Nat} (h : A = q * (2 ^ c * b) + x) (hA : A < 2 ^ (S + 1) * b) (_hc : c ≤ S + 1) (hS : S ≤ 60) : (q : Int) ≤ 2305843009213693952 := by
  have h1 : q * 2 ^ c * b ≤ A := by rw [h, Nat.mul_assoc]; omega
  have h2 : q * 2 ^ c < 2 ^ (S + 1) := by
    rcases Nat.lt_or_ge (q * 2 ^ c) (2 ^ (S + 1)) with g | g
    · exact g
    · have := Nat.mul_le_mul_right b g; omega
  have h3 : q * 1 ≤ q * 2 ^ c := Nat.mul_le_mul_left _ (Nat.pow_pos (by decide))
  have h4 : 2 ^ (S + 1) ≤ 2 ^ 61 := Nat.pow_le_pow_right (by decide) (by omega)
  have h5 : (2 : Nat) ^ 61 = 2305843009213693952 := by decide
  omega
set_option maxRecDepth 100000 in
set_option maxHeartbeats 1000000 in
theorem nat_over (a b : Nat) (ha : a < 4294967296 ^ 20) (hb : b < 4294967296 ^ 20) (hb0 : 0 < b) (hab : b ≤ a) (w : World) :
    Calls Try.prog 86 #[natV a, natV b] w fun e w' => e = .returned (.tuple #[.int .i64 (ovq a b), .bool (ovf a b)]) ∧ Below w.heap.size w w' := by
  have hl1 := bitsN_le ha
  have hl2 := (bitsN_bits b).mono (bitsN_bits a) hab
  have HA := Lib.hid ha
  have HB := Lib.hid hb
  have HB0 := Lib.hid hb0
  clear ha hb hb0 hab
  obtain ⟨L, hL⟩ : ∃ L, L = bitsN a := ⟨_, rfl⟩
  obtain ⟨M, hM⟩ : ∃ M, M = bitsN b := ⟨_, rfl⟩
  rw [← hL] at hl1 hl2
  rw [← hM] at hl2
  have HL := Lib.hid hL
  have HM := Lib.hid hM
  have hq : ovq a b = if M + 60 < L then 0 else ((a / b : Nat) : Int) := by unfold ovq; rw [hL, hM]
  have hf : ovf a b = !decide (M + 60 < L) := by unfold ovf; rw [hL, hM]
  have HQ := Lib.hid hq
  have HF := Lib.hid hf
  clear hL hM hq hf
  unfold natV
  obtain ⟨c, hc⟩ : ∃ c, c = natC a := ⟨_, rfl⟩
  obtain ⟨f, hf⟩ : ∃ f, f = natC b := ⟨_, rfl⟩
  rw [← hc, ← hf]
  have HC := Lib.hid hc
  have HFF := Lib.hid hf
  clear hc hf
  go_enter Try.func86, Try.ntmps86
  go_wp2
  rw [HC.out, HFF.out]
  obtain ⟨W, hW⟩ : ∃ W, W = (w.alloc (.cells (natC a) 77)).alloc (.cells (natC b) 77) := ⟨_, rfl⟩
  rw [← hW]
  have h0 : Hid (G2 w W a b) := by rw [hW]; exact ⟨hp1 _ _ _, hp11 _ _ _, (by repeat' (first | (with_reducible exact Below.refl _ _) | (with_reducible assumption) | (with_reducible refine below_drewN ?_ _) | (with_reducible refine below_step (by assumption) ?_ ?_) | (with_reducible refine Below.alloc ?_ ?_ _) | (with_reducible refine Below.setCell ?_ ?_ _) | (with_reducible refine Below.drew ?_) | go_size | (exact Below.size (by assumption)) | (refine Nat.le_trans (Below.size (by assumption)) ?_)))⟩
  clear hW
  refine region_grow (by kernel_rfl) (by kernel_rfl) ?_
  repeat (first | (go_big_quiet_want; (first | refine quiet_ld_nat _ rfl _ _ rfl h0.out.a.inGrow ?_ | refine quiet_ld_nat _ rfl _ _ rfl h0.out.b.inGrow ?_); go_simp; go_big_quiet_on) | go_big_quiet_step ((go_at_call 113; first | (with_reducible exact grow_call (nat_length' a L HL.out HA.out _)) | (with_reducible exact grow_call (nat_length' b M HM.out HB.out _)))))
  refine wpQuiet_nil ?_
  rintro w1 ⟨xg, hxg⟩
  have hb1 := below_grow W xg
  rw [← hxg] at hb1
  clear hxg xg
  have g1 := Lib.hid (h0.out.keep hb1)
  clear hb1 h0
  by_cases hbig : M + 60 < L
  · have HQ2 := Lib.hid (HQ.out.trans (if_pos hbig))
    have HF2 := Lib.hid (HF.out.trans (by rw [decide_eq_true hbig]; rfl : _ = false))
    have hd : decide ((60 : Int) < (L : Int) - M) = true := decide_eq_true (by omega)
    go_wp2
    go_ret2
    exact ⟨by rw [HQ2.out, HF2.out]; rfl, g1.out.h⟩
  · have HQ2 := Lib.hid (HQ.out.trans (if_neg hbig))
    have HF2 := Lib.hid (HF.out.trans (by rw [decide_eq_false hbig]; rfl : _ = true))
    have hd : decide ((60 : Int) < (L : Int) - M) = false := decide_eq_false (by omega)
    obtain ⟨S, hS⟩ : ∃ S, S = L - M := ⟨_, rfl⟩
    have hLM : (L : Int) - M = (S : Int) := by omega
    have hS60 : S ≤ 60 := by omega
    have AL := Lib.hid (div_start (by rw [HL.out]; exact bitsN_bits a : Bits a L) HB0.out (by rw [HM.out]; exact bitsN_bits b) hl2)
    rw [← hS] at AL
    have HS := Lib.hid hS
    rw [hLM] at hd ⊢
    clear hS hLM
    go_wp2
    go_loopw [6, 7] (fun t v wr => ∃ c q x : Nat, t = .int .i64 ((c : Int) - 1) ∧ v = .int .i64 q ∧ c ≤ S + 1 ∧ Hid (a = q * (2 ^ c * b) + x ∧ x < 2 ^ c * b ∧ G2 w wr x b)) (fun t _ _ => (intOf t + 1).toNat)
    case atStart => exact ⟨S + 1, 0, a, by go_num, rfl, by omega, by rw [Nat.zero_mul, Nat.zero_add]; exact ⟨rfl, AL.out, g1.out⟩⟩
    case round =>
      obtain ⟨c, q, x, rfl, rfl, hc, hr⟩ := hrel
      cases c with
      | zero =>
        have hqq := div_end HB0.out hr.out.1 hr.out.2.1
        have HQQ := Lib.hid hqq
        clear hqq
        go_wp2
        go_ret2
        exact ⟨by rw [HQ2.out, HF2.out, HQQ.out]; rfl, hr.out.2.2.h⟩
      | succ c =>
        rw [show ((c + 1 : Nat) : Int) - 1 = (c : Int) by omega]
        have hq := over_q hr.out.1 AL.out hc hS60
        have hXB := Lib.hid (show x < 4294967296 ^ 20 by have := hr.out.1; have := HA.out; omega)
        have hds := div_step hr.out.1 hr.out.2.1
        have hcb : 2 ^ c * b < 4294967296 ^ 20 := by
          obtain ⟨p, hp, hp2⟩ : ∃ p, 4294967296 ^ 20 = 2 ^ p ∧ 640 ≤ p := ⟨32 * 20, pow32 20, by decide⟩
          rw [hp]
          exact Nat.lt_of_lt_of_le (div_room (by rw [HM.out]; exact bitsN_bits b) hl2 c (by rw [← HS.out]; omega)) (Nat.pow_le_pow_right (by decide) (by omega))
        obtain ⟨D, hD⟩ : ∃ D, D = 2 ^ c * b := ⟨_, rfl⟩
        rw [← hD] at hds hcb
        have HD := Lib.hid hD
        have HCB := Lib.hid hcb
        have HDS := Lib.hid hds
        clear hD hcb hds
        go_wp2_with (first | (refine ld_nat rfl _ rfl _ _ rfl hr.out.2.2.b ?_))
        refine (nat_double b c (by omega) _).mono ?_
        rw [← HD.out]
        rintro e w2 ⟨rfl, hb2⟩
        have g2 := Lib.hid (hr.out.2.2.keep hb2)
        clear hb2
        have hz : NatB (w2.alloc (.cells (natC 0) 77)) w2.heap.size 0 := NB.new _ _
        rw [← natZ] at hz
        have HZ := Lib.hid hz
        have g3 := Lib.hid (g2.out.keep ((Below.refl _ _).alloc (Nat.le_refl _) (.cells (natC 0) 77)))
        rw [← natZ] at g3
        have hsz := g2.out.b.lt
        clear hz
        go_wp2_with (first | (refine st_nat rfl _ _ rfl rfl _ _ _ rfl rfl HZ.out ?_; intro w4 hn4 hg4; have g4 := Lib.hid (g3.out.other (by omega) hg4); have n4 := Lib.hid hn4) | (refine ld_nat rfl _ rfl _ _ rfl g4.out.a ?_) | (refine ld_nat rfl _ rfl _ _ rfl n4.out ?_))
        have XD := Lib.hid hXB
        clear hXB
        by_cases hge : D ≤ x
        · have hc1 : 0 ≤ cmpN x D := by rw [cmpN, if_neg (by omega)]; split <;> simp
          obtain ⟨cc, hcc⟩ : ∃ cc, cc = cmpN x D := ⟨_, rfl⟩
          rw [← hcc] at hc1
          have HCC := Lib.hid hcc
          have HGE := Lib.hid hge
          clear hcc hge
          refine (nat_compare x D XD.out HCB.out _).mono ?_
          rw [← HCC.out]
          rintro e w5 ⟨rfl, hb5⟩
          have g5 := Lib.hid (g4.out.keep hb5)
          have n5 := Lib.hid (n4.out.keep hb5)
          clear hb5
          go_wp2_with (first | (refine ld_nat rfl _ rfl _ _ rfl g5.out.a ?_) | (refine ld_nat rfl _ rfl _ _ rfl n5.out ?_))
          refine (nat_minus x D HGE.out _).mono ?_
          rintro e w6 ⟨rfl, hb6⟩
          have g6 := Lib.hid (g5.out.keep hb6)
          clear hb6
          go_wp2_with (first | (refine st_nat rfl _ _ rfl rfl _ _ _ rfl rfl g6.out.a ?_; intro w7 hnw7 hgw7; have g7 := Lib.hid (g6.out.setA hnw7 hgw7)))
          go_roundw
          case rel => exact ⟨c, 2 * q + 1, x - D, by go_num, by go_num, by omega, Lib.hid ⟨by rw [← HD.out]; exact (HDS.out.1 HGE.out).1, by rw [← HD.out]; exact (HDS.out.1 HGE.out).2, g7.out⟩⟩
          case measure => simp [intOf]
        · have hc1 : cmpN x D = -1 := by rw [cmpN, if_pos (by omega)]
          have HCC := Lib.hid hc1
          have HLT := Lib.hid (Nat.lt_of_not_le hge)
          clear hc1 hge
          refine (nat_compare x D XD.out HCB.out _).mono ?_
          rw [HCC.out]
          rintro e w5 ⟨rfl, hb5⟩
          have g5 := Lib.hid (g4.out.keep hb5)
          clear hb5
          go_wp2
          go_roundw
          case rel => exact ⟨c, 2 * q, x, by go_num, by go_num, by omega, Lib.hid ⟨by rw [← HD.out]; exact HDS.out.2 HLT.out, by rw [← HD.out]; exact HLT.out, g5.out⟩⟩
          case measure => simp [intOf]
end Go.Proofs.Ytdgmpaijpjkeoaa
