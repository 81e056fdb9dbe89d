/-
  SHARES OF LOTS: PLAIN. t: what a lot takes (1 where it takes nothing); ps: the parts of a lot, (number, mass).
-/
import Derived.Test.YtdgmpaijpjkeoaaNat
namespace Go.Proofs.Ytdgmpaijpjkeoaa
/-- The product of k numbers from a on. -/
def PrK (t : Nat → Nat) (a : Nat) : Nat → Nat
  | 0 => 1
  | k + 1 => PrK t a k * t (a + k)
/-- The product of those from a on below b. -/
def Pr (t : Nat → Nat) (a b : Nat) : Nat := PrK t a (b - a)
theorem Pr_self (t : Nat → Nat) (a : Nat) : Pr t a a = 1 := by simp [Pr, PrK]
theorem Pr_ge {t : Nat → Nat} {a b : Nat} (h : b ≤ a) : Pr t a b = 1 := by simp [Pr, Nat.sub_eq_zero_of_le h, PrK]
theorem Pr_succ {t : Nat → Nat} {a b : Nat} (h : a ≤ b) : Pr t a (b + 1) = Pr t a b * t b := by
  unfold Pr
  rw [show b + 1 - a = (b - a) + 1 by omega, PrK, show a + (b - a) = b by omega]
theorem Pr_pos {t : Nat → Nat} (h : ∀ i, 0 < t i) (a b : Nat) : 0 < Pr t a b := by
  unfold Pr
  generalize b - a = k
  induction k with
  | zero => simp [PrK]
  | succ k ih => exact Nat.mul_pos ih (h _)
theorem Pr_mul {t : Nat → Nat} {a b c : Nat} (h1 : a ≤ b) (h2 : b ≤ c) : Pr t a b * Pr t b c = Pr t a c := by
  obtain ⟨k, rfl⟩ := Nat.exists_eq_add_of_le h2
  induction k with
  | zero => simp [Pr_self]
  | succ k ih => rw [← Nat.add_assoc, Pr_succ (by omega), Pr_succ (by omega), ← Nat.mul_assoc, ih (by omega)]
theorem Pr_head {t : Nat → Nat} {a b : Nat} (h : a < b) : Pr t a b = t a * Pr t (a + 1) b := by
  rw [← Pr_mul (b := a + 1) (by omega) (by omega), Pr_succ (Nat.le_refl a), Pr_self, Nat.one_mul]
theorem Pr_le {t : Nat → Nat} {m : Nat} (h : ∀ i, t i ≤ m) (a b : Nat) : Pr t a b ≤ m ^ (b - a) := by
  unfold Pr
  generalize b - a = k
  induction k with
  | zero => simp [PrK]
  | succ k ih => rw [PrK, Nat.pow_succ]; exact Nat.mul_le_mul ih (h _)
theorem sum_map_mul_right {α : Type} (l : List α) (f : α → Nat) (c : Nat) : (l.map fun x => f x * c).sum = (l.map f).sum * c := by
  induction l with
  | nil => simp
  | cons x l ih => simp only [List.map_cons, List.sum_cons, ih, Nat.add_mul]
theorem sum_map_le {α : Type} (l : List α) (f g : α → Nat) (h : ∀ x ∈ l, f x ≤ g x) : (l.map f).sum ≤ (l.map g).sum := by
  induction l with
  | nil => simp
  | cons x l ih =>
    simp only [List.map_cons, List.sum_cons]
    have := h x (by simp)
    have := ih (fun y hy => h y (by simp [hy]))
    omega
theorem sum_map_congr {α : Type} (l : List α) (f g : α → Nat) (h : ∀ x ∈ l, f x = g x) : (l.map f).sum = (l.map g).sum := by
  rw [List.map_congr_left h]
theorem sum_map_zero {α : Type} (l : List α) : (l.map fun _ => 0).sum = 0 := by
  induction l with
  | nil => rfl
  | cons x l ih => simp only [List.map_cons, List.sum_cons, ih]
section
variable (t : Nat → Nat) (ps : Nat → List (Nat × Nat)) (of : Nat)
/-- The numerator of the share of the lot of in the lot i, from those in earlier lots. -/
def stepN (i : Nat) (f : Nat → Nat) : Nat :=
  if i = of then Pr t 0 (of + 1) else if of < i then ((ps i).map fun p => f p.1 * p.2 * Pr t (p.1 + 1) i).sum else 0
def numsN : Nat → List Nat
  | 0 => []
  | k + 1 => numsN k ++ [stepN t ps of k (fun j => (numsN k).getD j 0)]
def NN (i : Nat) : Nat := (numsN t ps of (i + 1)).getD i 0
theorem numsN_length : ∀ k, (numsN t ps of k).length = k
  | 0 => rfl
  | k + 1 => by simp [numsN, numsN_length k]
theorem numsN_get : ∀ k j, j < k → (numsN t ps of k).getD j 0 = NN t ps of j
  | 0, _, h => absurd h (by omega)
  | k + 1, j, h => by
    by_cases hj : j = k
    · subst hj; rfl
    · rw [← numsN_get k j (by omega), numsN, List.getD_eq_getElem?_getD, List.getElem?_append_left (by rw [numsN_length]; omega), List.getD_eq_getElem?_getD]
variable {t ps of}
theorem NN_eq {i : Nat} (hp : ∀ p ∈ ps i, p.1 < i) : NN t ps of i = stepN t ps of i (NN t ps of) := by
  have e : NN t ps of i = stepN t ps of i (fun j => (numsN t ps of i).getD j 0) := by
    unfold NN
    rw [numsN, List.getD_eq_getElem?_getD, List.getElem?_append_right (by rw [numsN_length]; omega), numsN_length]
    simp
  rw [e]
  unfold stepN
  split
  · rfl
  · split
    · exact sum_map_congr _ _ _ (fun p h => by simp only []; rw [numsN_get t ps of i p.1 (hp p h)])
    · rfl
theorem NN_of {i : Nat} (hp : ∀ p ∈ ps i, p.1 < i) (h : i = of) : NN t ps of i = Pr t 0 (of + 1) := by rw [NN_eq hp, stepN, if_pos h]
theorem NN_low {i : Nat} (hp : ∀ p ∈ ps i, p.1 < i) (h : i < of) : NN t ps of i = 0 := by rw [NN_eq hp, stepN, if_neg (by omega), if_neg (by omega)]
theorem NN_high {i : Nat} (hp : ∀ p ∈ ps i, p.1 < i) (h : of < i) : NN t ps of i = ((ps i).map fun p => NN t ps of p.1 * p.2 * Pr t (p.1 + 1) i).sum := by rw [NN_eq hp, stepN, if_neg (by omega), if_pos h]
/-- A share is at most 1. -/
theorem NN_le (hp : ∀ i, ∀ p ∈ ps i, p.1 < i) (hs : ∀ i, ((ps i).map (·.2)).sum ≤ t i) (i : Nat) : NN t ps of i ≤ Pr t 0 (i + 1) := by
  induction i using Nat.strongRecOn with
  | _ i ih =>
    rcases Nat.lt_trichotomy i of with h | h | h
    · rw [NN_low (hp i) h]; omega
    · rw [NN_of (hp i) h, h]; omega
    · rw [NN_high (hp i) h]
      have h1 : ((ps i).map fun p => NN t ps of p.1 * p.2 * Pr t (p.1 + 1) i).sum ≤ ((ps i).map fun p => p.2 * Pr t 0 i).sum := by
        refine sum_map_le _ _ _ (fun p hpp => ?_)
        have h2 := ih p.1 (hp i p hpp)
        have h3 := hp i p hpp
        rw [← Pr_mul (t := t) (a := 0) (b := p.1 + 1) (c := i) (by omega) (by omega), ← Nat.mul_assoc]
        refine Nat.mul_le_mul_right _ ?_
        rw [Nat.mul_comm]
        exact Nat.mul_le_mul_left _ h2
      rw [sum_map_mul_right] at h1
      rw [Pr_succ (by omega), Nat.mul_comm (Pr t 0 i)]
      exact Nat.le_trans h1 (Nat.mul_le_mul_right _ (hs i))
/-- .. and a partial sum of its own is no greater. -/
theorem NN_part_le (hp : ∀ i, ∀ p ∈ ps i, p.1 < i) (hs : ∀ i, ((ps i).map (·.2)).sum ≤ t i) (i : Nat) (p : Nat × Nat) (h : p ∈ ps i) : NN t ps of p.1 * p.2 * Pr t (p.1 + 1) i ≤ p.2 * Pr t 0 i := by
  have h2 := NN_le (of := of) hp hs p.1
  have h3 := hp i p h
  rw [← Pr_mul (t := t) (a := 0) (b := p.1 + 1) (c := i) (by omega) (by omega), ← Nat.mul_assoc]
  refine Nat.mul_le_mul_right _ ?_
  rw [Nat.mul_comm]
  exact Nat.mul_le_mul_left _ h2
/-- The reference's numerators: over one denominator, of some lots that were received. -/
def stepR (mk : Nat → Bool) (all : Nat) (i : Nat) (f : Nat → Nat) : Nat :=
  if mk i = true then all else if ps i = [] then 0 else ((ps i).map fun p => f p.1 * p.2).sum / t i
/-- What the reference has is what the program has, for one lot. -/
theorem stepR_one (hp : ∀ i, ∀ p ∈ ps i, p.1 < i) (ht : ∀ i, 0 < t i) {n i : Nat} (hi : i ≤ n) :
    stepR (t := t) (ps := ps) (fun j => decide (j = of)) (Pr t 0 (n + 1)) i (fun j => NN t ps of j * Pr t (j + 1) (n + 1)) = NN t ps of i * Pr t (i + 1) (n + 1) := by
  unfold stepR
  rcases Nat.lt_trichotomy i of with h | h | h
  · rw [if_neg (by simp; omega), NN_low (hp i) h, Nat.zero_mul]
    split
    · rfl
    · rw [sum_map_congr _ _ (fun _ => 0) (fun p hpp => by simp only []; rw [NN_low (hp p.1) (by have := hp i p hpp; omega)]; simp), sum_map_zero]
      simp
  · rw [if_pos (by simp [h]), NN_of (hp i) h, h, Pr_mul (by omega) (by omega)]
  · rw [if_neg (by simp; omega), NN_high (hp i) h]
    split
    · rename_i he; rw [he]; simp
    · rw [sum_map_congr _ _ (fun p => NN t ps of p.1 * p.2 * Pr t (p.1 + 1) i * (t i * Pr t (i + 1) (n + 1))) (fun p hpp => by
        have := hp i p hpp
        simp only []
        rw [← Pr_head (by omega), Nat.mul_assoc (NN t ps of p.1 * p.2), Pr_mul (by omega) (by omega), Nat.mul_assoc, Nat.mul_assoc, Nat.mul_comm p.2])]
      rw [sum_map_mul_right, Nat.mul_comm (t i), ← Nat.mul_assoc, Nat.mul_div_cancel _ (ht i)]
end
end Go.Proofs.Ytdgmpaijpjkeoaa
