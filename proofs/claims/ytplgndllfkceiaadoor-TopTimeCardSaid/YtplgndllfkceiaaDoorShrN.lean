/-
  SHARING A TOTAL: what the statements need of the parts. PLAIN.
-/
import Derived.Test.YtplgndllfkceiaaDoorShrF
namespace Go.Proofs.YtplgndllfkceiaaDoor
theorem getD_set_ge {p : List Int} {b i : Nat} {x : Int} (h0 : 0 ≤ x) (hi : 0 ≤ p.getD i 0) : 0 ≤ (p.set b x).getD i 0 := by
  by_cases e : b = i
  · subst e
    by_cases hb : b < p.length
    · rw [getD_set_same _ _ _ hb]; exact h0
    · rw [List.set_eq_of_length_le (by omega)]; exact hi
  · rw [getD_set_ne _ _ _ _ e]; exact hi
theorem dealt_nonneg (n : Nat) (p r : List Int) (h : ∀ i, 0 ≤ p.getD i 0) : ∀ i, 0 ≤ (dealt n p r).getD i 0 := by
  induction n generalizing p r with
  | zero => exact h
  | succ n ih =>
    rw [dealt]
    exact ih _ _ fun i => getD_set_ge (by have := h (bst r r.length); omega) (h i)
theorem isum_part {l : List Int} (h : ∀ i, 0 ≤ l.getD i 0) (k : Nat) (hk : k ≤ l.length) : 0 ≤ isum (l.take k) ∧ isum (l.take k) ≤ isum l := by
  induction l generalizing k with
  | nil => simp [isum]
  | cons x l ih =>
    have h0 : 0 ≤ x := by simpa using h 0
    have hl : ∀ i, 0 ≤ l.getD i 0 := fun i => by simpa using h (i + 1)
    cases k with
    | zero =>
      have := ih hl l.length (Nat.le_refl _)
      rw [List.take_length] at this
      simp only [List.take_zero, isum]; omega
    | succ k =>
      have := ih hl k (by simpa using hk)
      simp only [List.take_succ_cons, isum]; omega
/-- The parts are not below 0, and what the first ones of them come to is no more than the total. -/
theorem shr_part {t : Int} {ws l : List Int} {z : Int} (h : shr t ws = (l, z)) : (∀ k, k ≤ l.length → 0 ≤ isum (l.take k) ∧ isum (l.take k) ≤ 1099511627776) ∧ (∀ i, 0 ≤ l.getD i 0 ∧ l.getD i 0 ≤ 1099511627776) ∧ (z = 0 → isum l = t ∧ l.length = ws.length) ∧ (z ≠ 0 → l = []) := by
  by_cases hc : 0 ≤ t ∧ t ≤ 1099511627776 ∧ ws.length ≤ 16 ∧ wgts ws ws.length ∧ isum ws ≠ 0
  · have h2 := shr_in hc
    rw [h2] at h
    obtain ⟨h3, rfl⟩ := Prod.mk.inj h
    have h4 := shr_sum (h2.trans h)
    have hn : ∀ i, 0 ≤ l.getD i 0 := by
      rw [← h3]
      refine dealt_nonneg _ _ _ fun i => ?_
      by_cases hi : i < ws.length
      · rw [base_getD _ _ _ _ hi]
        have := hc.2.2.2.1.all
        exact Int.ediv_nonneg (Int.mul_nonneg hc.1 (hc.2.2.2.1 i hi).1) (by omega)
      · simp [base, List.getElem?_eq_none (show ws.length ≤ i by omega)]
    have hp : ∀ k, k ≤ l.length → 0 ≤ isum (l.take k) ∧ isum (l.take k) ≤ 1099511627776 := fun k hk => by
      have := isum_part hn k hk
      have := hc.2.1
      have := h4.1
      omega
    refine ⟨hp, fun i => ⟨hn i, ?_⟩, fun _ => h4, fun x => absurd rfl x⟩
    by_cases hi : i < l.length
    · have h5 := hp (i + 1) (by omega)
      have h6 := hp i (by omega)
      rw [isum_take l i hi] at h5
      omega
    · have : l.getD i 0 = 0 := by simp [List.getElem?_eq_none (show l.length ≤ i by omega)]
      omega
  · rw [shr_out hc] at h
    obtain ⟨rfl, rfl⟩ := Prod.mk.inj h
    exact ⟨fun k hk => by simp [isum], fun i => by simp, fun x => by omega, fun _ => rfl⟩
theorem isum_drop (l : List Int) (k : Nat) (h : k < l.length) : isum (l.drop k) = isum (l.drop (k + 1)) + l.getD k 0 := by
  have h1 := isum_append (l.take k) (l.drop k)
  have h2 := isum_append (l.take (k + 1)) (l.drop (k + 1))
  rw [List.take_append_drop] at h1 h2
  have h3 := isum_take l k h
  omega
theorem isum_drop_le {l : List Int} (h : ∀ i, 0 ≤ l.getD i 0) (k : Nat) (hk : k ≤ l.length) : isum (l.drop k) ≤ isum l := by
  have h1 := isum_append (l.take k) (l.drop k)
  rw [List.take_append_drop] at h1
  have := isum_part h k hk
  omega
end Go.Proofs.YtplgndllfkceiaaDoor
