/-
  SHARING A TOTAL BY WEIGHTS IS FAIR: PLAIN.
-/
import Derived.Test.YtplgndllfkceiaaDoorShrM
namespace Go.Proofs.YtplgndllfkceiaaDoor
/-- The sum of what is above 0. -/
def psum : List Int → Int
  | [] => 0
  | x :: l => max 0 x + psum l
theorem psum_nonneg (l : List Int) : 0 ≤ psum l := by
  induction l with
  | nil => simp [psum]
  | cons x l ih => simp only [psum]; omega
theorem psum_pos {l : List Int} (h : 0 < psum l) : ∃ j, j < l.length ∧ 0 < l.getD j 0 := by
  induction l with
  | nil => simp [psum] at h
  | cons x l ih =>
    simp only [psum] at h
    by_cases hx : 0 < x
    · exact ⟨0, by simp, by simpa using hx⟩
    · obtain ⟨j, hj, hp⟩ := ih (by omega)
      exact ⟨j + 1, by simpa using hj, by simpa using hp⟩
theorem psum_set (l : List Int) (i : Nat) (h : i < l.length) (h0 : 0 ≤ l.getD i 0) : psum (l.set i (-1)) = psum l - l.getD i 0 := by
  induction l generalizing i with
  | nil => simp at h
  | cons y l ih =>
    cases i with
    | zero => simp only [List.set_cons_zero, psum, List.getD_cons_zero] at h0 ⊢; omega
    | succ i =>
      simp only [List.set_cons_succ, psum, List.getD_cons_succ] at h0 ⊢
      rw [ih i (by simpa using h) h0]; omega
theorem psum_rmd {t a : Int} (ha : 0 < a) (ws : List Int) : psum (rmd t a ws) = isum (rmd t a ws) := by
  induction ws with
  | nil => rfl
  | cons w ws ih =>
    have := Int.emod_nonneg (t * w) (show a ≠ 0 by omega)
    simp only [rmd, List.map_cons, psum, isum] at ih ⊢
    omega
theorem getD_set_same (l : List Int) (i : Nat) (x : Int) (h : i < l.length) : (l.set i x).getD i 0 = x := by simp [h]
theorem getD_set_ne (l : List Int) (i j : Nat) (x : Int) (h : i ≠ j) : (l.set i x).getD j 0 = l.getD j 0 := by
  simp only [List.getD_eq_getElem?_getD]
  rw [List.getElem?_set_ne h]
/-- Who has got a unit beyond the whole part: those of greater remainders, the earlier ones of equal remainders, none of the remainder 0. -/
structure Got (b m : List Int) (S : Nat → Prop) (p r : List Int) : Prop where
  lp : p.length = b.length
  lr : r.length = m.length
  yes : ∀ i, i < m.length → S i → p.getD i 0 = b.getD i 0 + 1 ∧ r.getD i 0 = -1
  no : ∀ i, i < m.length → ¬ S i → p.getD i 0 = b.getD i 0 ∧ r.getD i 0 = m.getD i 0
  ord : ∀ i j, i < m.length → j < m.length → S i → ¬ S j → m.getD j 0 < m.getD i 0 ∨ m.getD j 0 = m.getD i 0 ∧ i < j
  pos : ∀ i, i < m.length → S i → 0 < m.getD i 0
theorem got_dealt {b m : List Int} {a : Int} (ha : 0 < a) (hbm : b.length = m.length) (hm : ∀ i, i < m.length → m.getD i 0 < a) (n : Nat) : ∀ (S : Nat → Prop) (p r : List Int), Got b m S p r → a * n ≤ psum r → ∃ S' r', Got b m S' (dealt n p r) r' := by
  induction n with
  | zero => intro S p r h _; exact ⟨S, r, h⟩
  | succ n ih =>
    intro S p r h hp
    have hp1 : a * n + a ≤ psum r := by rw [show ((n + 1 : Nat) : Int) = (n : Int) + 1 by omega, Int.mul_add] at hp; omega
    have hn0 : 0 ≤ a * (n : Int) := Int.mul_nonneg (by omega) (by omega)
    obtain ⟨j, hj, hjp⟩ := psum_pos (l := r) (by omega)
    obtain ⟨q, hq⟩ : ∃ q, bst r r.length = q := ⟨_, rfl⟩
    have hql : q < r.length := by rw [← hq]; exact bst_lt r _ (by omega)
    have hmx := bst_max r r.length
    rw [hq] at hmx
    have hqp : 0 < r.getD q 0 := by have := (hmx j hj).1; omega
    have hqm : q < m.length := by rw [← h.lr]; exact hql
    have hnq : ¬ S q := fun hs => by have := (h.yes q hqm hs).2; omega
    obtain ⟨hpq, hrq⟩ := h.no q hqm hnq
    rw [dealt, hq]
    refine ih (fun i => S i ∨ i = q) _ _ ⟨by simpa using h.lp, by simpa using h.lr, ?_, ?_, ?_, ?_⟩ ?_
    · intro i hi hs
      by_cases e : i = q
      · subst e
        rw [getD_set_same _ _ _ (by rw [h.lp, hbm]; exact hi), getD_set_same _ _ _ hql, hpq]
        exact ⟨rfl, rfl⟩
      · rw [getD_set_ne _ _ _ _ (fun x => e x.symm), getD_set_ne _ _ _ _ (fun x => e x.symm)]
        exact h.yes i hi (hs.resolve_right e)
    · intro i hi hs
      have e : ¬ i = q := fun e => hs (.inr e)
      rw [getD_set_ne _ _ _ _ (fun x => e x.symm), getD_set_ne _ _ _ _ (fun x => e x.symm)]
      exact h.no i hi (fun x => hs (.inl x))
    · intro i k hi hk hs hn
      rcases hs with hs | rfl
      · exact h.ord i k hi hk hs (fun x => hn (.inl x))
      · have h1 := h.no k hk (fun x => hn (.inl x))
        have h2 := hmx k (by rw [h.lr]; exact hk)
        have h3 : ¬ k = i := fun x => hn (.inr x)
        rw [h1.2, hrq] at h2
        omega
    · intro i hi hs
      rcases hs with hs | rfl
      · exact h.pos i hi hs
      · omega
    · rw [psum_set _ _ hql (by omega), hrq]
      have := hm q hqm
      omega
theorem shr_fair {t : Int} {ws l : List Int} (h : shr t ws = (l, 0)) : (∀ i, i < ws.length → ws.getD i 0 = 0 → l.getD i 0 = 0) ∧
    (∀ i k, i < ws.length → k < ws.length → ws.getD k 0 < ws.getD i 0 → l.getD k 0 ≤ l.getD i 0) ∧
    (∀ i k, i < ws.length → k < ws.length → ws.getD i 0 = ws.getD k 0 → i < k → l.getD i 0 = l.getD k 0 ∨ l.getD i 0 = l.getD k 0 + 1) ∧ (∀ i, i < ws.length → -9223372036854775808 ≤ l.getD i 0 ∧ l.getD i 0 ≤ 4611686018427387904) := by
  by_cases hc : 0 ≤ t ∧ t ≤ 1099511627776 ∧ ws.length ≤ 16 ∧ wgts ws ws.length ∧ isum ws ≠ 0
  · rw [shr_in hc] at h
    obtain ⟨h0, h1, h2, h3, h4⟩ := hc
    obtain ⟨h5, h6, h7⟩ := h3.all
    obtain ⟨a, ha⟩ : ∃ a, isum ws = a := ⟨_, rfl⟩
    have hl := left_bd (t := t) ws (by omega)
    rw [ha] at h h4 h5 h7 hl
    have hap : 0 < a := by omega
    obtain ⟨n, hn⟩ : ∃ n : Nat, t - isum (base t a ws) = n := Int.eq_ofNat_of_zero_le hl.1
    rw [hn] at h hl
    have hg : Got (base t a ws) (rmd t a ws) (fun _ => False) (base t a ws) (rmd t a ws) :=
      ⟨rfl, rfl, fun _ _ hs => hs.elim, fun _ _ _ => ⟨rfl, rfl⟩, fun _ _ _ _ hs => hs.elim, fun _ _ hs => hs.elim⟩
    obtain ⟨S, r, hS⟩ := got_dealt hap (by rw [base_length, rmd_length]) (fun i hi => by rw [rmd_getD _ _ _ _ (by rwa [rmd_length] at hi)]; exact Int.emod_lt_of_pos _ hap) n _ _ _ hg (by rw [psum_rmd hap, hl.2.2]; exact Int.le_refl _)
    rw [Int.toNat_natCast] at h
    obtain ⟨rfl, -⟩ := Prod.mk.inj h
    have key : ∀ i, i < ws.length → (S i → (dealt n (base t a ws) (rmd t a ws)).getD i 0 = t * ws.getD i 0 / a + 1 ∧ 0 < t * ws.getD i 0 % a) ∧ (¬ S i → (dealt n (base t a ws) (rmd t a ws)).getD i 0 = t * ws.getD i 0 / a) := by
      intro i hi
      refine ⟨fun hs => ?_, fun hs => ?_⟩
      · have := (hS.yes i (by rw [rmd_length]; exact hi) hs).1
        rw [base_getD _ _ _ _ hi] at this
        have h9 := hS.pos i (by rw [rmd_length]; exact hi) hs
        rw [rmd_getD _ _ _ _ hi] at h9
        exact ⟨this, h9⟩
      · have := (hS.no i (by rw [rmd_length]; exact hi) hs).1
        rwa [base_getD _ _ _ _ hi] at this
    have ord : ∀ i j, i < ws.length → j < ws.length → S i → ¬ S j → t * ws.getD j 0 % a < t * ws.getD i 0 % a ∨ t * ws.getD j 0 % a = t * ws.getD i 0 % a ∧ i < j := by
      intro i j hi hj hs hn
      have := hS.ord i j (by rw [rmd_length]; exact hi) (by rw [rmd_length]; exact hj) hs hn
      rwa [rmd_getD _ _ _ _ hi, rmd_getD _ _ _ _ hj] at this
    refine ⟨?_, ?_, ?_, ?_⟩
    · intro i hi hz
      obtain ⟨k1, k2⟩ := key i hi
      rw [hz] at k1 k2
      by_cases hs : S i
      · have := (k1 hs).2
        simp at this
      · rw [k2 hs]; simp
    · intro i k hi hk hlt
      obtain ⟨i1, i2⟩ := key i hi
      obtain ⟨k1, k2⟩ := key k hk
      have o1 := ord k i hk hi
      have m1 : t * ws.getD k 0 ≤ t * ws.getD i 0 := Int.mul_le_mul_of_nonneg_left (by omega) h0
      have m2 : t * ws.getD k 0 / a ≤ t * ws.getD i 0 / a := Int.ediv_le_ediv hap m1
      have m3 : t = 0 ∨ t * ws.getD k 0 < t * ws.getD i 0 := by
        by_cases ht : t = 0
        · exact .inl ht
        · exact .inr (Int.mul_lt_mul_of_pos_left hlt (by omega))
      have e1 := Int.mul_ediv_add_emod (t * ws.getD k 0) a
      have e2 := Int.mul_ediv_add_emod (t * ws.getD i 0) a
      by_cases hsk : S k
      · by_cases hsi : S i
        · have := (i1 hsi).1; have := (k1 hsk).1; omega
        · have hk1 := (k1 hsk)
          have hi1 := i2 hsi
          have ho := o1 hsk hsi
          rcases m3 with rfl | m3
          · simp at hk1
          · by_cases hb : t * ws.getD k 0 / a = t * ws.getD i 0 / a
            · rw [hb] at e1
              omega
            · omega
      · by_cases hsi : S i
        · have := (i1 hsi).1; have := (k2 hsk); omega
        · have := (i2 hsi); have := (k2 hsk); omega
    · intro i k hi hk he hlt
      obtain ⟨i1, i2⟩ := key i hi
      obtain ⟨k1, k2⟩ := key k hk
      have o1 := ord k i hk hi
      rw [he] at i1 i2 o1
      by_cases hsk : S k
      · by_cases hsi : S i
        · have := (i1 hsi).1; have := (k1 hsk).1; omega
        · have ho := o1 hsk hsi
          omega
      · by_cases hsi : S i
        · have := (i1 hsi).1; have := (k2 hsk); omega
        · have := (i2 hsi); have := (k2 hsk); omega
    · intro i hi
      obtain ⟨i1, i2⟩ := key i hi
      have w1 := h3 i hi
      have m1 : 0 ≤ t * ws.getD i 0 := Int.mul_nonneg h0 w1.1
      have m2 : t * ws.getD i 0 ≤ 1099511627776 * 1048576 := Int.mul_le_mul h1 w1.2 w1.1 (by omega)
      have m3 : 0 ≤ t * ws.getD i 0 / a := Int.ediv_nonneg m1 (by omega)
      have m4 : t * ws.getD i 0 / a ≤ t * ws.getD i 0 := Int.ediv_le_self _ m1
      by_cases hs : S i
      · have := (i1 hs).1; omega
      · have := i2 hs; omega
  · rw [shr_out hc] at h
    have := congrArg Prod.snd h
    simp at this
end Go.Proofs.YtplgndllfkceiaaDoor
