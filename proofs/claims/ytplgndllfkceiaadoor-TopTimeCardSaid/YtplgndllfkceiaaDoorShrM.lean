/-
  SHARING A TOTAL BY WEIGHTS: PLAIN. The first round gives whole parts; the units that are left go, one by one, to the greatest remainder, the earliest one of equal ones.
-/
import Derived.Test.YtplgndllfkceiaaDoorProg
namespace Go.Proofs.YtplgndllfkceiaaDoor
/-- The place of the greatest of the first k numbers, the first one of equal ones. -/
def bst (r : List Int) : Nat → Nat
  | 0 => 0
  | k + 1 => if r.getD (bst r k) 0 < r.getD k 0 then k else bst r k
theorem bst_le (r : List Int) (k : Nat) : bst r k ≤ k := by
  induction k with
  | zero => simp [bst]
  | succ k ih => simp only [bst]; split <;> omega
theorem bst_lt (r : List Int) (k : Nat) (h : 0 < k) : bst r k < k := by
  cases k with
  | zero => omega
  | succ k =>
    have := bst_le r k
    simp only [bst]; split <;> omega
theorem bst_one (r : List Int) : bst r 1 = 0 := by simp [bst]
theorem bst_max (r : List Int) (k : Nat) : ∀ j, j < k → r.getD j 0 ≤ r.getD (bst r k) 0 ∧ (j < bst r k → r.getD j 0 < r.getD (bst r k) 0) := by
  induction k with
  | zero => intro j hj; omega
  | succ k ih =>
    intro j hj
    simp only [bst]
    split
    · rename_i h
      rcases Nat.lt_succ_iff_lt_or_eq.1 hj with h' | rfl
      · have := ih j h'; omega
      · omega
    · rename_i h
      rcases Nat.lt_succ_iff_lt_or_eq.1 hj with h' | rfl
      · exact ih j h'
      · have := bst_le r j
        omega
/-- n units go to the best ones. -/
def dealt : Nat → List Int → List Int → List Int
  | 0, p, _ => p
  | n + 1, p, r => dealt n (p.set (bst r r.length) (p.getD (bst r r.length) 0 + 1)) (r.set (bst r r.length) (-1))
def isum : List Int → Int
  | [] => 0
  | x :: l => x + isum l
theorem isum_append (a b : List Int) : isum (a ++ b) = isum a + isum b := by
  induction a with
  | nil => simp [isum]
  | cons x a ih => simp only [List.cons_append, isum, ih]; omega
theorem isum_take (l : List Int) (k : Nat) (h : k < l.length) : isum (l.take (k + 1)) = isum (l.take k) + l.getD k 0 := by
  rw [List.take_succ_eq_append_getElem h, isum_append]
  simp [isum, h]
theorem isum_set (l : List Int) (i : Nat) (h : i < l.length) (x : Int) : isum (l.set i x) = isum l + (x - l.getD i 0) := by
  induction l generalizing i with
  | nil => simp at h
  | cons y l ih =>
    cases i with
    | zero => simp only [List.set_cons_zero, isum, List.getD_cons_zero]; omega
    | succ i =>
      simp only [List.set_cons_succ, isum, List.getD_cons_succ]
      rw [ih i (by simpa using h)]; omega
/-- All weights are in range. -/
def wgts (ws : List Int) : Nat → Prop := fun k => ∀ i, i < k → 0 ≤ ws.getD i 0 ∧ ws.getD i 0 ≤ 1048576
theorem wgts.succ {ws : List Int} {k : Nat} (h : wgts ws k) (h1 : 0 ≤ ws.getD k 0) (h2 : ws.getD k 0 ≤ 1048576) : wgts ws (k + 1) := by
  intro i hi
  rcases Nat.lt_succ_iff_lt_or_eq.1 hi with h' | rfl
  · exact h i h'
  · exact ⟨h1, h2⟩
theorem wgts.sum {ws : List Int} {k : Nat} (h : wgts ws k) (hk : k ≤ ws.length) : 0 ≤ isum (ws.take k) ∧ isum (ws.take k) ≤ 1048576 * k := by
  induction k with
  | zero => simp [isum]
  | succ k ih =>
    rw [isum_take ws k (by omega)]
    have := ih (fun i hi => h i (by omega)) (by omega)
    have := h k (by omega)
    omega
theorem wgts.le_sum {ws : List Int} {k : Nat} (h : wgts ws k) (hk : k ≤ ws.length) (i : Nat) (hi : i < k) : ws.getD i 0 ≤ isum (ws.take k) := by
  induction k with
  | zero => omega
  | succ k ih =>
    rw [isum_take ws k (by omega)]
    have h2 := wgts.sum (k := k) (fun i hi => h i (by omega)) (by omega)
    have h3 := h k (by omega)
    rcases Nat.lt_succ_iff_lt_or_eq.1 hi with h' | rfl
    · have := ih (fun i hi => h i (by omega)) (by omega) h'
      omega
    · omega
def base (t a : Int) (ws : List Int) : List Int := ws.map fun w => t * w / a
def rmd (t a : Int) (ws : List Int) : List Int := ws.map fun w => t * w % a
theorem base_getD (t a : Int) (ws : List Int) (i : Nat) (h : i < ws.length) : (base t a ws).getD i 0 = t * ws.getD i 0 / a := by simp [base, h]
theorem rmd_getD (t a : Int) (ws : List Int) (i : Nat) (h : i < ws.length) : (rmd t a ws).getD i 0 = t * ws.getD i 0 % a := by simp [rmd, h]
theorem base_snoc (t a : Int) (ws : List Int) (k : Nat) (h : k < ws.length) : base t a (ws.take (k + 1)) = base t a (ws.take k) ++ [t * ws.getD k 0 / a] := by
  rw [List.take_succ_eq_append_getElem h, base, List.map_append, List.map_cons, List.map_nil, show ws.getD k 0 = ws[k] by simp [h]]; rfl
theorem rmd_snoc (t a : Int) (ws : List Int) (k : Nat) (h : k < ws.length) : rmd t a (ws.take (k + 1)) = rmd t a (ws.take k) ++ [t * ws.getD k 0 % a] := by
  rw [List.take_succ_eq_append_getElem h, rmd, List.map_append, List.map_cons, List.map_nil, show ws.getD k 0 = ws[k] by simp [h]]; rfl
theorem base_length (t a : Int) (ws : List Int) : (base t a ws).length = ws.length := by simp [base]
theorem rmd_length (t a : Int) (ws : List Int) : (rmd t a ws).length = ws.length := by simp [rmd]
/-- a times what was dealt, and the remainders, are what there is. -/
theorem base_rmd (t a : Int) (ws : List Int) : a * isum (base t a ws) + isum (rmd t a ws) = t * isum ws := by
  induction ws with
  | nil => simp [base, rmd, isum]
  | cons w ws ih =>
    have := Int.mul_ediv_add_emod (t * w) a
    simp only [base, rmd, List.map_cons, isum] at ih ⊢
    rw [Int.mul_add, Int.mul_add]
    omega
theorem rmd_bd {t a : Int} (ha : 0 < a) (ws : List Int) : 0 ≤ isum (rmd t a ws) ∧ isum (rmd t a ws) ≤ (a - 1) * ws.length := by
  induction ws with
  | nil => simp [rmd, isum]
  | cons w ws ih =>
    have h1 := Int.emod_nonneg (t * w) (show a ≠ 0 by omega)
    have h2 := Int.emod_lt_of_pos (t * w) ha
    simp only [rmd, List.map_cons, isum, List.length_cons] at ih ⊢
    rw [show ((ws.length + 1 : Nat) : Int) = (ws.length : Int) + 1 by omega, Int.mul_add]
    omega
/-- What is left behind the whole parts is from 0 to fewer than there are weights. -/
theorem left_bd {t : Int} (ws : List Int) (ha : 0 < isum ws) : 0 ≤ t - isum (base t (isum ws) ws) ∧ t - isum (base t (isum ws) ws) ≤ ws.length ∧ isum (rmd t (isum ws) ws) = isum ws * (t - isum (base t (isum ws) ws)) := by
  have h := base_rmd t (isum ws) ws
  have hb := rmd_bd (t := t) ha ws
  have e : isum (rmd t (isum ws) ws) = isum ws * (t - isum (base t (isum ws) ws)) := by rw [Int.mul_sub, Int.mul_comm (isum ws) t]; omega
  refine ⟨?_, ?_, e⟩
  · have h1 : 0 ≤ isum ws * (t - isum (base t (isum ws) ws)) := by omega
    exact Int.nonneg_of_mul_nonneg_right h1 ha
  · have h1 : isum ws * (t - isum (base t (isum ws) ws)) ≤ isum ws * ws.length := by
      have : (isum ws - 1) * (ws.length : Int) ≤ isum ws * ws.length := Int.mul_le_mul_of_nonneg_right (by omega) (by omega)
      omega
    exact Int.le_of_mul_le_mul_left h1 ha
theorem base_take_bd {t : Int} {ws : List Int} {a : Int} (ha : isum ws = a) (hap : 0 < a) (ht : 0 ≤ t) (hw : wgts ws ws.length) (m : Nat) (hm : m ≤ ws.length) : 0 ≤ isum (base t a (ws.take m)) ∧ isum (base t a (ws.take m)) ≤ t := by
  have h1 := base_rmd t a (ws.take m)
  have h2 := (rmd_bd (t := t) hap (ws.take m)).1
  have h3 : isum (ws.take m) ≤ a := by
    rw [← ha]
    have := isum_append (ws.take m) (ws.drop m)
    rw [List.take_append_drop] at this
    have h4 : ∀ l : List Int, (∀ x ∈ l, 0 ≤ x) → 0 ≤ isum l := by
      intro l
      induction l with
      | nil => intro _; simp [isum]
      | cons x l ih =>
        intro h
        have := h x (by simp)
        have := ih (fun y hy => h y (by simp [hy]))
        simp only [isum]; omega
    have h5 := h4 (ws.drop m) (fun x hx => by
      obtain ⟨i, hi, rfl⟩ := List.getElem_of_mem (List.mem_of_mem_drop hx)
      have := (hw i hi).1
      simpa [hi] using this)
    omega
  have h6 : t * isum (ws.take m) ≤ t * a := Int.mul_le_mul_of_nonneg_left h3 ht
  refine ⟨?_, Int.le_of_mul_le_mul_left (by rw [Int.mul_comm a t]; omega) hap⟩
  clear h1 h2 h3 h6
  induction m with
  | zero => simp [base, isum]
  | succ m ih =>
    rw [base_snoc _ _ _ _ (by omega), isum_append]
    have := ih (by omega)
    have h1 : 0 ≤ t * ws.getD m 0 := Int.mul_nonneg ht (hw m (by omega)).1
    have h2 : 0 ≤ t * ws.getD m 0 / a := Int.ediv_nonneg h1 (by omega)
    simp only [isum]; omega
noncomputable def shr (t : Int) (ws : List Int) : List Int × Int :=
  open Classical in
  if 0 ≤ t ∧ t ≤ 1099511627776 ∧ ws.length ≤ 16 ∧ wgts ws ws.length ∧ isum ws ≠ 0 then (dealt (t - isum (base t (isum ws) ws)).toNat (base t (isum ws) ws) (rmd t (isum ws) ws), 0) else ([], 1)
theorem shr_in {t : Int} {ws : List Int} (h : 0 ≤ t ∧ t ≤ 1099511627776 ∧ ws.length ≤ 16 ∧ wgts ws ws.length ∧ isum ws ≠ 0) : shr t ws = (dealt (t - isum (base t (isum ws) ws)).toNat (base t (isum ws) ws) (rmd t (isum ws) ws), 0) := by rw [shr, if_pos h]
theorem shr_out {t : Int} {ws : List Int} (h : ¬ (0 ≤ t ∧ t ≤ 1099511627776 ∧ ws.length ≤ 16 ∧ wgts ws ws.length ∧ isum ws ≠ 0)) : shr t ws = ([], 1) := by rw [shr, if_neg h]
theorem dealt_length (n : Nat) (p r : List Int) : (dealt n p r).length = p.length := by
  induction n generalizing p r with
  | zero => rfl
  | succ n ih => rw [dealt, ih]; simp
theorem dealt_sum (n : Nat) (p r : List Int) (hl : p.length = r.length) (hr : 0 < r.length) : isum (dealt n p r) = isum p + n := by
  induction n generalizing p r with
  | zero => simp [dealt]
  | succ n ih =>
    rw [dealt, ih _ _ (by simp [hl]) (by simpa using hr), isum_set _ _ (by rw [hl]; exact bst_lt r _ hr)]
    omega
theorem isum_pos_length {ws : List Int} (h : isum ws ≠ 0) : 0 < ws.length := by
  cases ws with
  | nil => simp [isum] at h
  | cons => simp
theorem wgts.all {ws : List Int} (h : wgts ws ws.length) : 0 ≤ isum ws ∧ isum ws ≤ 1048576 * ws.length ∧ ∀ i, i < ws.length → ws.getD i 0 ≤ isum ws := by
  have h1 := wgts.sum h (Nat.le_refl _)
  have h2 := wgts.le_sum h (Nat.le_refl _)
  rw [List.take_length] at h1 h2
  exact ⟨h1.1, h1.2, h2⟩
/-- What is shared adds up to the total. -/
theorem shr_sum {t : Int} {ws l : List Int} (h : shr t ws = (l, 0)) : isum l = t ∧ l.length = ws.length := by
  by_cases hc : 0 ≤ t ∧ t ≤ 1099511627776 ∧ ws.length ≤ 16 ∧ wgts ws ws.length ∧ isum ws ≠ 0
  · rw [shr_in hc] at h
    obtain ⟨h0, h1, h2, h3, h4⟩ := hc
    have h5 := h3.all
    have h6 := left_bd (t := t) ws (by omega)
    obtain rfl : _ = l := congrArg Prod.fst h
    rw [dealt_sum _ _ _ (by rw [base_length, rmd_length]) (by rw [rmd_length]; exact isum_pos_length h4), dealt_length, base_length]
    exact ⟨by omega, rfl⟩
  · rw [shr_out hc] at h
    have := congrArg Prod.snd h
    simp at this
end Go.Proofs.YtplgndllfkceiaaDoor
