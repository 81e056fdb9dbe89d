/-
  HOW MANY PATHS, HOW DEEP: PLAIN.
-/
import Derived.Test.YtdgmpaijpjkeoaaLotP
namespace Go.Proofs.Ytdgmpaijpjkeoaa
/-- A table whose values are made of the earlier ones. -/
def tab (F : Nat → (Nat → Int) → Int) : Nat → List Int
  | 0 => []
  | k + 1 => tab F k ++ [F k (fun j => (tab F k).getD j 0)]
def tabV (F : Nat → (Nat → Int) → Int) (i : Nat) : Int := F i (fun j => (tab F i).getD j 0)
theorem tab_length (F : Nat → (Nat → Int) → Int) (k : Nat) : (tab F k).length = k := by
  induction k with
  | zero => rfl
  | succ k ih => simp [tab, ih]
theorem tab_get (F : Nat → (Nat → Int) → Int) {j k : Nat} (h : j < k) : (tab F k).getD j 0 = tabV F j := by
  induction k with
  | zero => omega
  | succ k ih =>
    simp only [tab]
    rw [List.getD_eq_getElem?_getD]
    by_cases hj : j < k
    · rw [List.getElem?_append_left (by rw [tab_length]; exact hj), ← List.getD_eq_getElem?_getD]
      exact ih hj
    · obtain rfl : j = k := by omega
      rw [List.getElem?_append_right (by rw [tab_length]; exact Nat.le_refl _), tab_length, Nat.sub_self]
      rfl
theorem tabV_eq {F : Nat → (Nat → Int) → Int} {i : Nat} (h : ∀ f g : Nat → Int, (∀ j, j < i → f j = g j) → F i f = F i g) : tabV F i = F i (tabV F) := h _ _ fun _ hj => tab_get F hj
/-- The row of n values, of which those before k are made, and k is in work. -/
def rowT (V : Nat → Int) (P : Nat → Nat → Int) (n k m : Nat) : List Int := (List.range n).map fun j => if j < k then V j else if j = k then P k m else 0
section
variable {V : Nat → Int} {P : Nat → Nat → Int} {n k m : Nat}
theorem rowT_length : (rowT V P n k m).length = n := by simp [rowT]
theorem rowT_get {j : Nat} (hj : j < n) : (rowT V P n k m).getD j 0 = if j < k then V j else if j = k then P k m else 0 := by
  unfold rowT
  rw [List.getD_eq_getElem?_getD, List.getElem?_map, List.getElem?_range hj]
  rfl
theorem rowT_lt {j : Nat} (hj : j < n) (h : j < k) : (rowT V P n k m).getD j 0 = V j := by rw [rowT_get hj, if_pos h]
theorem rowT_at (hk : k < n) : (rowT V P n k m).getD k 0 = P k m := by rw [rowT_get hk, if_neg (by omega), if_pos rfl]
theorem rowT_set {m' : Nat} {x : Int} (hx : P k m' = x) : (rowT V P n k m).set k x = rowT V P n k m' := by
  apply List.ext_getElem?
  intro j
  rw [List.getElem?_set]
  unfold rowT
  by_cases hj : j < n
  · by_cases h : k = j
    · subst h
      rw [if_pos rfl, if_pos (by simpa using hj), List.getElem?_map, List.getElem?_range hj]
      simp [hx]
    · rw [if_neg h, List.getElem?_map, List.getElem?_map, List.getElem?_range hj]
      by_cases h2 : j < k
      · simp [h2]
      · simp [h2, show ¬ j = k from fun e => h e.symm]
  · rw [List.getElem?_eq_none (by simpa using hj)]
    by_cases h : k = j
    · subst h; rw [if_pos rfl, if_neg (by simpa using hj), List.getElem?_eq_none (by simpa using hj)]
    · rw [if_neg h, List.getElem?_eq_none (by simpa using hj)]
theorem rowT_end (h1 : P k m = V k) (h2 : P (k + 1) 0 = 0) : rowT V P n k m = rowT V P n (k + 1) 0 := by
  apply List.map_congr_left
  intro j _
  by_cases h : j < k
  · rw [if_pos h, if_pos (by omega)]
  · rw [if_neg h]
    by_cases h3 : j = k
    · subst h3; rw [if_pos rfl, if_pos (by omega), h1]
    · rw [if_neg h3, if_neg (by omega)]
      by_cases h4 : j = k + 1
      · rw [if_pos h4, h2]
      · rw [if_neg h4]
theorem rowT_start (h0 : P 0 0 = 0) : rowT V P n 0 0 = List.replicate n 0 := by
  apply List.ext_getElem?
  intro j
  unfold rowT
  rw [List.getElem?_map, List.getElem?_replicate]
  by_cases hj : j < n
  · rw [List.getElem?_range hj, if_pos hj]
    by_cases h : j = 0
    · subst h; simp [h0]
    · simp [h]
  · rw [List.getElem?_eq_none (by simpa using hj), if_neg hj]
    rfl
end
/-- The number of paths from the lot of to the lot i. -/
def pathF (l : List LotD) (of i : Nat) (f : Nat → Int) : Int := if i = of then 1 else if of < i then ((l.getD i default).parts.map fun p => f p.1.toNat).sum else 0
def pathV (l : List LotD) (of i : Nat) : Int := tabV (pathF l of) i
def pathP (l : List LotD) (of k m : Nat) : Int := (((l.getD k default).parts.take m).map fun p => pathV l of p.1.toNat).sum
def depF (l : List LotD) (i : Nat) (f : Nat → Int) : Int := (l.getD i default).parts.foldl (fun a p => max a (f p.1.toNat + 1)) 0
def depV (l : List LotD) (i : Nat) : Int := tabV (depF l) i
def depP (l : List LotD) (k m : Nat) : Int := ((l.getD k default).parts.take m).foldl (fun a p => max a (depV l p.1.toNat + 1)) 0
theorem foldl_congr' {α β : Type} (ps : List α) (f g : β → α → β) (h : ∀ a, ∀ p ∈ ps, f a p = g a p) (b : β) : ps.foldl f b = ps.foldl g b := by
  induction ps generalizing b with
  | nil => rfl
  | cons p r ih =>
    rw [List.foldl_cons, List.foldl_cons, h b p (by simp), ih fun a q hq => h a q (by simp [hq])]
section
variable {l : List LotD} (hg : GoodAll l) {of k m : Nat}
include hg
theorem part_lt {i : Nat} {p : Int × Int} (h : p ∈ (l.getD i default).parts) : p.1.toNat < i := by
  have := part_good hg h
  omega
theorem pathV_eq (i : Nat) : pathV l of i = pathF l of i (pathV l of) := tabV_eq fun f g h => by
  unfold pathF
  rw [show ((l.getD i default).parts.map fun p => f p.1.toNat) = ((l.getD i default).parts.map fun p => g p.1.toNat) from List.map_congr_left fun p hp => h _ (part_lt hg hp)]
theorem depV_eq (i : Nat) : depV l i = depF l i (depV l) := tabV_eq fun f g h => by
  unfold depF
  exact foldl_congr' _ _ _ (fun a p hp => by rw [h _ (part_lt hg hp)]) _
theorem path_full (h : of < k) : pathP l of k (l.getD k default).parts.length = pathV l of k := by
  rw [pathV_eq hg, pathF, if_neg (by omega), if_pos h, pathP, List.take_length]
theorem dep_full : depP l k (l.getD k default).parts.length = depV l k := by
  rw [depV_eq hg, depF, depP, List.take_length]
theorem path_of : pathV l of of = 1 := by rw [pathV_eq hg, pathF, if_pos rfl]
theorem path_low (h : k < of) : pathV l of k = 0 := by rw [pathV_eq hg, pathF, if_neg (by omega), if_neg (by omega)]
omit hg in
theorem path_step (hk : k < l.length) (hm : m < l[k].parts.length) : pathP l of k (m + 1) = pathP l of k m + pathV l of (l[k].parts[m]).1.toNat := by
  unfold pathP
  rw [getD_at' hk, List.take_succ_eq_append_getElem hm]
  simp only [List.map_append, List.sum_append, List.map_cons, List.map_nil, List.sum_cons, List.sum_nil, Int.add_zero]
omit hg in
theorem path_step' (hk : k < l.length) : ∀ (m : Nat) (p : Int × Int), l[k].parts[m]? = some p → pathP l of k (m + 1) = pathP l of k m + pathV l of p.1.toNat := fun m p h => by
  obtain ⟨hm, rfl⟩ := List.getElem?_eq_some_iff.1 h
  exact path_step hk hm
omit hg in
theorem dep_step (hk : k < l.length) (hm : m < l[k].parts.length) : depP l k (m + 1) = max (depP l k m) (depV l (l[k].parts[m]).1.toNat + 1) := by
  unfold depP
  rw [getD_at' hk, List.take_succ_eq_append_getElem hm, List.foldl_append]
  rfl
omit hg in
theorem dep_step' (hk : k < l.length) : ∀ (m : Nat) (p : Int × Int), l[k].parts[m]? = some p → depP l k (m + 1) = max (depP l k m) (depV l p.1.toNat + 1) := fun m p h => by
  obtain ⟨hm, rfl⟩ := List.getElem?_eq_some_iff.1 h
  exact dep_step hk hm
omit hg in
theorem sum_bd {α : Type} (ps : List α) (f : α → Int) (B : Int) (h : ∀ p ∈ ps, 0 ≤ f p ∧ f p ≤ B) : 0 ≤ (ps.map f).sum ∧ (ps.map f).sum ≤ ps.length * B := by
  induction ps with
  | nil => simp
  | cons p r ih =>
    have h1 := h p (by simp)
    have h2 := ih fun q hq => h q (by simp [hq])
    rw [List.map_cons, List.sum_cons, List.length_cons, Int.natCast_add, Int.add_mul]
    simp only [Int.natCast_one, Int.one_mul]
    omega
theorem path_pow (i : Nat) : 0 ≤ pathV l of i ∧ pathV l of i ≤ 6 ^ i := by
  induction i using Nat.strongRecOn with
  | ind i ih =>
    have hpos : ∀ j : Nat, (1 : Int) ≤ 6 ^ j := fun j => by
      have := Nat.pow_pos (n := j) (show 0 < 6 by decide)
      exact_mod_cast this
    rw [pathV_eq hg, pathF]
    split
    · exact ⟨by omega, hpos i⟩
    · split
      · rename_i h1 h2
        obtain ⟨j, rfl⟩ : ∃ j, i = j + 1 := ⟨i - 1, by omega⟩
        have hm : ∀ a, a < j + 1 → (6 : Int) ^ a ≤ 6 ^ j := fun a ha => by
          have := Nat.pow_le_pow_right (show 0 < 6 by decide) (show a ≤ j by omega)
          exact_mod_cast this
        have hs := sum_bd (l.getD (j + 1) default).parts (fun p => pathV l of p.1.toNat) (6 ^ j) fun p hp => by
          have := part_lt hg hp
          have := ih _ this
          have := hm _ (part_lt hg hp)
          omega
        have hlen := plen_good hg (j + 1)
        refine ⟨hs.1, Int.le_trans hs.2 ?_⟩
        rw [Int.pow_succ, Int.mul_comm]
        exact Int.mul_le_mul_of_nonneg_left (by omega) (by have := hpos j; omega)
      · exact ⟨by omega, by have := hpos i; omega⟩
theorem path_bd {i : Nat} (hi : i ≤ 23) : 0 ≤ pathV l of i ∧ pathV l of i ≤ 789730223053602816 := by
  have h := path_pow hg (of := of) i
  refine ⟨h.1, Int.le_trans h.2 ?_⟩
  have := Nat.pow_le_pow_right (show 0 < 6 by decide) hi
  have e : (6 : Nat) ^ 23 = 789730223053602816 := by decide +kernel
  rw [e] at this
  have h2 := Int.ofNat_le.2 this
  rw [Int.natCast_pow] at h2
  exact h2
theorem pathP_bd (hk : k ≤ 23) : 0 ≤ pathP l of k m ∧ pathP l of k m ≤ 4738381338321616896 := by
  have hs := sum_bd ((l.getD k default).parts.take m) (fun p => pathV l of p.1.toNat) 789730223053602816 fun p hp => by
    have := part_lt hg (List.mem_of_mem_take hp)
    exact path_bd hg (by omega)
  have hlen := plen_good hg k
  rw [List.length_take] at hs
  exact ⟨hs.1, Int.le_trans hs.2 (by omega)⟩
omit hg in
theorem max_bd {α : Type} (ps : List α) (f : α → Int) (B : Int) (h : ∀ p ∈ ps, 0 ≤ f p ∧ f p + 1 ≤ B) (b : Int) (hb : 0 ≤ b ∧ b ≤ B) : 0 ≤ ps.foldl (fun a p => max a (f p + 1)) b ∧ ps.foldl (fun a p => max a (f p + 1)) b ≤ B := by
  induction ps generalizing b with
  | nil => exact hb
  | cons p r ih =>
    have h1 := h p (by simp)
    rw [List.foldl_cons]
    exact ih (fun q hq => h q (by simp [hq])) _ (by omega)
theorem dep_bd (i : Nat) : 0 ≤ depV l i ∧ depV l i ≤ i := by
  induction i using Nat.strongRecOn with
  | ind i ih =>
    rw [depV_eq hg, depF]
    have key : ∀ p ∈ (l.getD i default).parts, 0 ≤ depV l p.1.toNat ∧ depV l p.1.toNat + 1 ≤ (i : Int) := fun p hp => by
      have h1 := part_lt hg hp
      have h2 := ih _ h1
      generalize depV l p.1.toNat = d at *
      omega
    have hi : (0 : Int) ≤ 0 ∧ (0 : Int) ≤ (i : Int) := ⟨by omega, by omega⟩
    exact max_bd (l.getD i default).parts (fun p => depV l p.1.toNat) (i : Int) key 0 hi
theorem depP_bd : 0 ≤ depP l k m ∧ depP l k m ≤ k := by
  have key : ∀ p ∈ (l.getD k default).parts.take m, 0 ≤ depV l p.1.toNat ∧ depV l p.1.toNat + 1 ≤ (k : Int) := fun p hp => by
    have h1 := part_lt hg (List.mem_of_mem_take hp)
    have h2 := dep_bd hg p.1.toNat
    generalize depV l p.1.toNat = d at *
    omega
  have hi : (0 : Int) ≤ 0 ∧ (0 : Int) ≤ (k : Int) := ⟨by omega, by omega⟩
  exact max_bd ((l.getD k default).parts.take m) (fun p => depV l p.1.toNat) (k : Int) key 0 hi
theorem path_start (hof : of < l.length) : (List.replicate l.length (0 : Int)).set of 1 = rowT (pathV l of) (pathP l of) l.length (of + 1) 0 := by
  apply List.ext_getElem?
  intro j
  rw [List.getElem?_set]
  unfold rowT
  by_cases hj : j < l.length
  · rw [List.getElem?_map, List.getElem?_range hj, List.getElem?_replicate, if_pos hj, List.length_replicate]
    by_cases h : of = j
    · subst h
      rw [if_pos rfl, if_pos hj]
      simp [path_of hg]
    · rw [if_neg h]
      by_cases h2 : j < of
      · simp [path_low hg h2, show j < of + 1 by omega]
      · simp [show ¬ j < of + 1 by omega]
        intro h3
        simp [pathP]
  · rw [List.getElem?_eq_none (by simpa using hj), if_neg (by omega), List.getElem?_eq_none (by simpa using hj)]
end
def pathsE (l : List LotD) (of i : Int) : Int × Int := if chkE l [of, i] ≠ 0 then (0, chkE l [of, i]) else (pathV l of.toNat i.toNat, 0)
def depthE (l : List LotD) (n : Int) : Int × Int := if chkE l [n] ≠ 0 then (0, chkE l [n]) else (depV l n.toNat, 0)
end Go.Proofs.Ytdgmpaijpjkeoaa
