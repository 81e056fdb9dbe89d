/-
  WHICH LOTS ARE IN WHICH: PLAIN.
-/
import Derived.Test.YtdgmpaijpjkeoaaPthM
import Derived.Test.YtdgmpaijpjkeoaaKndM
import Derived.Test.YtdgmpaijpjkeoaaCmpA
namespace Go.Proofs.Ytdgmpaijpjkeoaa
open Go.RowKit
/-- The lot j has a share above 0 in the lot m. -/
def elB (l : List LotD) (j m : Nat) : Bool := decide (0 < fN l j m)
section
variable {l : List LotD} (hg : GoodAll l)
include hg
theorem psN_pos {m : Nat} : ∀ p ∈ psN l m, 0 < p.2 := by
  intro p hp
  unfold psN at hp
  obtain ⟨q, hq, rfl⟩ := List.mem_map.1 hp
  have := part_good hg hq
  simp only []
  omega
theorem elB_refl (m : Nat) : elB l m m = true := by
  unfold elB
  rw [decide_eq_true_eq, show fN l m m = Pr (tN l) 0 (m + 1) from NN_of (psN_lt hg m) rfl]
  exact Pr_pos (tN_pos hg) _ _
theorem elB_low {j m : Nat} (h : m < j) : elB l j m = false := by
  unfold elB
  rw [decide_eq_false_iff_not, show fN l j m = 0 from NN_low (psN_lt hg m) h]
  omega
omit hg in
theorem sum_pos_iff {α : Type} (f : α → Nat) : ∀ ps : List α, 0 < (ps.map f).sum ↔ ∃ p ∈ ps, 0 < f p
  | [] => by simp
  | p :: ps => by
    rw [List.map_cons, List.sum_cons]
    have := sum_pos_iff f ps
    constructor
    · intro h
      by_cases hp : 0 < f p
      · exact ⟨p, by simp, hp⟩
      · obtain ⟨q, hq, h2⟩ := this.1 (by omega)
        exact ⟨q, by simp [hq], h2⟩
    · rintro ⟨q, hq, h2⟩
      rcases List.mem_cons.1 hq with rfl | hq
      · omega
      · have := this.2 ⟨q, hq, h2⟩
        omega
theorem elB_iff {j m : Nat} : elB l j m = true ↔ j = m ∨ ∃ p ∈ psN l m, elB l j p.1 = true := by
  by_cases h : j = m
  · subst h
    exact ⟨fun _ => .inl rfl, fun _ => elB_refl hg j⟩
  · unfold elB
    simp only [decide_eq_true_eq]
    rw [show fN l j m = _ from NN_parts (psN_lt hg) h, sum_pos_iff]
    constructor
    · rintro ⟨p, hp, h1⟩
      refine .inr ⟨p, hp, ?_⟩
      exact Nat.pos_of_mul_pos_right (Nat.pos_of_mul_pos_right h1)
    · rintro (h1 | ⟨p, hp, h1⟩)
      · exact absurd h1 h
      · exact ⟨p, hp, Nat.mul_pos (Nat.mul_pos h1 (psN_pos hg p hp)) (Pr_pos (tN_pos hg) _ _)⟩
theorem elB_trans {j v m : Nat} (h1 : elB l j v = true) (h2 : elB l v m = true) : elB l j m = true := by
  induction m using Nat.strongRecOn with
  | _ m ih =>
    rcases (elB_iff hg).1 h2 with rfl | ⟨p, hp, h3⟩
    · exact h1
    · exact (elB_iff hg).2 (.inr ⟨p, hp, ih p.1 (psN_lt hg m p hp) h3⟩)
/-- .. read from below. -/
theorem elB_iff' {j m : Nat} : elB l j m = true ↔ j = m ∨ ∃ v, v ≤ m ∧ elB l v m = true ∧ ∃ p ∈ psN l v, p.1 = j := by
  constructor
  · induction m using Nat.strongRecOn with
    | _ m ih =>
      intro h
      rcases (elB_iff hg).1 h with rfl | ⟨p, hp, h3⟩
      · exact .inl rfl
      · have hlt := psN_lt hg m p hp
        rcases ih p.1 hlt h3 with rfl | ⟨v, hv, h4, h5⟩
        · exact .inr ⟨m, Nat.le_refl _, elB_refl hg m, p, hp, rfl⟩
        · exact .inr ⟨v, by omega, (elB_iff hg).2 (.inr ⟨p, hp, h4⟩), h5⟩
  · rintro (rfl | ⟨v, -, h4, p, hp, rfl⟩)
    · exact elB_refl hg _
    · exact elB_trans hg ((elB_iff hg).2 (.inr ⟨p, hp, elB_refl hg _⟩)) h4
end
/-- All that have a share in what is marked is marked, as to the lots up to i. -/
def Closed (l : List LotD) (B : Nat → Bool) (i : Nat) : Prop := ∀ v, v ≤ i → B v = true → ∀ j, elB l j v = true → B j = true
/-- With i, and what is in the first m parts of i. -/
def visB (l : List LotD) (B : Nat → Bool) (i m : Nat) (j : Nat) : Bool := B j || decide (j = i) || ((psN l i).take m).any fun p => elB l j p.1
section
variable {l : List LotD} (hg : GoodAll l) {B : Nat → Bool} {i m : Nat}
include hg
theorem visB_closed (h : Closed l B i) : ∀ q, q < i → Closed l (visB l B i m) q := by
  intro q hq v hv hb j hj
  unfold visB at hb ⊢
  simp only [Bool.or_eq_true, decide_eq_true_eq, List.any_eq_true] at hb ⊢
  rcases hb with (hb | hb) | ⟨p, hp, hb⟩
  · exact .inl (.inl (h v (by omega) hb j hj))
  · omega
  · exact .inr ⟨p, hp, elB_trans hg hj hb⟩
theorem visB_done (hm : (psN l i).length ≤ m) : visB l B i m = fun j => B j || elB l j i := by
  funext j
  unfold visB
  rw [List.take_of_length_le hm, Bool.or_assoc]
  congr 1
  have := elB_iff hg (j := j) (m := i)
  by_cases h : elB l j i = true
  · rw [h]
    simp only [Bool.or_eq_true, decide_eq_true_eq, List.any_eq_true]
    exact this.1 h
  · have h1 : elB l j i = false := by simpa using h
    rw [h1, Bool.or_eq_false_iff]
    refine ⟨decide_eq_false (fun e => h (this.2 (.inl e))), ?_⟩
    rw [List.any_eq_false]
    exact fun p hp hb => h (this.2 (.inr ⟨p, hp, hb⟩))
omit hg in
theorem visB_start : visB l B i 0 = fun j => B j || decide (j = i) := by
  funext j
  simp [visB]
omit hg in
theorem visB_step {p : Nat × Nat} (hp : (psN l i)[m]? = some p) : visB l B i (m + 1) = fun j => visB l B i m j || elB l j p.1 := by
  obtain ⟨hm, rfl⟩ := List.getElem?_eq_some_iff.1 hp
  funext j
  unfold visB
  rw [List.take_succ_eq_append_getElem hm, List.any_append]
  simp [Bool.or_assoc]
omit hg in
theorem closed_skip (h : Closed l B i) (hb : B i = true) : (fun j => B j || elB l j i) = B := by
  funext j
  by_cases he : elB l j i = true
  · rw [h i (Nat.le_refl _) hb j he]; rfl
  · rw [show elB l j i = false by simpa using he, Bool.or_false]
theorem closed_or (h : ∀ q, Closed l B q) (x : Nat) : ∀ q, Closed l (fun j => B j || elB l j x) q := by
  intro q v _ hb j hj
  simp only [Bool.or_eq_true] at hb ⊢
  rcases hb with hb | hb
  · exact .inl (h v v (Nat.le_refl _) hb j hj)
  · exact .inr (elB_trans hg hj hb)
end
/-- What is in one of some lots. -/
def oldB (l : List LotD) (xs : List Int) (j : Nat) : Bool := xs.any fun x => elB l j x.toNat
theorem oldB_snoc (l : List LotD) (xs : List Int) (x : Int) : oldB l (xs ++ [x]) = fun j => oldB l xs j || elB l j x.toNat := by
  funext j
  simp [oldB]
theorem oldB_closed {l : List LotD} (hg : GoodAll l) (xs : List Int) : ∀ q, Closed l (oldB l xs) q := by
  intro q v _ hb j hj
  unfold oldB at hb ⊢
  rw [List.any_eq_true] at hb ⊢
  obtain ⟨x, hx, h⟩ := hb
  exact ⟨x, hx, elB_trans hg hj h⟩
/-- The marks of n lots. -/
def rowB (n : Nat) (B : Nat → Bool) : List Bool := (List.range n).map B
theorem rowB_length (n : Nat) (B : Nat → Bool) : (rowB n B).length = n := by simp [rowB]
theorem rowB_get {n : Nat} {B : Nat → Bool} {j : Nat} (h : j < n) : (rowB n B).getD j false = B j := by simp [rowB, h]
theorem rowB_set {n : Nat} {B B' : Nat → Bool} {i : Nat} (h : ∀ j, B' j = if j = i then true else B j) : (rowB n B).set i true = rowB n B' := by
  apply List.ext_getElem?
  intro j
  rw [List.getElem?_set]
  unfold rowB
  rw [List.getElem?_map, List.getElem?_map, List.length_map, List.length_range]
  by_cases hj : j < n
  · rw [List.getElem?_range hj]
    by_cases hij : i = j
    · subst hij; rw [if_pos rfl, if_pos hj]; simp [h]
    · rw [if_neg hij]; simp [h, Ne.symm hij]
  · rw [List.getElem?_eq_none (by simpa using hj)]
    by_cases hij : i = j
    · subst hij; rw [if_pos rfl, if_neg hj]; rfl
    · rw [if_neg hij]; rfl
/-- The numbers of those that are marked. -/
def selL (P : Nat → Bool) (k : Nat) : List Int := ((List.range k).filter P).map fun j : Nat => (j : Int)
theorem selL_yes {P : Nat → Bool} {k : Nat} (h : P k = true) : selL P (k + 1) = selL P k ++ [(k : Int)] := by simp [selL, List.range_succ, h]
theorem selL_no {P : Nat → Bool} {k : Nat} (h : P k = false) : selL P (k + 1) = selL P k := by simp [selL, List.range_succ, h]
theorem selL_none {P : Nat → Bool} {k : Nat} (h : ∀ j, j < k → P j = false) : selL P k = [] := by
  unfold selL
  rw [List.map_eq_nil_iff, List.filter_eq_nil_iff]
  intro j hj
  rw [h j (by simpa using hj)]
  simp
theorem selL_length (P : Nat → Bool) (k : Nat) : (selL P k).length ≤ k := by
  unfold selL
  rw [List.length_map]
  exact Nat.le_trans (List.length_filter_le _ _) (by simp)
theorem mem_selL {P : Nat → Bool} {k : Nat} {x : Int} : x ∈ selL P k ↔ ∃ j : Nat, j < k ∧ P j = true ∧ x = j := by
  unfold selL
  simp only [List.mem_map, List.mem_filter, List.mem_range]
  constructor
  · rintro ⟨j, ⟨h1, h2⟩, rfl⟩; exact ⟨j, h1, h2, rfl⟩
  · rintro ⟨j, h1, h2, rfl⟩; exact ⟨j, ⟨h1, h2⟩, rfl⟩
/-- The answers of Sources and of Descend. -/
def srcP (l : List LotD) (i : Nat) (j : Nat) : Bool := elB l j i && decide ((l.getD j default).parts.length = 0)
def srcE (l : List LotD) (i : Int) : List Int × Int := if chkE l [i] ≠ 0 then ([], chkE l [i]) else (selL (srcP l i.toNat) l.length, 0)
def desP (l : List LotD) (of : Nat) (i : Nat) : Bool := decide (of < i) && elB l of i
def desE (l : List LotD) (of : Int) : List Int × Int := if chkE l [of] ≠ 0 then ([], chkE l [of]) else (selL (desP l of.toNat) l.length, 0)
/- The reference: from the last lot on. -/
def insB (l : List LotD) (B : Nat → Bool) : Nat → Nat → Bool
  | 0 => B
  | k + 1 => fun j => insB l B k j || (insB l B k (l.length - 1 - k) && (psN l (l.length - 1 - k)).any fun p => p.1 == j)
/-- What is in one of the marked lots. -/
def resB (l : List LotD) (B : Nat → Bool) (j : Nat) : Bool := (List.range l.length).any fun m => B m && elB l j m
section
variable {l : List LotD} (hg : GoodAll l) {B : Nat → Bool}
include hg
theorem resB_iff {j : Nat} (hj : j < l.length) : resB l B j = true ↔ B j = true ∨ ∃ v, v < l.length ∧ resB l B v = true ∧ ∃ p ∈ psN l v, p.1 = j := by
  unfold resB
  simp only [List.any_eq_true, List.mem_range, Bool.and_eq_true]
  constructor
  · rintro ⟨m, hm, hb, he⟩
    rcases (elB_iff' hg).1 he with rfl | ⟨v, hv, h1, h2⟩
    · exact .inl hb
    · exact .inr ⟨v, by omega, ⟨m, hm, hb, h1⟩, h2⟩
  · rintro (hb | ⟨v, hv, ⟨m, hm, hb, h1⟩, h2⟩)
    · exact ⟨j, hj, hb, elB_refl hg j⟩
    · obtain ⟨p, hp, rfl⟩ := h2
      exact ⟨m, hm, hb, elB_trans hg ((elB_iff hg).2 (.inr ⟨p, hp, elB_refl hg _⟩)) h1⟩
theorem insB_iff : ∀ k, k ≤ l.length → ∀ j, j < l.length → (insB l B k j = true ↔ B j = true ∨ ∃ v, l.length - k ≤ v ∧ v < l.length ∧ resB l B v = true ∧ ∃ p ∈ psN l v, p.1 = j)
  | 0, _, j, _ => by
    simp only [insB]
    exact ⟨fun h => .inl h, fun h => h.elim id (fun ⟨v, h1, h2, _⟩ => by omega)⟩
  | k + 1, hk, j, hj => by
    have ih := insB_iff k (by omega)
    obtain ⟨i, hi⟩ : ∃ i, i = l.length - 1 - k := ⟨_, rfl⟩
    have hii : i < l.length := by omega
    have hri : insB l B k i = true ↔ resB l B i = true := by
      rw [ih i hii, resB_iff hg hii]
      constructor
      · rintro (h | ⟨v, -, h2, h3⟩)
        · exact .inl h
        · exact .inr ⟨v, h2, h3⟩
      · rintro (h | ⟨v, h2, h3, p, hp, he⟩)
        · exact .inl h
        · refine .inr ⟨v, ?_, h2, h3, p, hp, he⟩
          have := psN_lt hg v p hp
          omega
    simp only [insB, ← hi, Bool.or_eq_true, Bool.and_eq_true, List.any_eq_true, beq_iff_eq]
    rw [ih j hj, hri]
    constructor
    · rintro ((h | ⟨v, h1, h2, h3⟩) | ⟨h1, h2⟩)
      · exact .inl h
      · exact .inr ⟨v, by omega, h2, h3⟩
      · exact .inr ⟨i, by omega, hii, h1, h2⟩
    · rintro (h | ⟨v, h1, h2, h3, h4⟩)
      · exact .inl (.inl h)
      · by_cases hv : v = i
        · subst hv; exact .inr ⟨h3, h4⟩
        · exact .inl (.inr ⟨v, by omega, h2, h3, h4⟩)
theorem insB_res {j : Nat} (hj : j < l.length) : insB l B l.length j = resB l B j := by
  have h1 := insB_iff hg (B := B) l.length (Nat.le_refl _) j hj
  have h2 := resB_iff hg (B := B) hj
  rw [Nat.sub_self] at h1
  have h3 : insB l B l.length j = true ↔ resB l B j = true := by
    rw [h1, h2]
    constructor
    · rintro (h | ⟨v, -, h⟩)
      · exact .inl h
      · exact .inr ⟨v, h⟩
    · rintro (h | ⟨v, h⟩)
      · exact .inl h
      · exact .inr ⟨v, by omega, h⟩
  exact Bool.eq_iff_iff.2 h3
omit hg in
theorem resB_one {i : Nat} (hi : i < l.length) (j : Nat) : resB l (fun m => decide (m = i)) j = elB l j i := by
  unfold resB
  refine Bool.eq_iff_iff.2 ?_
  simp only [List.any_eq_true, List.mem_range, Bool.and_eq_true, decide_eq_true_eq]
  exact ⟨fun ⟨m, _, h1, h2⟩ => h1 ▸ h2, fun h => ⟨i, hi, rfl, h⟩⟩
/-- There is a path where there is a share. -/
theorem path_pos {of i : Nat} : 0 ≤ pathV l of i ∧ (0 < pathV l of i ↔ elB l of i = true) := by
  induction i using Nat.strongRecOn with
  | _ i ih =>
    rcases Nat.lt_trichotomy i of with h | h | h
    · rw [path_low hg h, elB_low hg h]
      simp
    · subst h
      rw [path_of hg, elB_refl hg]
      simp
    · have hsum : ∀ ps : List (Int × Int), (∀ p ∈ ps, p.1.toNat < i) → 0 ≤ (ps.map fun p => pathV l of p.1.toNat).sum ∧ (0 < (ps.map fun p => pathV l of p.1.toNat).sum ↔ ∃ p ∈ ps, elB l of p.1.toNat = true) := by
        intro ps
        induction ps with
        | nil => intro _; simp
        | cons p ps ihp =>
          intro hh
          obtain ⟨h1, h2⟩ := ihp (fun q hq => hh q (by simp [hq]))
          obtain ⟨h3, h4⟩ := ih p.1.toNat (hh p (by simp))
          rw [List.map_cons, List.sum_cons]
          refine ⟨by omega, ?_⟩
          constructor
          · intro hp
            by_cases h5 : 0 < pathV l of p.1.toNat
            · exact ⟨p, by simp, h4.1 h5⟩
            · obtain ⟨q, hq, h6⟩ := h2.1 (by omega)
              exact ⟨q, by simp [hq], h6⟩
          · rintro ⟨q, hq, h6⟩
            rcases List.mem_cons.1 hq with rfl | hq
            · have := h4.2 h6; omega
            · have := h2.2 ⟨q, hq, h6⟩; omega
      have := hsum (l.getD i default).parts (fun p hp => part_lt hg hp)
      rw [pathV_eq hg, pathF, if_neg (by omega), if_pos h]
      refine ⟨this.1, this.2.trans ?_⟩
      rw [elB_iff hg]
      constructor
      · rintro ⟨p, hp, h6⟩
        exact .inr ⟨(p.1.toNat, p.2.toNat), by unfold psN; exact List.mem_map.2 ⟨p, hp, rfl⟩, h6⟩
      · rintro (h6 | ⟨p, hp, h6⟩)
        · omega
        · unfold psN at hp
          obtain ⟨q, hq, rfl⟩ := List.mem_map.1 hp
          exact ⟨q, hq, h6⟩
omit hg in
theorem ag_zero {of i : Nat} : 0 < agE l of i 0 1 ↔ elB l of i = true := by
  unfold agE elB cmpN
  rw [if_neg (by omega)]
  simp only [decide_eq_true_eq]
  rw [show ((1 : Int).toNat) = 1 from rfl, show ((0 : Int).toNat) = 0 from rfl, Nat.mul_one, Nat.mul_zero]
  split
  · omega
  · split
    · constructor <;> intro <;> omega
    · constructor <;> intro h <;> omega
end
end Go.Proofs.Ytdgmpaijpjkeoaa
