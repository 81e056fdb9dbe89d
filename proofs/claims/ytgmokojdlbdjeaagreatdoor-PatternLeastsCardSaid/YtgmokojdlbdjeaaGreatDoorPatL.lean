/-
  THE LEAST PATTERN OF A PERIODIC FUNCTION, AND WHAT TABLES ARE: PLAIN.
-/
import Derived.Test.YtgmokojdlbdjeaaGreatDoorPatG
namespace Go.Proofs.YtgmokojdlbdjeaaGreatDoor
open Go.RowKit
theorem tabN_get {F : Int → Int → Int} {a t k : Nat} (hk : k < t) : (tabN F a t).getD k 0 = F ((k % a : Nat) : Int) ((k / a : Nat) : Int) := by
  unfold tabN
  simp [List.getD, hk]
/-- A table of a function with these periods has its colors. -/
theorem Base.col {F : Int → Int → Int} {a b c : Int} (h : Base F a b c) : colF ⟨a, b, c, tabN F a.toNat (a.toNat * c.toNat)⟩ = F := by
  funext x y
  have a0 := h.a0
  have c0 := h.c0
  rw [h.home x y]
  obtain ⟨g1, g2, g3, g4⟩ := home_bd (b := b) (x := x) (y := y) a0 c0
  unfold colF
  simp only
  show (tabN F a.toNat (a.toNat * c.toNat)).getD (y % c * a + homeX a b c x y).toNat 0 = F (homeX a b c x y) (y % c)
  obtain ⟨i, hi⟩ : ∃ i : Nat, homeX a b c x y = i := ⟨(homeX a b c x y).toNat, by omega⟩
  obtain ⟨j, hj⟩ : ∃ j : Nat, y % c = j := ⟨(y % c).toNat, by omega⟩
  obtain ⟨n, hn⟩ : ∃ n : Nat, a = n := ⟨a.toNat, by omega⟩
  obtain ⟨m, hm⟩ : ∃ m : Nat, c = m := ⟨c.toNat, by omega⟩
  rw [hi] at g1 g2 ⊢
  rw [hj] at g3 g4 ⊢
  subst hn
  subst hm
  have e : ((j : Int) * n + i).toNat = j * n + i := by
    rw [← Int.natCast_mul, ← Int.natCast_add, Int.toNat_natCast]
  rw [e, Int.toNat_natCast, Int.toNat_natCast]
  have hin : i < n := by omega
  have hlt : j * n + i < n * m := by
    have h1 : (j + 1) * n ≤ m * n := Nat.mul_le_mul_right n (by omega)
    rw [Nat.add_mul, Nat.one_mul, Nat.mul_comm m n] at h1
    omega
  rw [tabN_get hlt]
  have e1 : (j * n + i) % n = i := by rw [Nat.mul_comm, Nat.mul_add_mod]; exact Nat.mod_eq_of_lt hin
  have e2 : (j * n + i) / n = j := by rw [Nat.mul_comm, Nat.mul_add_div (by omega)]; rw [Nat.div_eq_of_lt hin]; rfl
  rw [e1, e2]
/-- The least pattern of a periodic function. -/
noncomputable def lst (F : Int → Int → Int) : PatD := by
  classical
  exact if h : ∃ q : Int × Int × Int, Least F q.1 q.2.1 q.2.2 then leastP F (Classical.choose h).1 (Classical.choose h).2.1 (Classical.choose h).2.2 else zeroP
theorem lst_of {F : Int → Int → Int} {a b c : Int} (h : Least F a b c) : lst F = leastP F a b c := by
  have hx : ∃ q : Int × Int × Int, Least F q.1 q.2.1 q.2.2 := ⟨(a, b, c), h⟩
  unfold lst
  rw [dif_pos hx]
  obtain ⟨h1, h2, h3⟩ := (Classical.choose_spec hx).uniq h
  rw [h1, h2, h3]
/-- The least pattern: its fields are the least basis, its colors the function's. -/
theorem Base.lst {F : Int → Int → Int} {a b c : Int} (h : Base F a b c) : Least F (lst F).a (lst F).b (lst F).c ∧ lst F = leastP F (lst F).a (lst F).b (lst F).c := by
  obtain ⟨a1, b1, c1, hl⟩ := h.least
  have e := lst_of hl
  rw [e]
  exact ⟨hl, rfl⟩
theorem Base.lst_col {F : Int → Int → Int} {a b c : Int} (h : Base F a b c) : colF (Go.Proofs.YtgmokojdlbdjeaaGreatDoor.lst F) = F := by
  obtain ⟨h1, h2⟩ := h.lst
  rw [h2]
  exact h1.toBase.col
theorem Base.lst_cells {F : Int → Int → Int} {a b c : Int} (h : Base F a b c) : (Go.Proofs.YtgmokojdlbdjeaaGreatDoor.lst F).a * (Go.Proofs.YtgmokojdlbdjeaaGreatDoor.lst F).c ≤ a * c := h.lst.1.cells h
theorem leastP_len {F : Int → Int → Int} {a b c : Int} (ha : 0 < a) (hc : 0 < c) : a * c = ((leastP F a b c).xs.length : Int) := by
  show a * c = ((tabN F a.toNat (a.toNat * c.toNat)).length : Int)
  rw [tabN_length, Int.natCast_mul]
  rw [show ((a.toNat : Nat) : Int) = a by omega, show ((c.toNat : Nat) : Int) = c by omega]
theorem tabN_mem {F : Int → Int → Int} {a t : Nat} {x : Int} (h : x ∈ tabN F a t) : ∃ u v, x = F u v := by
  unfold tabN at h
  obtain ⟨k, -, rfl⟩ := List.mem_map.1 h
  exact ⟨_, _, rfl⟩
/-- The colors of a function. -/
def Cols (F : Int → Int → Int) : Prop := ∀ x y, 0 ≤ F x y ∧ F x y < 8
theorem GoodP.cols {p : PatD} (h : GoodP p) : Cols (colF p) := fun x y => by
  unfold colF
  have h8 : ∀ i, 0 ≤ p.xs.getD i 0 ∧ p.xs.getD i 0 < 8 := fun i => by
    rw [List.getD]
    cases e : p.xs[i]? with
    | none => exact ⟨Int.le_refl 0, by simp⟩
    | some z => exact h.col z (List.mem_of_getElem? e)
  exact h8 _
/-- A least pattern that is small enough is valid. -/
theorem Base.good {F : Int → Int → Int} {a b c : Int} (h : Base F a b c) (hs : (Go.Proofs.YtgmokojdlbdjeaaGreatDoor.lst F).a * (Go.Proofs.YtgmokojdlbdjeaaGreatDoor.lst F).c ≤ 144) (hc : Cols F) : GoodP (Go.Proofs.YtgmokojdlbdjeaaGreatDoor.lst F) := by
  obtain ⟨h1, h2⟩ := h.lst
  have a0 := h1.a0
  have c0 := h1.c0
  have l1 : (Go.Proofs.YtgmokojdlbdjeaaGreatDoor.lst F).a * 1 ≤ (Go.Proofs.YtgmokojdlbdjeaaGreatDoor.lst F).a * (Go.Proofs.YtgmokojdlbdjeaaGreatDoor.lst F).c := Int.mul_le_mul_of_nonneg_left (by omega) (by omega)
  have l2 : 1 * (Go.Proofs.YtgmokojdlbdjeaaGreatDoor.lst F).c ≤ (Go.Proofs.YtgmokojdlbdjeaaGreatDoor.lst F).a * (Go.Proofs.YtgmokojdlbdjeaaGreatDoor.lst F).c := Int.mul_le_mul_of_nonneg_right (by omega) (by omega)
  refine ⟨a0, by omega, h1.b0, h1.b1, c0, by omega, hs, ?_, fun x hx => ?_⟩
  · rw [h2]; exact leastP_len a0 c0
  · rw [h2] at hx
    obtain ⟨u, v, rfl⟩ := tabN_mem hx
    exact hc u v
theorem GoodP.val {p : PatD} (h : GoodP p) : valP p = 0 := by
  obtain ⟨a0, a1, b0, b1, c0, c1, ac, len, col⟩ := h
  unfold valP
  rw [if_neg (by omega), if_neg (by omega), if_neg]
  rintro (h | h)
  · exact h len.symm
  · rw [List.any_eq_true] at h
    obtain ⟨x, hx, hb⟩ := h
    have := col x hx
    simp only [badC, Bool.or_eq_true, decide_eq_true_eq] at hb
    omega
/-- What is said of a pattern: nothing if it is not valid. -/
noncomputable def lstO (p : PatD) : PatD := if valP p ≠ 0 then zeroP else lst (colF p)
theorem leastO_lst {p : PatD} {a1 b1 c1 : Int} (h : LeastOf p a1 b1 c1) : leastO p a1 b1 c1 = lstO p := by
  unfold leastO lstO
  by_cases hv : valP p = 0
  · rw [if_neg (by simp [hv]), if_neg (by simp [hv]), lst_of (h hv)]
  · rw [if_pos hv, if_pos hv]
end Go.Proofs.YtgmokojdlbdjeaaGreatDoor
