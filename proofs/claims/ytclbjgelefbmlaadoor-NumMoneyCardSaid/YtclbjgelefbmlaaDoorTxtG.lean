/-
  WHAT THE TEXT OF A FRACTION IS READ AS: PLAIN.
-/
import Derived.Test.YtclbjgelefbmlaaDoorTxtF
namespace Go.Proofs.YtclbjgelefbmlaaDoor
open Go.RowKit Go.Lib
theorem itoa_no_slash (n : Int) : (47 : UInt8) ∉ itoa n := by
  unfold itoa
  intro h
  split at h
  · rcases List.mem_cons.1 h with h | h
    · exact absurd h (by decide)
    · have := dec_all _ _ h; simp at this
  · have := dec_all _ _ h; simp at this
theorem splitL_none {b : UInt8} {l : List UInt8} (h : b ∉ l) : splitL b l = [l] := by
  induction l with
  | nil => rfl
  | cons c r ih =>
    simp only [List.mem_cons, not_or] at h
    have hc : ¬ c = b := fun e => h.1 e.symm
    simp only [splitL, if_neg hc, ih h.2]
theorem splitL_app {b : UInt8} {l : List UInt8} (h : b ∉ l) (r : List UInt8) : splitL b (l ++ b :: r) = l :: splitL b r := by
  induction l with
  | nil => simp [splitL]
  | cons c l ih =>
    simp only [List.mem_cons, not_or] at h
    have hc : ¬ c = b := fun e => h.1 e.symm
    simp only [List.cons_append, splitL, if_neg hc, ih h.2]
theorem split_fmt_one (n : Int) : splitL 47 (fmtR n 1) = [itoa n] := by rw [fmtR_one]; exact splitL_none (itoa_no_slash n)
theorem split_fmt_two {n d : Int} (h : d ≠ 1) : splitL 47 (fmtR n d) = [itoa n, itoa d] := by
  rw [fmtR_two h, splitL_app (itoa_no_slash n), splitL_none (itoa_no_slash d)]
/-- What a text is read as: the valid fraction whose text it is, or the error. -/
def PrsR (t : List UInt8) (n d z : Int) : Prop := (z = 0 ∧ vld n d = true ∧ fmtR n d = t) ∨ (z = 3 ∧ n = 0 ∧ d = 0 ∧ ∀ a b, vld a b = true → fmtR a b ≠ t)
theorem vld_bds {n d : Int} (h : vld n d = true) : 1 ≤ d ∧ d ≤ 1048576 ∧ -1099511627776 ≤ n ∧ n ≤ 1099511627776 := by
  have := vld_iff.1 h
  exact ⟨this.1, this.2.1, this.2.2.1, this.2.2.2.1⟩
theorem fmtR_inj {a b c d : Int} (h1 : vld a b = true) (h2 : vld c d = true) (h : fmtR a b = fmtR c d) : a = c ∧ b = d := by
  have g1 := vld_bds h1
  have g2 := vld_bds h2
  have hs : splitL 47 (fmtR a b) = splitL 47 (fmtR c d) := by rw [h]
  by_cases e1 : b = 1
  · subst e1
    by_cases e2 : d = 1
    · subst e2
      rw [split_fmt_one, split_fmt_one] at hs
      exact ⟨itoa_inj (by omega) (by omega) (by omega) (by omega) (List.cons.inj hs).1, rfl⟩
    · rw [split_fmt_one, split_fmt_two e2] at hs
      simp at hs
  · by_cases e2 : d = 1
    · subst e2
      rw [split_fmt_one, split_fmt_two e1] at hs
      simp at hs
    · rw [split_fmt_two e1, split_fmt_two e2] at hs
      obtain ⟨i1, i2⟩ := List.cons.inj hs
      exact ⟨itoa_inj (by omega) (by omega) (by omega) (by omega) i1, itoa_inj (by omega) (by omega) (by omega) (by omega) (List.cons.inj i2).1⟩
theorem PrsR.unique {t : List UInt8} {n d z a b y : Int} (h1 : PrsR t n d z) (h2 : PrsR t a b y) : n = a ∧ d = b ∧ z = y := by
  rcases h1 with ⟨rfl, v1, f1⟩ | ⟨rfl, rfl, rfl, g1⟩
  · rcases h2 with ⟨rfl, v2, f2⟩ | ⟨rfl, rfl, rfl, g2⟩
    · obtain ⟨rfl, rfl⟩ := fmtR_inj v1 v2 (f1.trans f2.symm)
      exact ⟨rfl, rfl, rfl⟩
    · exact absurd f1 (g2 _ _ v1)
  · rcases h2 with ⟨rfl, v2, f2⟩ | ⟨rfl, rfl, rfl, g2⟩
    · exact absurd f2 (g1 _ _ v2)
    · exact ⟨rfl, rfl, rfl⟩
end Go.Proofs.YtclbjgelefbmlaaDoor
