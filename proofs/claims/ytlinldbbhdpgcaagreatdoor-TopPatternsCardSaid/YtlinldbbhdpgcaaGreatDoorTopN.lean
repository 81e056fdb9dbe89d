/-
  TopPatterns: what it says at its end; its own check: PLAIN.
-/
import Derived.Test.YtlinldbbhdpgcaaGreatDoorTopM
import Derived.Test.YtlinldbbhdpgcaaGreatDoorAlgA
namespace Go.Proofs.YtlinldbbhdpgcaaGreatDoor
open Go.RowKit
def topK : ByteArray := ⟨#[103, 114, 105, 100, 32, 49, 32, 48, 32, 49, 32, 51]⟩
theorem top_expr : exprO 12 (wordsS topK) = some (.leaf (txt [103, 114, 105, 100]) [1, 0, 1] [3], []) := by kernel_rfl
theorem top_known : (prsT topK).2 = 0 ∧ (prsT topK).1.a = 1 ∧ (prsT topK).1.xs.length = 1 := by
  have h : prsT topK = valX (.leaf (txt [103, 114, 105, 100]) [1, 0, 1] [3]) := prsT_yes (by decide) top_expr
  rw [h]
  simp only [valX]
  have e : leafP (txt [103, 114, 105, 100]) [1, 0, 1] [3] = ⟨1, 0, 1, [3]⟩ := by unfold leafP; rw [if_pos rfl]; rfl
  rw [e]
  have hv : valP ⟨1, 0, 1, [3]⟩ = 0 := by decide
  have hg := valP_zero hv
  have hl := lstO_good hv
  have hc : (lstO ⟨1, 0, 1, [3]⟩).a * (lstO ⟨1, 0, 1, [3]⟩).c ≤ 1 := by
    rw [lstO_zero hv]
    exact (col_base hg.ok).lst_cells
  have h1 := hl.a0
  have h2 := hl.c0
  have ha : (lstO ⟨1, 0, 1, [3]⟩).a = 1 := by
    rcases Int.lt_or_le 1 (lstO ⟨1, 0, 1, [3]⟩).a with h | h
    · have := Int.mul_le_mul_of_nonneg_left (show 1 ≤ (lstO ⟨1, 0, 1, [3]⟩).c by omega) (show 0 ≤ (lstO ⟨1, 0, 1, [3]⟩).a by omega)
      omega
    · omega
  have hlen := hl.len
  rw [ha, Int.one_mul] at hc hlen
  exact ⟨hv, ha, by omega⟩
/-- A pattern that is the other one is found to be it by some shift. -/
theorem same_found {p q : PatD} (hz : twoZ p q = 0) (hs : colF p = colF q) {x y : Int} {f : Bool} (h : AlS p q x y f) : f = true := by
  rcases h with ⟨-, -, -, h⟩ | ⟨h, -⟩
  · exfalso
    obtain ⟨hv1, hv2⟩ := twoZ_zero hz
    have hg := lstO_good hv1
    rw [lstO_zero hv1] at hg
    have a0 := hg.a0
    have c0 := hg.c0
    refine h ⟨hz, by rw [hs], by rw [hs], by rw [hs]⟩ 0 0 ⟨by simpa using a0, by simpa using c0, ?_⟩
    funext u v
    unfold shiftF
    simp [hs]
  · exact h
theorem lstO_iff {p q : PatD} (h : valP p = 0) (k : valP q = 0) : lstO p = lstO q ↔ colF p = colF q := by
  constructor
  · intro e
    rw [← lst_colF h, ← lst_colF k, e]
  · intro e
    rw [lstO_zero h, lstO_zero k, e]
theorem fmt_val {p : PatD} (h : valP p = 0) : fmtT p = (⟨(formT (lstO p)).toArray⟩, 0) := by unfold fmtT; rw [if_pos h]
/-- What TopPatterns says at its end. -/
theorem top_final {p q : PatD} (h : valP p = 0) (k : valP q = 0) {x y : Int} {f : Bool} (hs : AlS p q x y f) {S R : ByteArray} (hS : S = ⟨(formT (lstO p)).toArray⟩) (hR : R = ⟨(formT (lstO q)).toArray⟩) :
    (S.toList == R.toList) = samT p q ∧ (samT p q = true → f = true) ∧ chkP p [x, y] = 0 ∧ (fmtT (shiftT p x y)).2 = 0 ∧ (f = true → (fmtT (shiftT p x y)).1 = R) := by
  have hz : twoZ p q = 0 := by unfold twoZ; rw [if_neg (by simp [h]), k]
  have e1 : (S.toList == R.toList) = decide (S = R) := by
    rw [Lib.toList_data, Lib.toList_data]
    by_cases he : S = R
    · rw [decide_eq_true he, he]; simp
    · rw [decide_eq_false he, beq_eq_false_iff_ne]
      intro e
      exact he (ByteArray.ext (Array.ext' e))
  have e2 : S = R ↔ colF p = colF q := by
    rw [← lstO_iff h k, ← form_inj h k, hS, hR]
    constructor
    · intro e
      have := congrArg (fun s : ByteArray => s.data.toList) e
      simpa using this
    · intro e; rw [e]
  have hc : chkP p [x, y] = 0 := by
    cases f with
    | true =>
      obtain ⟨he, x0, x1, y0, y1, -⟩ := hs.in
      have hg := lstO_good h
      rw [lstO_zero h] at hg
      have a1 := hg.a1
      have c1 := hg.c1
      unfold chkP
      rw [if_neg (by simp [h]), if_neg]
      simp only [List.any_cons, List.any_nil, Bool.or_false, Bool.or_eq_true, farC, decide_eq_true_eq]
      omega
    | false =>
      obtain ⟨rfl, rfl⟩ := hs.non
      unfold chkP
      rw [if_neg (by simp [h]), if_neg]
      simp only [List.any_cons, List.any_nil, Bool.or_false, Bool.or_eq_true, farC, decide_eq_true_eq]
      omega
  obtain ⟨g1, g2⟩ := oShift hc
  have hv := g1.val
  refine ⟨?_, fun e => same_found hz ((samT_iff hz).1 e) hs, hc, by rw [fmt_val hv], fun e => ?_⟩
  · rw [e1, Bool.eq_iff_iff, decide_eq_true_eq, e2, samT_iff hz]
  · subst e
    obtain ⟨-, -, -, -, -, hxy⟩ := hs.in
    rw [fmt_val hv, hR]
    have : lstO (shiftT p x y) = lstO q := (lstO_iff hv k).2 (by rw [g2]; exact hxy)
    rw [this]
end Go.Proofs.YtlinldbbhdpgcaaGreatDoor
