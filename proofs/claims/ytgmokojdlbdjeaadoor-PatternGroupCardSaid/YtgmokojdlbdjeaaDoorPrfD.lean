/-
  THE REFERENCE: Validate, Least, Equal.
-/
import Derived.Test.YtgmokojdlbdjeaaDoorPrfC
namespace Go.Proofs.YtgmokojdlbdjeaaDoor
open Go.RowKit
theorem badC_within (x : Int) : (decide (0 ≤ x) && decide (x ≤ 7)) = !badC x := by
  unfold badC
  by_cases h1 : x < 0
  · rw [decide_eq_false (by omega : ¬ 0 ≤ x), decide_eq_true h1]; rfl
  · rw [decide_eq_true (by omega : 0 ≤ x), decide_eq_false h1]
    by_cases h2 : 8 ≤ x
    · rw [decide_eq_true h2, decide_eq_false (by omega : ¬ x ≤ 7)]; rfl
    · rw [decide_eq_false h2, decide_eq_true (by omega : x ≤ 7)]; rfl
theorem leastO_ok {p : PatD} {a1 b1 c1 : Int} (h : valP p = 0) : leastO p a1 b1 c1 = leastP (colF p) a1 b1 c1 := by
  unfold leastO
  rw [if_neg (by rw [h]; simp)]
end Go.Proofs.YtgmokojdlbdjeaaDoor
