/-
  After, THE REFERENCE'S.
-/
import Derived.Test.YtplgndllfkceiaaDoorCalK
namespace Go.Proofs.YtplgndllfkceiaaDoor
open Go.RowKit
noncomputable def aftR (K : Cal) (a m : Int) : Int × Int := if cerr K = 0 then if 0 ≤ a ∧ a ≤ 2880000 ∧ 0 ≤ m then if m = 0 then (a, 0) else aft K a 2000 m else (0, 1) else (0, cerr K)
theorem aftR_err {K : Cal} {a m z : Int} (hz : cerr K = z) (h : z ≠ 0) : aftR K a m = (0, z) := by rw [aftR, hz, if_neg h]
theorem aftR_out {K : Cal} {a m : Int} (hz : cerr K = 0) (h : ¬ (0 ≤ a ∧ a ≤ 2880000 ∧ 0 ≤ m)) : aftR K a m = (0, 1) := by rw [aftR, if_pos hz, if_neg h]
theorem aftR_zero {K : Cal} {a : Int} (hz : cerr K = 0) (h : 0 ≤ a ∧ a ≤ 2880000) : aftR K a 0 = (a, 0) := by rw [aftR, if_pos hz, if_pos ⟨h.1, h.2, by omega⟩, if_pos rfl]
theorem aftR_in {K : Cal} {a m : Int} (hz : cerr K = 0) (h : 0 ≤ a ∧ a ≤ 2880000) (hm : 0 < m) : aftR K a m = aft K a 2000 m := by rw [aftR, if_pos hz, if_pos ⟨h.1, h.2, by omega⟩, if_neg (by omega)]
end Go.Proofs.YtplgndllfkceiaaDoor
