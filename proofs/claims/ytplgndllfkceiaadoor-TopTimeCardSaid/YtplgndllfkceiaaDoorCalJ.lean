/-
  Working, THE PROGRAM'S AND THE REFERENCE'S.
-/
import Derived.Test.YtplgndllfkceiaaDoorCalI
namespace Go.Proofs.YtplgndllfkceiaaDoor
open Go.RowKit
noncomputable def wrk (K : Cal) (a b : Int) : Int × Int := if cerr K = 0 then if 0 ≤ a ∧ a ≤ b ∧ b ≤ 2880000 then (total K a b 2000, 0) else (0, 1) else (0, cerr K)
theorem wrk_err {K : Cal} {a b z : Int} (hz : cerr K = z) (h : z ≠ 0) : wrk K a b = (0, z) := by rw [wrk, hz, if_neg h]
theorem wrk_out {K : Cal} {a b : Int} (hz : cerr K = 0) (h : ¬ (0 ≤ a ∧ a ≤ b ∧ b ≤ 2880000)) : wrk K a b = (0, 1) := by rw [wrk, if_pos hz, if_neg h]
theorem wrk_in {K : Cal} {a b : Int} (hz : cerr K = 0) (h : 0 ≤ a ∧ a ≤ b ∧ b ≤ 2880000) : wrk K a b = (total K a b 2000, 0) := by rw [wrk, if_pos hz, if_pos h]
theorem total_succ (K : Cal) (a b : Int) (n : Nat) : total K a b (n + 1) = total K a b n + hrs K n a b := rfl
end Go.Proofs.YtplgndllfkceiaaDoor
