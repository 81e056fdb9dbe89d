/-
  THE WALKS OF THE PROGRAM'S AND THE REFERENCE'S SMALL FUNCTIONS ON FRACTIONS: absolute values, greatest common divisors.
-/
import Derived.Test.YtgmokojdlbdjeaaDoorProg
import Derived.WalkKit
import Derived.WalkLawsBesides
import Derived.Handy
import Derived.Lib.Hide
import Derived.Deep.QuietTactic
import Derived.BigQuiet
import Derived.Test.YtgmokojdlbdjeaaDoorNumM
namespace Go.Proofs.YtgmokojdlbdjeaaDoor
open Go.RowKit
theorem ret_int {k : IntKind} {a b : Int} (h : a = b) : Ending.returned (.int k a) = .returned (.int k b) := by rw [h]
theorem gcd_mod_nat (a b : Nat) : Nat.gcd b (a % b) = Nat.gcd a b := by
  rw [Nat.gcd_comm b (a % b), ← Nat.gcd_rec, Nat.gcd_comm]
end Go.Proofs.YtgmokojdlbdjeaaDoor
