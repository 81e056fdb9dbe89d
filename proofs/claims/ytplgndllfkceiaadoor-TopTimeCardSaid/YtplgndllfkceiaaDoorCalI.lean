/-
  hours: THE WALK.
-/
import Derived.Test.YtplgndllfkceiaaDoorCalG
import Derived.Test.YtplgndllfkceiaaDoorCalH
namespace Go.Proofs.YtplgndllfkceiaaDoor
open Go.RowKit
theorem hours_shut {k : Cal} {d a b : Int} (h : opn k d = false) : hrs k d a b = 0 := by rw [hrs, h]; rfl
theorem hours_open {k : Cal} {d a b lo hi : Int} (h : opn k d = true) (h1 : lo = max a (d * 1440 + k.s)) (h2 : hi = min b (d * 1440 + k.e)) : hrs k d a b = max 0 (hi - lo) := by rw [hrs, if_pos h, h1, h2]
end Go.Proofs.YtplgndllfkceiaaDoor
