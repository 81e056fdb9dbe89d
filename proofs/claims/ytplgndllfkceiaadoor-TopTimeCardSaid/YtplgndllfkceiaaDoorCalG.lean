/-
  NextOpen, THE PROGRAM'S.
-/
import Derived.Test.YtplgndllfkceiaaDoorCalF
namespace Go.Proofs.YtplgndllfkceiaaDoor
open Go.RowKit
theorem week_f (K : Cal) (f : Nat → Bool) (hf : ∀ j, f j = decide ((j : Int) ∈ K.rs)) (w : World) (hk : CalIn w K) (hs : SetTo K.rs 6 K.n1) :
    Calls Tryd.prog 13 #[K.v] w fun e w' => e = .returned (.agg #[.bool (f 0), .bool (f 1), .bool (f 2), .bool (f 3), .bool (f 4), .bool (f 5), .bool (f 6)]) ∧ Below w.heap.size w w' := by
  have := week_any K w hk hs
  rw [show (fun j : Nat => decide ((j : Int) ∈ K.rs)) = f from (funext hf).symm] at this
  exact this
theorem Seven.fill (w : World) (f : Nat → Bool) (t : TypeId) : Seven (w.alloc (.cells #[.bool (f 0), .bool (f 1), .bool (f 2), .bool (f 3), .bool (f 4), .bool (f 5), .bool (f 6)] t)) w.heap.size f := by
  refine ⟨fun j hj => ?_, by simp⟩
  have : j = 0 ∨ j = 1 ∨ j = 2 ∨ j = 3 ∨ j = 4 ∨ j = 5 ∨ j = 6 := by omega
  rcases this with rfl | rfl | rfl | rfl | rfl | rfl | rfl <;> exact ⟨by simp, by simp⟩
end Go.Proofs.YtplgndllfkceiaaDoor
