/-
  IsOpen AND NextOpen, THE PROGRAM'S AND THE REFERENCE'S.
-/
import Derived.Test.YtplgndllfkceiaaDoorCalD
namespace Go.Proofs.YtplgndllfkceiaaDoor
open Go.RowKit
attribute [local go_sem] grow_cell grow_frozen
theorem ret_bi {a b : Bool} {c d : Int} (h : (b, d) = (a, c)) : Ending.returned (.tuple #[.bool a, .int .i64 c]) = .returned (.tuple #[.bool b, .int .i64 d]) := by
  simp only [Prod.mk.injEq] at h
  obtain ⟨rfl, rfl⟩ := h
  rfl
theorem ret_ii {a b c d : Int} (h : (b, d) = (a, c)) : Ending.returned (.tuple #[.int .i64 a, .int .i64 c]) = .returned (.tuple #[.int .i64 b, .int .i64 d]) := by
  simp only [Prod.mk.injEq] at h
  obtain ⟨rfl, rfl⟩ := h
  rfl
theorem errne {z : Int} (h : z ≠ 0) : (z != 0) = true := by simpa using h
noncomputable def isO (K : Cal) (day : Int) : Bool × Int := if cerr K = 0 then if 0 ≤ day ∧ day ≤ 1999 then (opn K day, 0) else (false, 1) else (false, cerr K)
theorem isO_err {K : Cal} {day : Int} {z : Int} (hz : cerr K = z) (h : z ≠ 0) : isO K day = (false, z) := by rw [isO, hz, if_neg h]
theorem isO_out {K : Cal} {day : Int} (hz : cerr K = 0) (h : ¬ (0 ≤ day ∧ day ≤ 1999)) : isO K day = (false, 1) := by rw [isO, if_pos hz, if_neg h]
theorem isO_in {K : Cal} {day : Int} (hz : cerr K = 0) (h : 0 ≤ day ∧ day ≤ 1999) : isO K day = (opn K day, 0) := by rw [isO, if_pos hz, if_pos h]
theorem rest_set {K : Cal} {w : World} (hk : CalIn w K) (hz : cerr K = 0) : SetTo K.rs 6 K.n1 := by
  have := (cerr_zero hz).2.1
  rwa [hk.l1.1] at this
end Go.Proofs.YtplgndllfkceiaaDoor
