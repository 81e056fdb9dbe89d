/-
  NextOpen, THE PROGRAM'S AND THE REFERENCE'S.
-/
import Derived.Test.YtplgndllfkceiaaDoorCalE
namespace Go.Proofs.YtplgndllfkceiaaDoor
open Go.RowKit
attribute [local go_sem] grow_cell grow_frozen
/-- The first open day behind 2000 - n days. -/
def nxt (K : Cal) : Nat → Int × Int
  | 0 => (0, 4)
  | n + 1 => if opn K ((2000 - (n + 1) : Nat) : Int) = true then (((2000 - (n + 1) : Nat) : Int), 0) else nxt K n
theorem nxt_step {K : Cal} {d : Nat} {p z : Int} (hd : d < 2000) (h : nxt K (2000 - d) = (p, z)) : (opn K d = true → ((d : Int), (0 : Int)) = (p, z)) ∧ (opn K d = false → nxt K (2000 - (d + 1)) = (p, z)) := by
  have h1 : 2000 - d = (2000 - (d + 1)) + 1 := by omega
  rw [h1, nxt] at h
  have h2 : 2000 - (2000 - (d + 1) + 1) = d := by omega
  rw [h2] at h
  constructor
  · intro ho; rw [if_pos ho] at h; exact h
  · intro ho; rw [if_neg (by rw [ho]; simp)] at h; exact h
noncomputable def nxtR (K : Cal) (day : Int) : Int × Int := if cerr K = 0 then if 0 ≤ day ∧ day ≤ 1999 then nxt K (2000 - day.toNat) else (0, 1) else (0, cerr K)
theorem nxtR_err {K : Cal} {day : Int} {z : Int} (hz : cerr K = z) (h : z ≠ 0) : nxtR K day = (0, z) := by rw [nxtR, hz, if_neg h]
theorem nxtR_out {K : Cal} {day : Int} (hz : cerr K = 0) (h : ¬ (0 ≤ day ∧ day ≤ 1999)) : nxtR K day = (0, 1) := by rw [nxtR, if_pos hz, if_neg h]
theorem nxtR_in {K : Cal} {day : Int} (hz : cerr K = 0) (h : 0 ≤ day ∧ day ≤ 1999) : nxtR K day = nxt K (2000 - day.toNat) := by rw [nxtR, if_pos hz, if_pos h]
end Go.Proofs.YtplgndllfkceiaaDoor
