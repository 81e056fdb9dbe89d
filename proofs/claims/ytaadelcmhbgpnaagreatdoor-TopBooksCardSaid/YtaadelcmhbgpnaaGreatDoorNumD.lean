/-
  THE WALKS OF THE REFERENCE'S build AND Make.
-/
import Derived.Test.YtaadelcmhbgpnaaGreatDoorNumB
namespace Go.Proofs.YtaadelcmhbgpnaaGreatDoor
open Go.RowKit
theorem mkN_int (neg : Bool) (n d : Nat) : mkN neg n d = if 1099511627776 < (n : Int) / ((Nat.gcd n d : Nat) : Int) ∨ 1048576 < (d : Int) / ((Nat.gcd n d : Nat) : Int) then (0, 0, 4)
    else if neg = true then (-((n : Int) / ((Nat.gcd n d : Nat) : Int)), (d : Int) / ((Nat.gcd n d : Nat) : Int), 0)
    else ((n : Int) / ((Nat.gcd n d : Nat) : Int), (d : Int) / ((Nat.gcd n d : Nat) : Int), 0) := by
  unfold mkN
  generalize Nat.gcd n d = g
  rw [← Int.natCast_ediv, ← Int.natCast_ediv]
  generalize n / g = a
  generalize d / g = b
  by_cases h : 1099511627776 < a ∨ 1048576 < b
  · have h' : 1099511627776 < (a : Int) ∨ 1048576 < (b : Int) := by omega
    rw [if_pos h, if_pos h']
  · have h' : ¬ (1099511627776 < (a : Int) ∨ 1048576 < (b : Int)) := by omega
    rw [if_neg h, if_neg h']
theorem ret_ratb {a b z d e z' : Int} {c : Bool} (h : (a, b, z) = (d, e, z')) (hc : c = decide (z = 0)) : Ending.returned (.tuple #[.agg #[.int .i64 a, .int .i64 b], .bool c]) = .returned (.tuple #[.agg #[.int .i64 d, .int .i64 e], .bool (decide (z' = 0))]) := by
  simp only [Prod.mk.injEq] at h
  obtain ⟨rfl, rfl, rfl⟩ := h
  rw [hc]
end Go.Proofs.YtaadelcmhbgpnaaGreatDoor
/-
  THE WALKS OF Add AND Sub, THE PROGRAM'S AND THE REFERENCE'S.
-/
namespace Go.Proofs.YtaadelcmhbgpnaaGreatDoor
open Go.RowKit
theorem addM_cases (a1 a2 b1 b2 : Int) : vld a1 a2 = true → vld b1 b2 = true → addM a1 a2 b1 b2 = mk (a1 * b2 + b1 * a2) (a2 * b2) := fun h k => if_pos ⟨h, k⟩
theorem subM_cases (a1 a2 b1 b2 : Int) : vld a1 a2 = true → vld b1 b2 = true → subM a1 a2 b1 b2 = mk (a1 * b2 - b1 * a2) (a2 * b2) := fun h k => if_pos ⟨h, k⟩

end Go.Proofs.YtaadelcmhbgpnaaGreatDoor
