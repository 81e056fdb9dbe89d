/-
  THE WALK OF THE LAW BookSums: it returns true.
-/
import Derived.Test.YtaadelcmhbgpnaaGreatDoorBokZ
namespace Go.Proofs.YtaadelcmhbgpnaaGreatDoor
open Go.RowKit
open Go.Lib
theorem isS_two (w : World) (a b : ByteArray) (t : TypeId) : IsS (w.alloc (.cells #[.string a, .string b] t)) (some ⟨w.heap.size, 0, none⟩) 2 [a, b] := by
  refine ⟨rfl, fun _ => ⟨w.heap.size, 0, rfl, by simp, fun i hi => ?_⟩⟩
  match i, hi with
  | 0, _ => simp [go_sem]
  | 1, _ => simp [go_sem]
theorem isS_one (w : World) (a : ByteArray) (t : TypeId) : IsS (w.alloc (.cells #[.string a] t)) (some ⟨w.heap.size, 0, none⟩) 1 [a] := by
  refine ⟨rfl, fun _ => ⟨w.heap.size, 0, rfl, by simp, fun i hi => ?_⟩⟩
  match i, hi with
  | 0, _ => simp [go_sem]
theorem longL_two {a b : ByteArray} (h : longL [a, b] = false) : a.size ≤ 30000 ∧ b.size ≤ 30000 := by
  unfold longL at h
  simp at h
  exact h
theorem longL_one {a : ByteArray} (h : longL [a] = false) : a.size ≤ 30000 := by
  unfold longL at h
  simp at h
  exact h
end Go.Proofs.YtaadelcmhbgpnaaGreatDoor
