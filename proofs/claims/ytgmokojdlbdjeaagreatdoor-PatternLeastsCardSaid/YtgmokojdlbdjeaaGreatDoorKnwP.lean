/-
  THE LAWS' OWN CHECK: known.
-/
import Derived.Test.YtgmokojdlbdjeaaGreatDoorParJ
namespace Go.Proofs.YtgmokojdlbdjeaaGreatDoor
open Go.RowKit
set_option maxRecDepth 100000 in
set_option maxHeartbeats 2000000 in
theorem known_any (w : World) (hw : LibOK w) :
    Calls Tryz.prog 16 #[] w fun e w' => e = .returned (.bool true) ∧ Below w.heap.size w w' := by
  have HK := Lib.hid (parse_known w hw)
  clear hw
  go_enter Tryz.func16, Tryz.ntmps16
  go_wp2_with fail
  refine HK.out.mono ?_
  rintro e w1 ⟨v, rfl, hown, hb1⟩
  obtain ⟨A, c, rfl, hl1, hl2⟩ := hown.isL
  obtain ⟨b, o, rfl, hb, hc⟩ := hl2 (by decide)
  have y0 := hc 0 (by decide)
  have y1 := hc 1 (by decide)
  simp only [List.getD_cons_zero, List.getD_cons_succ, Nat.add_zero] at y0 y1
  have HB := Lib.hid hb1
  clear hown hl1 hl2 hc hb1 HK
  simp only [List.length_cons, List.length_nil]
  go_wp2
  go_ret
  exact ⟨rfl, Below.alloc HB.out HB.out.size _⟩
end Go.Proofs.YtgmokojdlbdjeaaGreatDoor
