/-
  THE WALK OF THE LAW BookCompares: it returns true.
-/
import Derived.Test.YtaadelcmhbgpnaaGreatDoorBookSums
import Derived.Test.YtaadelcmhbgpnaaGreatDoorMrgA
namespace Go.Proofs.YtaadelcmhbgpnaaGreatDoor
open Go.RowKit
open Go.Lib
set_option maxRecDepth 100000 in
set_option maxHeartbeats 4000000 in
theorem bookCompares_walk (a b : ByteArray) (w : World) (hl : LibOK w) :
    Calls Tryz.prog 5 #[.string a, .string b] w fun e w' => e = .returned (.bool true) ∧ Below w.heap.size w w' := by
  have hI := isS_two w a b 9
  have hB0 := below_new w (.cells #[.string a, .string b] 9)
  have L0 := Lib.hid (hl.below hB0)
  obtain ⟨u, hu⟩ : ∃ u, u = w.alloc (.cells #[.string a, .string b] 9) := ⟨_, rfl⟩
  rw [← hu] at hI hB0 L0
  have HU := Lib.hid hu
  have HL := Lib.hid hl
  have HLG := Lib.hid (long_any (some ⟨w.heap.size, 0, none⟩) 2 [a, b] (by simp) u hI)
  clear hu hI hl
  go_enter Tryz.func5, Tryz.ntmps5
  go_wp2_with fail
  rw [← HU.out]
  refine HLG.out.mono ?_
  rintro e w1 ⟨rfl, rfl⟩
  clear HLG HU
  cases hlong : longL [a, b]
  · obtain ⟨s1, s2⟩ := longL_two hlong
    obtain ⟨k, n, z, hm⟩ : ∃ k n z, relV a.data.toList b.data.toList = (k, n, z) := ⟨_, _, _, rfl⟩
    obtain ⟨x, y, hx⟩ : ∃ r z, mrgV a b = (r, z) := ⟨_, _, rfl⟩
    obtain ⟨p, q, hp⟩ : ∃ r z, extV a b = (r, z) := ⟨_, _, rfl⟩
    have H1 := Lib.hid (fun w' h => prel_any a b (by omega) (by omega) k n z hm w' h)
    have H2 := Lib.hid (fun w' h => rrel_any a b (by omega) (by omega) k n z hm w' h)
    have H3 := Lib.hid (fun w' h => pmerge_any a b (by omega) (by omega) x y hx w' h)
    have H4 := Lib.hid (fun w' h => rmerge_any a b (by omega) (by omega) x y hx w' h)
    have H5 := Lib.hid (fun w' h => pextend_any a b (by omega) (by omega) p q hp w' h)
    have H6 := Lib.hid (fun w' h => rextend_any a b (by omega) (by omega) p q hp w' h)
    clear hlong hm hx hp s1 s2
    go_wp2_with fail
    refine (H1.out _ L0.out).mono ?_
    rintro e w2 ⟨rfl, hb1⟩
    have hB1 := hB0.trans (hb1.mono hB0.size)
    have L1 := Lib.hid (HL.out.below hB1)
    clear hb1 hB0 L0 H1
    go_wp2_with fail
    refine (H2.out _ L1.out).mono ?_
    rintro e w3 ⟨rfl, hb2⟩
    have hB2 := hB1.trans (hb2.mono hB1.size)
    have L2 := Lib.hid (HL.out.below hB2)
    clear hb2 hB1 L1 H2
    go_wp2_with fail
    refine (H3.out _ L2.out).mono ?_
    rintro e w4 ⟨rfl, hb3⟩
    have hB3 := hB2.trans (hb3.mono hB2.size)
    have L3 := Lib.hid (HL.out.below hB3)
    clear hb3 hB2 L2 H3
    go_wp2_with fail
    refine (H4.out _ L3.out).mono ?_
    rintro e w5 ⟨rfl, hb4⟩
    have hB4 := hB3.trans (hb4.mono hB3.size)
    have L4 := Lib.hid (HL.out.below hB4)
    clear hb4 hB3 L3 H4
    go_wp2_with fail
    refine (H5.out _ L4.out).mono ?_
    rintro e w6 ⟨rfl, hb5⟩
    have hB5 := hB4.trans (hb5.mono hB4.size)
    have L5 := Lib.hid (HL.out.below hB5)
    clear hb5 hB4 L4 H5
    go_wp2_with fail
    refine (H6.out _ L5.out).mono ?_
    rintro e w7 ⟨rfl, hb6⟩
    have hB6 := hB5.trans (hb6.mono hB5.size)
    have L6 := Lib.hid (HL.out.below hB6)
    clear hb6 hB5 L5 H6
    go_wp2_with fail
    refine (sane_any _ L6.out).mono ?_
    rintro e w9 ⟨rfl, hb9⟩
    go_wp2
    go_ret
    exact ⟨rfl, hB6.trans (hb9.mono hB6.size)⟩
  · clear hlong
    go_wp2_with fail
    refine (sane_any _ L0.out).mono ?_
    rintro e w2 ⟨rfl, hb2⟩
    go_wp2
    go_ret
    exact ⟨rfl, hB0.trans (hb2.mono hB0.size)⟩
end Go.Proofs.YtaadelcmhbgpnaaGreatDoor
