/-
  THE WALK OF THE LAW BookFinds: it returns true.
-/
import Derived.Test.YtaadelcmhbgpnaaGreatDoorBookSums
import Derived.Test.YtaadelcmhbgpnaaGreatDoorFinB
namespace Go.Proofs.YtaadelcmhbgpnaaGreatDoor
open Go.RowKit
open Go.Lib
set_option maxRecDepth 100000 in
set_option maxHeartbeats 4000000 in
theorem bookFinds_walk (s : ByteArray) (num : Int) (hnum : -9223372036854775808 ≤ num) (knum : num ≤ 9223372036854775807) (w : World) (hl : LibOK w) :
    Calls Tryz.prog 4 #[.string s, .int .i64 num] w fun e w' => e = .returned (.bool true) ∧ Below w.heap.size w w' := by
  have hI := isS_one w s 9
  have hB0 := below_new w (.cells #[.string s] 9)
  have L0 := Lib.hid (hl.below hB0)
  obtain ⟨u, hu⟩ : ∃ u, u = w.alloc (.cells #[.string s] 9) := ⟨_, rfl⟩
  rw [← hu] at hI hB0 L0
  have HU := Lib.hid hu
  have HL := Lib.hid hl
  have HLG := Lib.hid (long_any (some ⟨w.heap.size, 0, none⟩) 1 [s] (by simp) u hI)
  clear hu hI hl
  go_enter Tryz.func4, Tryz.ntmps4
  go_wp2_with fail
  rw [← HU.out]
  refine HLG.out.mono ?_
  rintro e w1 ⟨rfl, rfl⟩
  clear HLG HU
  cases hlong : longL [s]
  · have hs := longL_one hlong
    obtain ⟨x, z, hm⟩ : ∃ x z, findV s.data.toList num = (x, z) := ⟨_, _, rfl⟩
    obtain ⟨r, z2, hm2⟩ : ∃ r z, sinceV s.data.toList num = (r, z) := ⟨_, _, rfl⟩
    have H1 := Lib.hid (fun w' h => pfind_any s (by omega) num x z hm hnum knum w' h)
    have H2 := Lib.hid (fun w' h => rfind_any s (by omega) num x z hm hnum knum w' h)
    have H3 := Lib.hid (fun w' h => psince_any s (by omega) num r z2 hm2 hnum knum w' h)
    have H4 := Lib.hid (fun w' h => rsince_any s (by omega) num r z2 hm2 hnum knum w' h)
    obtain ⟨xn, xt, xz⟩ := x
    simp only at H1 H2
    clear hlong hm hm2
    go_wp2_with fail
    refine (H1.out _ L0.out).mono ?_
    rintro e w1 ⟨rfl, hb1⟩
    have hB1 := hB0.trans (hb1.mono hB0.size)
    have hX := Box3.new w1 (.int .i64 xn) (.string xt) (.int .i64 xz) 33
    have hn := below_new w1 (.cells #[.int .i64 xn, .string xt, .int .i64 xz] 33)
    have hB2 := hB1.trans (hn.mono hB1.size)
    have L2 := Lib.hid (HL.out.below hB2)
    obtain ⟨u2, hu2⟩ : ∃ u, u = w1.alloc (.cells #[.int .i64 xn, .string xt, .int .i64 xz] 33) := ⟨_, rfl⟩
    obtain ⟨b2, hb2⟩ : ∃ b, b = w1.heap.size := ⟨_, rfl⟩
    rw [← hu2] at hX hB2 L2
    rw [← hb2] at hX
    have HU2 := Lib.hid hu2
    have HB2 := Lib.hid hb2
    clear hu2 hb2 hn hB1 hb1 hB0 L0 H1
    go_wp2_with fail
    rw [← HU2.out, ← HB2.out]
    refine (H2.out _ L2.out).mono ?_
    rintro e w3 ⟨rfl, hb3⟩
    have hX3 := hX.keep hb3
    have hB3 := hB2.trans (hb3.mono hB2.size)
    have hY := Box3.new w3 (.int .i64 xn) (.string xt) (.int .i64 xz) 33
    have hn := below_new w3 (.cells #[.int .i64 xn, .string xt, .int .i64 xz] 33)
    have hX4 := hX3.keep hn
    have hB4 := hB3.trans (hn.mono hB3.size)
    have L4 := Lib.hid (HL.out.below hB4)
    obtain ⟨u4, hu4⟩ : ∃ u, u = w3.alloc (.cells #[.int .i64 xn, .string xt, .int .i64 xz] 33) := ⟨_, rfl⟩
    obtain ⟨b4, hb4⟩ : ∃ b, b = w3.heap.size := ⟨_, rfl⟩
    rw [← hu4] at hY hX4 hB4 L4
    rw [← hb4] at hY
    have HU4 := Lib.hid hu4
    have HB4 := Lib.hid hb4
    clear hu4 hb4 hn hB3 hb3 hX3 hX hB2 L2 H2 HU2 HB2
    go_wp2_with fail
    rw [← HU4.out, ← HB4.out]
    refine (H3.out _ L4.out).mono ?_
    rintro e w5 ⟨rfl, hb5⟩
    have hX5 := hX4.keep hb5
    have hY5 := hY.keep hb5
    have hB5 := hB4.trans (hb5.mono hB4.size)
    have L5 := Lib.hid (HL.out.below hB5)
    clear hX4 hY hB4 L4 hb5 H3 HU4 HB4
    go_wp2_with fail
    refine (H4.out _ L5.out).mono ?_
    rintro e w6 ⟨rfl, hb6⟩
    obtain ⟨x0, x1, x2, x3, x4, x5, x6⟩ := hX5.keep hb6
    obtain ⟨y0, y1, y2, y3, y4, y5, y6⟩ := hY5.keep hb6
    have hB6 := hB5.trans (hb6.mono hB5.size)
    have L6 := Lib.hid (HL.out.below hB6)
    clear hX5 hY5 hB5 L5 hb6 H4
    go_wp2_with fail
    refine (sane_any _ L6.out).mono ?_
    rintro e w7 ⟨rfl, hb7⟩
    go_wp2
    go_ret
    exact ⟨rfl, hB6.trans (hb7.mono hB6.size)⟩
  · clear hlong
    go_wp2_with fail
    refine (sane_any _ L0.out).mono ?_
    rintro e w2 ⟨rfl, hb2⟩
    go_wp2
    go_ret
    exact ⟨rfl, hB0.trans (hb2.mono hB0.size)⟩
end Go.Proofs.YtaadelcmhbgpnaaGreatDoor
