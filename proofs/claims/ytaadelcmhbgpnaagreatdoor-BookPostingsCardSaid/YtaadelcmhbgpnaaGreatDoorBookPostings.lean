/-
  THE WALK OF THE LAW BookPostings: it returns true.
-/
import Derived.Test.YtaadelcmhbgpnaaGreatDoorWriA
import Derived.Test.YtaadelcmhbgpnaaGreatDoorPstC
namespace Go.Proofs.YtaadelcmhbgpnaaGreatDoor
open Go.RowKit
open Go.Lib
set_option maxRecDepth 100000 in
set_option maxHeartbeats 4000000 in
theorem bookPostings_walk (A : Option Addr) (c : Nat) (xs : List ByteArray) (t : ByteArray) (w : World) (hI : IsS w A xs.length xs) (hl : LibOK w) :
    Calls Tryz.prog 3 #[.slice A xs.length c, .string t] w fun e w' => e = .returned (.bool true) ∧ Below w.heap.size w w' := by
  have hI1 := isS_one w t 9
  have hB0 := below_new w (.cells #[.string t] 9)
  have hI2 := hI.below hB0
  have L0 := Lib.hid (hl.below hB0)
  obtain ⟨u, hu⟩ : ∃ u, u = w.alloc (.cells #[.string t] 9) := ⟨_, rfl⟩
  rw [← hu] at hI1 hI2 hB0 L0
  have HU := Lib.hid hu
  have HL := Lib.hid hl
  have HLG := Lib.hid (long_any (some ⟨w.heap.size, 0, none⟩) 1 [t] (by simp) u hI1)
  have HW := Lib.hid (lwrite_any A c xs u L0.out hI2)
  clear hu hI hI1 hI2 hl
  go_enter Tryz.func3, Tryz.ntmps3
  go_wp2_with fail
  rw [← HU.out]
  refine HLG.out.mono ?_
  rintro e w1 ⟨rfl, rfl⟩
  clear HLG HU
  cases hlong : longL [t]
  · have ht := longL_one hlong
    clear hlong
    go_wp2_with fail
    refine HW.out.mono ?_
    rintro e w1 ⟨s, ts, rfl, hs, hr, hn, hb1⟩
    have hsz := write_size hs hr (by omega)
    have hB1 := hB0.trans (hb1.mono hB0.size)
    have L1 := Lib.hid (HL.out.below hB1)
    have H1 := Lib.hid (fun w' h => ppostings_any s (by omega) w' h)
    have H2 := Lib.hid (fun w' h => rpostings_any s (by omega) w' h)
    have H3 := Lib.hid (fun w' h => ppostings_any t (by omega) w' h)
    have H4 := Lib.hid (fun w' h => rpostings_any t (by omega) w' h)
    have k1 := Lib.hid (postsV_len s.data.toList)
    have k2 := Lib.hid (postsV_len t.data.toList)
    obtain ⟨l, z, hv⟩ : ∃ l z, postsV s.data.toList = (l, z) := ⟨_, _, rfl⟩
    obtain ⟨l2, z2, hv2⟩ : ∃ l z, postsV t.data.toList = (l, z) := ⟨_, _, rfl⟩
    rw [hv] at k1
    rw [hv2] at k2
    have HV := Lib.hid hv
    have HV2 := Lib.hid hv2
    clear hs hr hn hb1 hB0 L0 HW hv hv2
    go_wp2_with fail
    refine (H1.out _ L1.out).mono ?_
    rintro e w2 ⟨v, rfl, hO, hb2⟩
    rw [HV.out] at hO ⊢
    simp only at hO ⊢
    obtain ⟨A1, c1, rfl, hI1, -⟩ := hO.parts
    have J1 := Lib.hid hI1
    have hB2 := hB1.trans (hb2.mono hB1.size)
    have L2 := Lib.hid (HL.out.below hB2)
    clear hO hI1 hb2 hB1 L1 H1
    go_wp2_with fail
    refine (H2.out _ L2.out).mono ?_
    rintro e w3 ⟨v, rfl, hO, hb3⟩
    rw [HV.out] at hO ⊢
    simp only at hO ⊢
    obtain ⟨A2, c2, rfl, hI2, -⟩ := hO.parts
    have J1' := Lib.hid (J1.out.below hb3)
    have J2 := Lib.hid hI2
    have hB3 := hB2.trans (hb3.mono hB2.size)
    have L3 := Lib.hid (HL.out.below hB3)
    clear hO hI2 hb3 hB2 L2 H2 J1
    go_wp2_with fail
    refine (H3.out _ L3.out).mono ?_
    rintro e w4 ⟨v, rfl, hO, hb4⟩
    rw [HV2.out] at hO ⊢
    simp only at hO ⊢
    obtain ⟨A3, c3, rfl, hI3, -⟩ := hO.parts
    have K1 := Lib.hid (J1'.out.below hb4)
    have K2 := Lib.hid (J2.out.below hb4)
    have K3 := Lib.hid hI3
    have hB4 := hB3.trans (hb4.mono hB3.size)
    have L4 := Lib.hid (HL.out.below hB4)
    clear hO hI3 hb4 hB3 L3 H3 J1' J2
    go_wp2_with fail
    refine (H4.out _ L4.out).mono ?_
    rintro e w5 ⟨v, rfl, hO, hb5⟩
    rw [HV2.out] at hO ⊢
    simp only at hO ⊢
    obtain ⟨A4, c4, rfl, hI4, -⟩ := hO.parts
    have M1 := Lib.hid (K1.out.below hb5)
    have M2 := Lib.hid (K2.out.below hb5)
    have M3 := Lib.hid (K3.out.below hb5)
    have M4 := Lib.hid hI4
    have hB5 := hB4.trans (hb5.mono hB4.size)
    have L5 := Lib.hid (HL.out.below hB5)
    clear hO hI4 hb5 hB4 L4 H4 K1 K2 K3
    go_wp2_with fail
    refine (rsamep_any l A1 A2 c1 c2 k1.out _ M1.out M2.out).mono ?_
    rintro e w6 ⟨rfl, hb6⟩
    have N3 := Lib.hid (M3.out.below hb6)
    have N4 := Lib.hid (M4.out.below hb6)
    have hB6 := hB5.trans (hb6.mono hB5.size)
    have L6 := Lib.hid (HL.out.below hB6)
    clear hb6 hB5 L5 M1 M2 M3 M4
    go_wp2_with fail
    refine (rsamep_any l2 A3 A4 c3 c4 k2.out _ N3.out N4.out).mono ?_
    rintro e w7 ⟨rfl, hb7⟩
    have hB7 := hB6.trans (hb7.mono hB6.size)
    have L7 := Lib.hid (HL.out.below hB7)
    clear hb7 hB6 L6 N3 N4
    go_wp2_with fail
    refine (sane_any _ L7.out).mono ?_
    rintro e w8 ⟨rfl, hb8⟩
    go_wp2
    go_ret
    exact ⟨rfl, hB7.trans (hb8.mono hB7.size)⟩
  · clear hlong
    go_wp2_with fail
    refine (sane_any _ L0.out).mono ?_
    rintro e w2 ⟨rfl, hb2⟩
    go_wp2
    go_ret
    exact ⟨rfl, hB0.trans (hb2.mono hB0.size)⟩
end Go.Proofs.YtaadelcmhbgpnaaGreatDoor
