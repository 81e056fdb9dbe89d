/-
  THE WALK OF THE LAW TopBooks: it returns true.
-/
import Derived.Test.YtaadelcmhbgpnaaGreatDoorTopP
import Derived.Test.YtaadelcmhbgpnaaGreatDoorCopB
import Derived.Test.YtaadelcmhbgpnaaGreatDoorBuiB
namespace Go.Proofs.YtaadelcmhbgpnaaGreatDoor
open Go.RowKit
open Go.Lib
theorem keepT_bd (keep : Int) (n : Nat) (hn : n ≤ 1000000) : ∃ K : Nat, wrap64 ((IntKind.u64.wrap keep).tmod ((n : Int) + 1)) = (K : Int) ∧ K ≤ n := by
  have h0 : 0 ≤ IntKind.u64.wrap keep := by
    have : IntKind.u64.wrap keep = keep % 18446744073709551616 := rfl
    rw [this]; exact Int.emod_nonneg _ (by omega)
  rw [Int.tmod_eq_emod_of_nonneg h0]
  have h1 := Int.emod_nonneg (IntKind.u64.wrap keep) (show (n : Int) + 1 ≠ 0 by omega)
  have h2 := Int.emod_lt_of_pos (IntKind.u64.wrap keep) (show 0 < (n : Int) + 1 by omega)
  obtain ⟨x, hx⟩ : ∃ x, x = IntKind.u64.wrap keep % ((n : Int) + 1) := ⟨_, rfl⟩
  rw [← hx] at h1 h2 ⊢
  refine ⟨x.toNat, ?_, by omega⟩
  rw [IntWalk.wrap64_in x ⟨by omega, by omega⟩]
  omega
theorem sum_a : sumT 0 (⟨#[97]⟩ : ByteArray).data.toList = 98 := by kernel_rfl
set_option maxRecDepth 100000 in
set_option maxHeartbeats 4000000 in
theorem topBooks_walk (A : Option Addr) (c : Nat) (xs : List ByteArray) (B : Option Addr) (d : Nat) (ys : List ByteArray) (keep : Int) (w : World) (hI : IsS w A xs.length xs) (hJ : IsS w B ys.length ys) (hl : LibOK w) :
    Calls Tryz.prog 7 #[.slice A xs.length c, .slice B ys.length d, .int .i64 keep] w fun e w' => e = .returned (.bool true) ∧ Below w.heap.size w w' := by
  have HW := Lib.hid (lwrite_any A c xs w hl hI)
  have HL := Lib.hid hl
  have HJ := Lib.hid hJ
  clear hI hJ hl
  go_enter Tryz.func7, Tryz.ntmps7
  go_wp2_with fail
  refine HW.out.mono ?_
  rintro e w1 ⟨s, ts, rfl, hs, hr, hn, hb1⟩
  have hsz := write_size hs hr (by omega)
  have hrd := read_write hr (by omega)
  rw [← hs] at hrd
  have HS := Lib.hid hs
  have HR := Lib.hid hr
  have HRD := Lib.hid hrd
  have L1 := Lib.hid (HL.out.below hb1)
  have J1 := Lib.hid (HJ.out.below hb1)
  clear hs hr hrd HW HJ
  go_wp2_with fail
  refine (lwrite_any B d ys w1 L1.out J1.out).mono ?_
  rintro e w2 ⟨t, ts2, rfl, hs2, hr2, hn2, hb2⟩
  have hsz2 := write_size hs2 hr2 (by omega)
  have hrd2 := read_write hr2 (by omega)
  rw [← hs2] at hrd2
  have HRD2 := Lib.hid hrd2
  have hB2 := hb1.trans (hb2.mono hb1.size)
  have L2 := Lib.hid (HL.out.below hB2)
  have HSM := Lib.hid (psum_any 0 ⟨#[97]⟩ (by decide) w2)
  rw [sum_a] at HSM
  have HW1 := Lib.hid (fun w' h => piswhole_any s (by omega) w' h)
  have HW2 := Lib.hid (fun w' h => piswhole_any t (by omega) w' h)
  rw [HRD.out] at HW1
  rw [HRD2.out] at HW2
  simp only [decide_true] at HW1 HW2
  clear hs2 hr2 hrd2 hb2 hb1 L1 J1
  go_wp2_with fail
  refine HSM.out.mono ?_
  rintro e w3 ⟨rfl, rfl⟩
  clear HSM
  go_wp2_with fail
  refine (HW1.out _ L2.out).mono ?_
  rintro e w3 ⟨rfl, hb3⟩
  have hB3 := hB2.trans (hb3.mono hB2.size)
  have L3 := Lib.hid (HL.out.below hB3)
  clear HW1 hb3 hB2 L2
  go_wp2_with fail
  refine (HW2.out _ L3.out).mono ?_
  rintro e w4 ⟨rfl, hb4⟩
  have hB4 := hB3.trans (hb4.mono hB3.size)
  have L4 := Lib.hid (HL.out.below hB4)
  clear HW2 hb4 hB3 L3
  go_upto_region 5 with fail
  obtain ⟨K, hK, hKs⟩ := keepT_bd keep s.size (by omega)
  rw [hK]
  obtain ⟨P, hP⟩ : ∃ P : ByteArray, s.extract 0 K = P := ⟨_, rfl⟩
  have hPl : P.data.toList = (writeB 1 0 ts).take K := by rw [← hP, ext_list, List.drop_zero, Nat.sub_zero, HS.out]
  obtain ⟨j, u, hc, hj, ht1, ht2⟩ := crash ts 1 0 200 K (by omega) (by omega) HR.out
  rw [← hPl] at hc
  have hPs : P.size ≤ 20000 := by rw [← lt_list, hPl, List.length_take, ← HS.out, lt_list]; omega
  have HREP := Lib.hid (fun w' h => prepair_any P (by omega) w' h)
  rw [hc] at HREP
  simp only at HREP
  obtain ⟨H, hH⟩ : ∃ H : ByteArray, H = ⟨(writeB 1 0 (ts.take j)).toArray⟩ := ⟨_, rfl⟩
  have hHl : H.data.toList = writeB 1 0 (ts.take j) := by rw [hH]
  rw [← hH] at HREP
  have hHR : Rights (ts.take j) := fun u hu => HR.out u (List.mem_of_mem_take hu)
  have hHs : H.size ≤ 20000 := write_size hHl hHR (by rw [List.length_take]; omega)
  have hHrd := read_write hHR (by rw [List.length_take]; omega)
  rw [← hHl] at hHrd
  have HSN := Lib.hid (fun w' h => psince_yes s (by omega) ts HRD.out j hj w' h)
  have hsplit : writeB 1 0 ts = writeB 1 0 (ts.take j) ++ writeB (1 + j) (endZ 1 0 (ts.take j)) (ts.drop j) := by
    conv => lhs; rw [← List.take_append_drop j ts]
    rw [writeB_app, List.length_take, Nat.min_eq_left hj]
  obtain ⟨T, hT⟩ : ∃ T : ByteArray, T = ⟨(writeB (1 + j) (endZ 1 0 (ts.take j)) (ts.drop j)).toArray⟩ := ⟨_, rfl⟩
  have hTl : T.data.toList = writeB (1 + j) (endZ 1 0 (ts.take j)) (ts.drop j) := by rw [hT]
  rw [← hT] at HSN
  rw [← hTl, ← HS.out, ← hHl] at hsplit
  have hlen : s.size = H.size + T.size := by rw [← lt_list, hsplit, List.length_append, lt_list, lt_list]
  have hcat : H ++ T = s := by
    refine toList_inj ?_
    rw [hsplit]
    simp
  have HEX := Lib.hid (fun w' h => pextend_yes H T (by omega) (by omega) (by rw [hHrd]) (by rw [hcat, HRD.out]) w' h)
  rw [hcat] at HEX
  have HMG := Lib.hid (fun w' h => pmerge_take H s (by omega) (by omega) ts j hj (fun e => by
    refine toList_inj ?_
    rw [hHl, HS.out, e, List.take_length]) hHrd HRD.out w' h)
  have HPR := Lib.hid (fun w' h => pread_any H (by omega) w' h)
  have HPT := Lib.hid (fun w' h => parted_any s t (by omega) (by omega) ts ts2 HRD.out HRD2.out w' h)
  have HNO := Lib.hid (fun w' h => nothing_any s (by omega) w' h)
  have HHRD := Lib.hid hHrd
  have HHP := Lib.hid hP
  have hjl : (ts.take j).length = j := by rw [List.length_take]; omega
  have HJL := Lib.hid hjl
  clear hK hP hPl hc ht1 ht2 hPs hH hHl hHR hHrd hsplit hT hTl hlen hcat hjl HR HRD HRD2 HS
  go_wp2_with fail
  rw [HHP.out]
  refine (HREP.out _ L4.out).mono ?_
  rintro e w5 ⟨rfl, hb5⟩
  have hB5 := hB4.trans (hb5.mono hB4.size)
  have L5 := Lib.hid (HL.out.below hB5)
  clear HREP hb5 hB4 L4 HHP hKs
  go_wp2_with fail
  refine (HPR.out _ L5.out).mono ?_
  rintro e w6 ⟨v, r, rfl, hr, hO, hb6⟩
  rw [HHRD.out] at hr hO
  simp only at hr hO
  have hr0 := empty_yes hr
  subst hr0
  obtain ⟨A1, c1, rfl, hI1, hc1⟩ := hO.parts
  rw [lnS_len, HJL.out] at hc1 ⊢
  have hB6 := hB5.trans (hb6.mono hB5.size)
  have L6 := Lib.hid (HL.out.below hB6)
  clear HPR hr hO hI1 hc1 hb6 hB5 L5 HHRD
  go_wp2_with fail
  refine (HSN.out _ L6.out).mono ?_
  rintro e w7 ⟨rfl, hb7⟩
  have hB7 := hB6.trans (hb7.mono hB6.size)
  have L7 := Lib.hid (HL.out.below hB7)
  clear HSN hb7 hB6 L6
  go_wp2_with fail
  refine (HEX.out _ L7.out).mono ?_
  rintro e w8 ⟨rfl, hb8⟩
  have hB8 := hB7.trans (hb8.mono hB7.size)
  have L8 := Lib.hid (HL.out.below hB8)
  clear HEX hb8 hB7 L7
  go_wp2_with fail
  refine (HMG.out _ L8.out).mono ?_
  rintro e w9 ⟨rfl, hb9⟩
  have hB9 := hB8.trans (hb9.mono hB8.size)
  have L9 := Lib.hid (HL.out.below hB9)
  clear HMG hb9 hB8 L8
  go_wp2_with fail
  refine (HPT.out _ L9.out).mono ?_
  rintro e w10 ⟨rfl, hb10⟩
  have hB10 := hB9.trans (hb10.mono hB9.size)
  have L10 := Lib.hid (HL.out.below hB10)
  clear HPT hb10 hB9 L9
  go_wp2_with fail
  refine (HNO.out _ L10.out).mono ?_
  rintro e w11 ⟨rfl, hb11⟩
  have hB11 := hB10.trans (hb11.mono hB10.size)
  clear hb11 hB10 L10
  go_wp2
  go_ret
  exact ⟨rfl, hB11⟩
end Go.Proofs.YtaadelcmhbgpnaaGreatDoor
