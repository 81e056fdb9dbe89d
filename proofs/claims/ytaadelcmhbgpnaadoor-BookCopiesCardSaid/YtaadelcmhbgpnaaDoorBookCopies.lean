/-
  THE WALK OF THE LAW BookCopies: it returns true.
-/
import Derived.Test.YtaadelcmhbgpnaaDoorBookCrashes
import Derived.Test.YtaadelcmhbgpnaaDoorCopB
namespace Go.Proofs.YtaadelcmhbgpnaaDoor
open Go.RowKit
open Go.Lib
set_option maxRecDepth 100000 in
set_option maxHeartbeats 4000000 in
theorem bookCopies_walk (A : Option Addr) (c : Nat) (xs : List ByteArray) (num : Int) (w : World) (hI : IsS w A xs.length xs) (hl : LibOK w) :
    Calls Tryd.prog 9 #[.slice A xs.length c, .int .i64 num] w fun e w' => e = .returned (.bool true) ∧ Below w.heap.size w w' := by
  have HW := Lib.hid (lwrite_any A c xs w hl hI)
  have HL := Lib.hid hl
  clear hI hl
  go_enter Tryd.func9, Tryd.ntmps9
  go_wp2_with fail
  refine HW.out.mono ?_
  rintro e w1 ⟨s, ts, rfl, hs, hr, hn, hb1⟩
  have hsz := write_size hs hr (by omega)
  have hrd := read_write hr (by omega)
  rw [← hs] at hrd
  have HS := Lib.hid hs
  have HR := Lib.hid hr
  have HRD := Lib.hid hrd
  have L1 := Lib.hid (HL.out.below hb1)
  clear hs hr hrd HW
  go_wp2_with fail
  refine (pread_any s (by omega) _ L1.out).mono ?_
  rintro e w2 ⟨v, r, rfl, hr, hO, hb2⟩
  rw [HRD.out] at hr hO
  simp only at hr hO
  have hr0 := empty_yes hr
  subst hr0
  obtain ⟨A1, c1, rfl, hI1, hc1⟩ := hO.parts
  rw [lnS_len] at hc1 ⊢
  have hB2 := hb1.trans (hb2.mono hb1.size)
  have L2 := Lib.hid (HL.out.below hB2)
  clear hr hO hI1 hb2 hb1 L1
  go_upto_region 4 with fail
  obtain ⟨N, hN, hNs⟩ := keep_bd num ts.length (by omega)
  rw [hN]
  have HSN := Lib.hid (fun w' h => psince_yes s (by omega) ts HRD.out N hNs w' h)
  have hsplit : writeB 1 0 ts = writeB 1 0 (ts.take N) ++ writeB (1 + N) (endZ 1 0 (ts.take N)) (ts.drop N) := by
    conv => lhs; rw [← List.take_append_drop N ts]
    rw [writeB_app, List.length_take, Nat.min_eq_left hNs]
  obtain ⟨T, hT⟩ : ∃ T : ByteArray, T = ⟨(writeB (1 + N) (endZ 1 0 (ts.take N)) (ts.drop N)).toArray⟩ := ⟨_, rfl⟩
  have hTl : T.data.toList = writeB (1 + N) (endZ 1 0 (ts.take N)) (ts.drop N) := by rw [hT]
  rw [← hT] at HSN
  rw [← hTl, ← HS.out] at hsplit
  have hlen : s.size = (writeB 1 0 (ts.take N)).length + T.size := by rw [← lt_list, hsplit, List.length_append, lt_list]
  obtain ⟨j, hj⟩ : ∃ j, j = s.size - T.size := ⟨_, rfl⟩
  obtain ⟨H, hH⟩ : ∃ H : ByteArray, s.extract 0 j = H := ⟨_, rfl⟩
  have hHl : H.data.toList = writeB 1 0 (ts.take N) := by
    rw [← hH, ext_list, List.drop_zero, Nat.sub_zero, hsplit, hj, hlen, Nat.add_sub_cancel, List.take_left]
  have hHR : Rights (ts.take N) := fun u hu => HR.out u (List.mem_of_mem_take hu)
  have hHs : H.size ≤ 20000 := write_size hHl hHR (by rw [List.length_take]; omega)
  have hHrd := read_write hHR (by rw [List.length_take]; omega)
  rw [← hHl] at hHrd
  have hcat : H ++ T = s := by
    refine toList_inj ?_
    rw [hsplit, ← hHl]
    simp
  have hTs : T.size ≤ s.size := by omega
  have HEX := Lib.hid (fun w' h => pextend_yes H T (by omega) (by omega) (by rw [hHrd]) (by rw [hcat, HRD.out]) w' h)
  rw [hcat] at HEX
  have HRL := Lib.hid (fun w' h => prel_take H s (by omega) (by omega) ts N hNs hHrd HRD.out w' h)
  have HMG := Lib.hid (fun w' h => pmerge_take H s (by omega) (by omega) ts N hNs (fun e => by
    refine toList_inj ?_
    rw [hHl, HS.out, e, List.take_length]) hHrd HRD.out w' h)
  have hji : (s.size : Int) - (T.size : Int) = (j : Int) := by omega
  have HHH := Lib.hid hH
  clear hT hTl hsplit hlen hj hH hHl hHR hHrd hcat hN HR HRD HS
  go_wp2_with fail
  refine (HSN.out _ L2.out).mono ?_
  rintro e w3 ⟨rfl, hb3⟩
  have hB3 := hB2.trans (hb3.mono hB2.size)
  have L3 := Lib.hid (HL.out.below hB3)
  clear hB2 hb3 L2 HSN
  go_wp2_with fail
  rw [HHH.out]
  refine (HEX.out _ L3.out).mono ?_
  rintro e w4 ⟨rfl, hb4⟩
  have hB4 := hB3.trans (hb4.mono hB3.size)
  have L4 := Lib.hid (HL.out.below hB4)
  clear hB3 hb4 L3 HEX
  by_cases hNt : N < ts.length
  · have HRL := Lib.hid (fun w' h => HRL.out w' h)
    simp only [if_pos hNt] at HRL
    have d1 : ((N : Int) == (ts.length : Int)) = false := by rw [beq_eq_false_iff_ne]; omega
    clear hNt
    go_wp2_with fail
    refine (HRL.out _ L4.out).mono ?_
    rintro e w5 ⟨rfl, hb5⟩
    have hB5 := hB4.trans (hb5.mono hB4.size)
    have L5 := Lib.hid (HL.out.below hB5)
    clear hB4 hb5 L4 HRL
    go_wp2_with fail
    refine (HMG.out _ L5.out).mono ?_
    rintro e w6 ⟨rfl, hb6⟩
    have hB6 := hB5.trans (hb6.mono hB5.size)
    have L6 := Lib.hid (HL.out.below hB6)
    clear hB5 hb6 L5 HMG
    go_wp2_with fail
    refine (sane_any _ L6.out).mono ?_
    rintro e w7 ⟨rfl, hb7⟩
    go_wp2
    go_ret
    exact ⟨rfl, hB6.trans (hb7.mono hB6.size)⟩
  · have HRL := Lib.hid (fun w' h => HRL.out w' h)
    simp only [if_neg hNt] at HRL
    obtain rfl : N = ts.length := by omega
    clear hNt
    go_wp2_with fail
    refine (HRL.out _ L4.out).mono ?_
    rintro e w5 ⟨rfl, hb5⟩
    have hB5 := hB4.trans (hb5.mono hB4.size)
    have L5 := Lib.hid (HL.out.below hB5)
    clear hB4 hb5 L4 HRL
    go_wp2_with fail
    refine (HMG.out _ L5.out).mono ?_
    rintro e w6 ⟨rfl, hb6⟩
    have hB6 := hB5.trans (hb6.mono hB5.size)
    have L6 := Lib.hid (HL.out.below hB6)
    clear hB5 hb6 L5 HMG
    go_wp2_with fail
    refine (sane_any _ L6.out).mono ?_
    rintro e w7 ⟨rfl, hb7⟩
    go_wp2
    go_ret
    exact ⟨rfl, hB6.trans (hb7.mono hB6.size)⟩
end Go.Proofs.YtaadelcmhbgpnaaDoor
