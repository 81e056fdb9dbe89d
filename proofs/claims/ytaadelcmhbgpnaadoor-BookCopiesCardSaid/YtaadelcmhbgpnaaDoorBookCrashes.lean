/-
  THE WALK OF THE LAW BookCrashes: it returns true.
-/
import Derived.Test.YtaadelcmhbgpnaaDoorWriA
namespace Go.Proofs.YtaadelcmhbgpnaaDoor
open Go.RowKit
open Go.Lib
theorem lnS_take : ∀ (ts : List (List UInt8)) (n : Nat) (b : Int) (j : Nat), lnS n b (ts.take j) = (lnS n b ts).take j
  | [], n, b, j => by simp [lnS]
  | t :: ts, n, b, 0 => by simp [lnS]
  | t :: ts, n, b, j + 1 => by simp [lnS, lnS_take ts]
theorem IsLn.take {w : World} {A : Option Addr} {l : List Ln} (h : IsLn w A l) (j : Nat) : IsLn w A (l.take j) := by
  intro hp
  rw [List.length_take] at hp
  obtain ⟨b, o, rfl, hb, hc⟩ := h (by omega)
  refine ⟨b, o, rfl, hb, fun k hk => ?_⟩
  rw [List.length_take] at hk
  rw [List.getElem_take]
  exact hc k (by omega)
theorem keep_bd (keep : Int) (n : Nat) (hn : n ≤ 1000000) : ∃ K : Nat, wrap64 ((IntKind.u64.wrap keep).tmod ((n : Int) + 1)) = (K : Int) ∧ K ≤ n := by
  have h0 : 0 ≤ IntKind.u64.wrap keep := by
    have : IntKind.u64.wrap keep = keep % 18446744073709551616 := rfl
    rw [this]; exact Int.emod_nonneg _ (by omega)
  rw [Int.tmod_eq_emod_of_nonneg h0]
  have h1 := Int.emod_nonneg (IntKind.u64.wrap keep) (show (n : Int) + 1 ≠ 0 by omega)
  have h2 := Int.emod_lt_of_pos (IntKind.u64.wrap keep) (show 0 < (n : Int) + 1 by omega)
  obtain ⟨x, hx⟩ : ∃ x, x = IntKind.u64.wrap keep % ((n : Int) + 1) := ⟨_, rfl⟩
  rw [← hx] at h1 h2 ⊢
  refine ⟨x.toNat, ?_, by omega⟩
  rw [IntWalk.wrap64_in x ⟨by omega, by omega⟩]
  omega
set_option maxRecDepth 100000 in
set_option maxHeartbeats 4000000 in
theorem bookCrashes_walk (A : Option Addr) (c : Nat) (xs : List ByteArray) (keep : Int) (w : World) (hI : IsS w A xs.length xs) (hl : LibOK w) :
    Calls Tryd.prog 8 #[.slice A xs.length c, .int .i64 keep] w fun e w' => e = .returned (.bool true) ∧ Below w.heap.size w w' := by
  have HW := Lib.hid (lwrite_any A c xs w hl hI)
  have HL := Lib.hid hl
  clear hI hl
  go_enter Tryd.func8, Tryd.ntmps8
  go_wp2_with fail
  refine HW.out.mono ?_
  rintro e w1 ⟨s, ts, rfl, hs, hr, hn, hb1⟩
  have hsz := write_size hs hr (by omega)
  have hrd := read_write hr (by omega)
  rw [← hs] at hrd
  have HS := Lib.hid hs
  have HR := Lib.hid hr
  have HRD := Lib.hid hrd
  have L1 := Lib.hid (HL.out.below hb1)
  clear hs hr hrd HW
  go_wp2_with fail
  refine (pread_any s (by omega) _ L1.out).mono ?_
  rintro e w2 ⟨v, r, rfl, hr, hO, hb2⟩
  rw [HRD.out] at hr hO
  simp only at hr hO
  have hr0 := empty_yes hr
  subst hr0
  obtain ⟨A1, c1, rfl, hI1, hc1⟩ := hO.parts
  rw [lnS_len] at hc1 ⊢
  have HI1 := Lib.hid hI1
  have hB2 := hb1.trans (hb2.mono hb1.size)
  have L2 := Lib.hid (HL.out.below hB2)
  clear hr hO hI1 hb2 hb1 L1
  go_upto_region 6 with fail
  obtain ⟨K, hK, hKs⟩ := keep_bd keep s.size (by omega)
  rw [hK]
  obtain ⟨P, hP⟩ : ∃ P : ByteArray, s.extract 0 K = P := ⟨_, rfl⟩
  have hPl : P.data.toList = (writeB 1 0 ts).take K := by rw [← hP, ext_list, List.drop_zero, Nat.sub_zero, HS.out]
  obtain ⟨j, t, hc, hj, ht1, ht2⟩ := crash ts 1 0 200 K (by omega) (by omega) HR.out
  rw [← hPl] at hc
  have hPs : P.size ≤ 20000 := by rw [← lt_list, hPl, List.length_take, ← HS.out, lt_list]; omega
  have hrp := (reads_of 200 1 0 P.data.toList).eq
  rw [hc] at hrp
  simp only at hrp
  have HHP := Lib.hid hP
  have HC := Lib.hid hc
  have HRP := Lib.hid hrp
  have HRJ := Lib.hid (show Rights (ts.take j) from fun u hu => HR.out u (List.mem_of_mem_take hu))
  have HT1 := Lib.hid ht1
  clear hK hP hPl hc hrp ht1
  go_wp2_with fail
  rw [HHP.out]
  refine (pread_any P (by omega) _ L2.out).mono ?_
  rintro e w3 ⟨v, r, rfl, hr, hO, hb3⟩
  rw [HC.out] at hr hO
  simp only at hr hO
  obtain ⟨A2, c2, rfl, hI2, -⟩ := hO.parts
  have hjl : (ts.take j).length = j := by rw [List.length_take]; omega
  rw [lnS_len, hjl]
  have HI2 := Lib.hid hI2
  have HI3 := Lib.hid (((HI1.out.below hb3).take j))
  have hB3 := hB2.trans (hb3.mono hB2.size)
  have L3 := Lib.hid (HL.out.below hB3)
  have hrl : r.size ≤ 97 := by rw [← lt_list, hr]; exact ht2
  have HRR := Lib.hid hr
  clear hr hO hI2 hb3 hB2 L2 hjl HI1
  rw [← lnS_take] at HI3
  have HSM := Lib.hid (fun A B c d w' h k => rsame_any (lnS 1 0 (ts.take j)) A B c d (by rw [lnS_len, List.length_take]; omega) w' h k)
  rw [lnS_len, List.length_take, Nat.min_eq_left hj] at HSM
  go_wp2_with fail
  refine (HSM.out A2 A1 c2 c1 _ HI2.out HI3.out).mono ?_
  rintro e w4 ⟨rfl, hb4⟩
  have hB4 := hB3.trans (hb4.mono hB3.size)
  have L4 := Lib.hid (HL.out.below hB4)
  obtain ⟨F, hF⟩ : ∃ F : ByteArray, F = ⟨(writeB 1 0 (ts.take j)).toArray⟩ := ⟨_, rfl⟩
  have hFl : F.data.toList = writeB 1 0 (ts.take j) := by rw [hF]
  have HREP := Lib.hid (fun w' h => prepair_any P (by omega) w' h)
  rw [HC.out] at HREP
  simp only at HREP
  rw [← hF] at HREP
  have hFs : F.size ≤ 20000 := write_size hFl HRJ.out (by rw [List.length_take]; omega)
  have HIW := Lib.hid (fun w' h => piswhole_any F (by omega) w' h)
  rw [hFl, read_write HRJ.out (by rw [List.length_take]; omega)] at HIW
  simp only [decide_true] at HIW
  have hcat : F ++ r = P := by
    refine toList_inj ?_
    rw [HRP.out, ← hFl, ← HRR.out]
    simp
  have HCAT := Lib.hid (show ((F ++ r).toList == P.toList) = true by rw [hcat]; simp)
  clear hb4 hB3 L3 HI2 HI3 HSM hF hFl hcat
  go_wp2_with fail
  rw [HHP.out]
  refine (HREP.out _ L4.out).mono ?_
  rintro e w5 ⟨rfl, hb5⟩
  have hB5 := hB4.trans (hb5.mono hB4.size)
  have L5 := Lib.hid (HL.out.below hB5)
  clear hb5 hB4 L4 HREP
  have hcat := HCAT.out
  have hP := HHP.out
  go_wp2_with fail
  refine (HIW.out _ L5.out).mono ?_
  rintro e w6 ⟨rfl, hb6⟩
  have hB6 := hB5.trans (hb6.mono hB5.size)
  have L6 := Lib.hid (HL.out.below hB6)
  clear hb6 hB5 L5 HIW
  cases he : r.toList.isEmpty
  · have hne : t ≠ [] := by
      intro h
      rw [Lib.toList_data, HRR.out, h] at he
      cases he
    have hjt : j < ts.length := HT1.out.resolve_left hne
    go_wp2_with fail
    refine (sane_any _ L6.out).mono ?_
    rintro e w7 ⟨rfl, hb7⟩
    go_wp2
    go_ret
    exact ⟨rfl, hB6.trans (hb7.mono hB6.size)⟩
  · go_wp2_with fail
    refine (sane_any _ L6.out).mono ?_
    rintro e w7 ⟨rfl, hb7⟩
    go_wp2
    go_ret
    exact ⟨rfl, hB6.trans (hb7.mono hB6.size)⟩
end Go.Proofs.YtaadelcmhbgpnaaDoor
