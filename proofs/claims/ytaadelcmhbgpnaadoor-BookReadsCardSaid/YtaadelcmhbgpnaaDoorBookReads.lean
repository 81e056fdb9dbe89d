/-
  THE WALK OF THE LAW BookReads: it returns true.
-/
import Derived.Test.YtaadelcmhbgpnaaDoorBookSums
import Derived.Test.YtaadelcmhbgpnaaDoorBuiB
namespace Go.Proofs.YtaadelcmhbgpnaaDoor
open Go.RowKit
open Go.Lib
attribute [local go_sem] grow_cell grow_frozen
set_option maxRecDepth 100000 in
set_option maxHeartbeats 4000000 in
theorem bookReads_walk (s : ByteArray) (w : World) (hl : LibOK w) :
    Calls Tryd.prog 7 #[.string s] w fun e w' => e = .returned (.bool true) ∧ Below w.heap.size w w' := by
  have hI := isS_one w s 9
  have hB0 := below_new w (.cells #[.string s] 9)
  have L0 := Lib.hid (hl.below hB0)
  obtain ⟨u, hu⟩ : ∃ u, u = w.alloc (.cells #[.string s] 9) := ⟨_, rfl⟩
  rw [← hu] at hI hB0 L0
  have HU := Lib.hid hu
  have HL := Lib.hid hl
  have HLG := Lib.hid (long_any (some ⟨w.heap.size, 0, none⟩) 1 [s] (by simp) u hI)
  clear hu hI hl
  go_enter Tryd.func7, Tryd.ntmps7
  go_wp2_with fail
  rw [← HU.out]
  refine HLG.out.mono ?_
  rintro e w1 ⟨rfl, rfl⟩
  clear HLG HU
  cases hlong : longL [s]
  · have hs := longL_one hlong
    have H1 := Lib.hid (fun w' h => pread_any s (by omega) w' h)
    have H2 := Lib.hid (fun w' h => rread_any s (by omega) w' h)
    have H3 := Lib.hid (fun w' h => piswhole_any s (by omega) w' h)
    have H4 := Lib.hid (fun w' h => prepair_any s (by omega) w' h)
    have hsp := read_split s.data.toList
    have h200 := read_200 s.data.toList
    obtain ⟨ts, hts⟩ : ∃ ts, ts = (readB 200 1 0 s.data.toList).1 := ⟨_, rfl⟩
    rw [← hts] at hsp h200 H4
    have HSP := Lib.hid hsp
    have HTS := Lib.hid hts
    have HH := Lib.hid h200
    clear hlong hsp hts h200
    go_wp2_with fail
    refine (H1.out _ L0.out).mono ?_
    rintro e w1 ⟨v1, r, rfl, hr, hO1, hb1⟩
    rw [← HTS.out] at hO1
    have HR1 := Lib.hid hr
    obtain ⟨A1, c1, rfl, hI1, -⟩ := hO1.parts
    rw [lnS_len]
    have hB1 := hB0.trans (hb1.mono hB0.size)
    have L1 := Lib.hid (HL.out.below hB1)
    have HI0 := Lib.hid hI1
    clear hO1 hb1 L0 H1 hB0 hr hI1
    go_wp2_with fail
    refine (H2.out _ L1.out).mono ?_
    rintro e w2 ⟨v2, r2, rfl, hr2, hO2, hb2⟩
    have hts := HTS.out
    have hsp := HSP.out
    have hr := HR1.out
    have h200 := HH.out
    rw [← hts] at hO2
    obtain ⟨A2, c2, rfl, hI2, -⟩ := hO2.parts
    rw [lnS_len]
    have hrr : r2 = r := toList_inj (hr2.trans hr.symm)
    subst hrr
    rw [← hr] at H3 hsp
    have HI1 := Lib.hid (HI0.out.below hb2)
    have HI2 := Lib.hid hI2
    have hB2 := hB1.trans (hb2.mono hB1.size)
    have L2 := Lib.hid (HL.out.below hB2)
    have hlen : s.size = (writeB 1 0 ts).length + r2.size := by rw [← lt_list, hsp, List.length_append, lt_list]
    obtain ⟨P, hP⟩ : ∃ P : ByteArray, P = ⟨(writeB 1 0 ts).toArray⟩ := ⟨_, rfl⟩
    obtain ⟨j, hj⟩ : ∃ j, j = s.size - r2.size := ⟨_, rfl⟩
    have hX : s.extract 0 j = P := by
      refine toList_inj ?_
      rw [ext_list, List.drop_zero, Nat.sub_zero, hsp, hj, hlen, Nat.add_sub_cancel, List.take_left, hP]
    have hsl : ∀ W, (Instr.slice 9 (.string s) none (some (.int .i64 (j : Int))) none).run Tryd.prog W = .ok (.string P) W := fun W => by
      rw [← hX]; exact slice_to s j (by omega) W
    rw [← hP] at H4
    have hji : (s.size : Int) - (r2.size : Int) = (j : Int) := by omega
    have HSM := Lib.hid (fun w' h k => rsame_any (lnS 1 0 ts) A1 A2 c1 c2 (by rw [lnS_len]; omega) w' h k)
    rw [lnS_len] at HSM
    clear hr hr2 hO2 hI2 hb2 hX hP hj hlen hsp hts h200 hB1 L1 H2 HSP HTS HR1 HI0 HH
    cases he : r2.toList.isEmpty
    · have hne : r2.data.toList ≠ [] := by
        intro h
        rw [Lib.toList_data, h] at he
        cases he
      rw [decide_eq_false hne] at H3
      clear hne
      go_upto_region 5 with fail
      refine region_grow (by kernel_rfl) (by kernel_rfl) ?_
      repeat (go_big_quiet_step ((first | (go_at_call 24; exact grow_call (HSM.out _ (HI1.out.below (below_grow _ _)) (HI2.out.below (below_grow _ _)))) | (go_at_call 25; exact grow_call (H3.out _ (L2.out.below (below_grow _ _)))) | (go_at_call 26; exact grow_call (H4.out _ (L2.out.below (below_grow _ _)))) | (go_at_call 11; exact grow_call (sane_any _ (L2.out.below (below_grow _ _)))))))
      refine wpQuiet_nil ?_
      rintro w9 ⟨xg, hxg⟩
      have hb9 := below_grow w2 xg
      rw [← hxg] at hb9
      clear hxg xg
      go_wp2
      go_ret
      exact ⟨rfl, hB2.trans (hb9.mono hB2.size)⟩
    · have hem : r2.data.toList = [] := by
        rw [Lib.toList_data] at he
        exact List.isEmpty_iff.1 he
      rw [decide_eq_true hem] at H3
      clear hem
      go_upto_region 5 with fail
      refine region_grow (by kernel_rfl) (by kernel_rfl) ?_
      repeat (go_big_quiet_step ((first | (go_at_call 24; exact grow_call (HSM.out _ (HI1.out.below (below_grow _ _)) (HI2.out.below (below_grow _ _)))) | (go_at_call 25; exact grow_call (H3.out _ (L2.out.below (below_grow _ _)))) | (go_at_call 26; exact grow_call (H4.out _ (L2.out.below (below_grow _ _)))) | (go_at_call 11; exact grow_call (sane_any _ (L2.out.below (below_grow _ _)))))))
      refine wpQuiet_nil ?_
      rintro w9 ⟨xg, hxg⟩
      have hb9 := below_grow w2 xg
      rw [← hxg] at hb9
      clear hxg xg
      go_wp2
      go_ret
      exact ⟨rfl, hB2.trans (hb9.mono hB2.size)⟩
  · clear hlong
    go_wp2_with fail
    refine (sane_any _ L0.out).mono ?_
    rintro e w2 ⟨rfl, hb2⟩
    go_wp2
    go_ret
    exact ⟨rfl, hB0.trans (hb2.mono hB0.size)⟩
end Go.Proofs.YtaadelcmhbgpnaaDoor
