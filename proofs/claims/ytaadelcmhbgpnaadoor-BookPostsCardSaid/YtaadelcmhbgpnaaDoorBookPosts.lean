/-
  THE WALK OF THE LAW BookPosts: it returns true.
-/
import Derived.Test.YtaadelcmhbgpnaaDoorBookSums
import Derived.Test.YtaadelcmhbgpnaaDoorBolA
namespace Go.Proofs.YtaadelcmhbgpnaaDoor
open Go.RowKit
open Go.Lib
theorem fmtP_ok {x : Po} {r : ByteArray} {z : Int} (h : fmtP x = (r, z)) (hz : z = 0) : valPo [x] = 0 ∧ r.data.toList = postT x := by
  unfold fmtP at h
  by_cases hv : valPo [x] = 0
  · rw [if_pos hv] at h
    have e : (⟨(postT x).toArray⟩ : ByteArray) = r := congrArg Prod.fst h
    exact ⟨hv, by rw [← e]⟩
  · rw [if_neg hv] at h
    exact absurd ((congrArg Prod.snd h : _ = z).trans hz) hv
set_option maxRecDepth 100000 in
set_option maxHeartbeats 4000000 in
theorem bookPosts_walk (x : Po) (s : ByteArray) (h1 : -9223372036854775808 ≤ x.p) (h2 : x.p ≤ 9223372036854775807) (w : World) (hl : LibOK w) :
    Calls Tryd.prog 5 #[.agg #[.string x.d, .string x.c, .int .i64 x.p], .string s] w fun e w' => e = .returned (.bool true) ∧ Below w.heap.size w w' := by
  have hX0 := Box3.new w (.string x.d) (.string x.c) (.int .i64 x.p) 31
  have hB0 := below_new w (.cells #[.string x.d, .string x.c, .int .i64 x.p] 31)
  have HL := Lib.hid hl
  obtain ⟨r, z, hm⟩ : ∃ r z, fmtP x = (r, z) := ⟨_, _, rfl⟩
  have HF := Lib.hid (fun w' h => pfmt_any x h1 h2 r z hm w' h)
  have HG := Lib.hid (fun w' h => rfmt_any x h1 h2 r z hm w' h)
  have HOK := Lib.hid (fun hz => fmtP_ok hm hz)
  clear hm h1 h2
  obtain ⟨d, c, p⟩ := x
  simp only at *
  obtain ⟨u, hu⟩ : ∃ u, u = w.alloc (.cells #[.string d, .string c, .int .i64 p] 31) := ⟨_, rfl⟩
  rw [← hu] at hX0 hB0
  have hI := isS_one u s 9
  have hX1 := hX0.keep (below_new u (.cells #[.string s] 9))
  have hB1 := hB0.trans ((below_new u (.cells #[.string s] 9)).mono hB0.size)
  have L1 := Lib.hid (hl.below hB1)
  obtain ⟨v, hv⟩ : ∃ v, v = u.alloc (.cells #[.string s] 9) := ⟨_, rfl⟩
  rw [← hv] at hI hX1 hB1 L1
  have hus : u.heap.size = w.heap.size + 1 := by rw [hu]; simp
  rw [hus] at hI
  have HU := Lib.hid hu
  have HV := Lib.hid hv
  have HLG := Lib.hid (long_any (some ⟨w.heap.size + 1, 0, none⟩) 1 [s] (by simp) v hI)
  clear hu hv hI hl hus hX0 hB0
  go_enter Tryd.func5, Tryd.ntmps5
  go_wp2_with fail
  rw [← HU.out, ← HV.out]
  refine HLG.out.mono ?_
  rintro e w1 ⟨rfl, rfl⟩
  clear HLG HU HV
  cases hlong : longL [s]
  · have hs := longL_one hlong
    obtain ⟨x0, x1, x2, x3, x4, x5, x6⟩ := hX1
    clear hlong
    go_wp2_with fail
    refine (HF.out _ L1.out).mono ?_
    rintro e w1 ⟨rfl, hb1⟩
    have hX2 := Box3.keep hb1 ⟨x0, x1, x2, x3, x4, x5, x6⟩
    have hB2 := hB1.trans (hb1.mono hB1.size)
    have L2 := Lib.hid (L1.out.below hb1)
    clear x0 x1 x2 x3 x4 x5 x6 hB1 L1 hb1
    obtain ⟨x0, x1, x2, x3, x4, x5, x6⟩ := hX2
    go_wp2_with fail
    refine (HG.out _ L2.out).mono ?_
    rintro e w2 ⟨rfl, hb2⟩
    have hX3 := Box3.keep hb2 ⟨x0, x1, x2, x3, x4, x5, x6⟩
    have hB3 := hB2.trans (hb2.mono hB2.size)
    have L3 := Lib.hid (L2.out.below hb2)
    clear x0 x1 x2 x3 x4 x5 x6 hB2 L2 hb2
    go_wp2_with fail
    refine (pparse_any s hs _ L3.out).mono ?_
    rintro e w3 ⟨y, zy, rfl, hp, hb3⟩
    have HP := Lib.hid hp
    have hX4 := hX3.keep hb3
    have hB4 := hB3.trans (hb3.mono hB3.size)
    clear hp hX3 hB3 L3 hb3
    obtain ⟨yd, yc, yp⟩ := y
    simp only
    have hY := Box3.new w3 (.string yd) (.string yc) (.int .i64 yp) 31
    have hn := below_new w3 (.cells #[.string yd, .string yc, .int .i64 yp] 31)
    have hX5 := hX4.keep hn
    have hB5 := hB4.trans (hn.mono hB4.size)
    have L5 := Lib.hid (HL.out.below hB5)
    obtain ⟨u3, hu3⟩ : ∃ u, u = w3.alloc (.cells #[.string yd, .string yc, .int .i64 yp] 31) := ⟨_, rfl⟩
    obtain ⟨b3, hb3⟩ : ∃ b, b = w3.heap.size := ⟨_, rfl⟩
    rw [← hu3] at hY hX5 hB5 L5
    rw [← hb3] at hY
    have HU3 := Lib.hid hu3
    have HB3 := Lib.hid hb3
    clear hu3 hb3 hn hX4 hB4
    go_wp2_with fail
    rw [← HU3.out, ← HB3.out]
    refine (rparse_any s (by omega) _ L5.out).mono ?_
    rintro e w4 ⟨y2, zy2, rfl, hp, hb4⟩
    obtain ⟨rfl, rfl⟩ := PrsP.unique HP.out hp
    have hX6 := hX5.keep hb4
    have hY6 := hY.keep hb4
    have hB6 := hB5.trans (hb4.mono hB5.size)
    clear hp hX5 hY hB5 L5 hb4 HP HU3 HB3
    simp only
    have hZ := Box3.new w4 (.string yd) (.string yc) (.int .i64 yp) 31
    have hn := below_new w4 (.cells #[.string yd, .string yc, .int .i64 yp] 31)
    have hX7 := hX6.keep hn
    have hY7 := hY6.keep hn
    have hB7 := hB6.trans (hn.mono hB6.size)
    have L7 := Lib.hid (HL.out.below hB7)
    obtain ⟨u4, hu4⟩ : ∃ u, u = w4.alloc (.cells #[.string yd, .string yc, .int .i64 yp] 31) := ⟨_, rfl⟩
    obtain ⟨b4, hb4⟩ : ∃ b, b = w4.heap.size := ⟨_, rfl⟩
    rw [← hu4] at hZ hX7 hY7 hB7 L7
    rw [← hb4] at hZ
    have HU4 := Lib.hid hu4
    have HB4 := Lib.hid hb4
    clear hu4 hb4 hn hX6 hY6 hB6
    go_upto_region 7 with fail
    rw [← HU4.out, ← HB4.out]
    clear HU4 HB4
    obtain ⟨x0, x1, x2, x3, x4, x5, x6⟩ := hX7
    obtain ⟨y0, y1, y2, y3, y4, y5, y6⟩ := hY7
    obtain ⟨z0, z1, z2, z3, z4, z5, z6⟩ := hZ
    by_cases hz : z = 0
    · obtain ⟨hv, hr⟩ := HOK.out hz
      subst hz
      have hrs : r.size ≤ 30000 := by rw [← lt_list, hr]; have := post_len hv; omega
      have HQ := Lib.hid (show PrsP r.data.toList ⟨d, c, p⟩ 0 from .inl ⟨rfl, hv, hr.symm⟩)
      clear HF HG HOK hv hr
      go_wp2_with fail
      refine (pparse_any r hrs _ L7.out).mono ?_
      rintro e w5 ⟨q, zq, rfl, hp, hb5⟩
      obtain ⟨rfl, rfl⟩ := PrsP.unique HQ.out hp
      have hX8 := Box3.keep hb5 ⟨x0, x1, x2, x3, x4, x5, x6⟩
      have hB8 := hB7.trans (hb5.mono hB7.size)
      clear x0 x1 x2 x3 x4 x5 x6 y0 y1 y2 y3 y4 y5 y6 z0 z1 z2 z3 z4 z5 z6 hp hB7 L7 hb5 HQ
      obtain ⟨x0, x1, x2, x3, x4, x5, x6⟩ := hX8
      have hn := below_new w5 (.cells #[.string d, .string c, .int .i64 p] 31)
      have hB9 := hB8.trans (hn.mono hB8.size)
      have L9 := HL.out.below hB9
      go_wp2_with fail
      refine (sane_any _ L9).mono ?_
      rintro e w6 ⟨rfl, hb6⟩
      go_wp2
      go_ret
      exact ⟨rfl, hB9.trans (hb6.mono hB9.size)⟩
    · have q1 : (z != 0) = true := by rw [bne_iff_ne]; exact hz
      clear hz HF HG HOK
      go_wp2_with fail
      refine (sane_any _ L7.out).mono ?_
      rintro e w6 ⟨rfl, hb6⟩
      go_wp2
      go_ret
      exact ⟨rfl, hB7.trans (hb6.mono hB7.size)⟩
  · clear hlong
    go_wp2_with fail
    refine (sane_any _ L1.out).mono ?_
    rintro e w2 ⟨rfl, hb2⟩
    go_wp2
    go_ret
    exact ⟨rfl, hB1.trans (hb2.mono hB1.size)⟩
end Go.Proofs.YtaadelcmhbgpnaaDoor
