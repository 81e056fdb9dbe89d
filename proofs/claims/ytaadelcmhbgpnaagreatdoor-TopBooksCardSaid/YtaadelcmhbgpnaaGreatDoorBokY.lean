/-
  BOOKS: ParsePosting, the program's.
-/
import Derived.Test.YtaadelcmhbgpnaaGreatDoorBokX
import Derived.Test.YtaadelcmhbgpnaaGreatDoorRegP
namespace Go.Proofs.YtaadelcmhbgpnaaGreatDoor
open Go.RowKit
open Go.Lib
attribute [local go_sem] gw_cell gw_frozen
attribute [local irreducible] RP.plainUpon RP.stepC
set_option maxRecDepth 100000 in
set_option maxHeartbeats 2000000 in
theorem pparse_any (s : ByteArray) (hs : s.size ≤ 30000) (w : World) (hl : LibOK w) :
    Calls Tryz.prog 41 #[.string s] w (OutPo w s.data.toList) := by
  have hX0 := Box3.new w (.string ⟨#[]⟩) (.string ⟨#[]⟩) (.int .i64 0) 65
  have hB0 := below_new w (.cells #[.string ⟨#[]⟩, .string ⟨#[]⟩, .int .i64 0] 65)
  obtain ⟨u, hu⟩ : ∃ u, u = w.alloc (.cells #[.string ⟨#[]⟩, .string ⟨#[]⟩, .int .i64 0] 65) := ⟨_, rfl⟩
  rw [← hu] at hX0 hB0
  have L0 := Lib.hid (hl.below hB0)
  have hgw : u.heap.size ≠ w.heap.size := by rw [hu]; simp
  have HU := Lib.hid hu
  clear hu
  go_enter Tryz.func41, Tryz.ntmps41
  go_wp2_with fail
  rw [← HU.out]
  refine (split4_any s (by omega) _ L0.out).mono ?_
  rintro e w1 ⟨xs, c, rfl, hI, hxs, hb1⟩
  have hX1 := hX0.keep hb1
  have hB1 := hB0.trans (hb1.mono hB0.size)
  have L1 := Lib.hid (L0.out.below hb1)
  have HXS := Lib.hid hxs
  clear hX0 hB0 L0 hb1 hxs HU hl
  by_cases h4 : xs.length < 4
  · have HP := Lib.hid (parse_few HXS.out h4)
    have d0 : (xs.length : Int) < 4 := by omega
    obtain ⟨x0, x1, x2, y0, y1, y2, y3⟩ := hX1
    have HB := Lib.hid hB1
    clear hI h4 HXS
    go_wp2
    refine bodyPost_ret (v := .tuple #[.agg #[.string ⟨#[]⟩, .string ⟨#[]⟩, .int .i64 0], .int .i64 3]) (by simp only [results, Tryz.results41]; go_simp) rfl ⟨noPo, 3, rfl, HP.out, ?_⟩
    exact (by repeat' (first | (with_reducible exact Below.refl _ _) | (with_reducible assumption) | (with_reducible refine below_drewN ?_ _) | (with_reducible refine below_step (by assumption) ?_ ?_) | (with_reducible refine Below.alloc ?_ ?_ _) | (with_reducible refine Below.setCell ?_ ?_ _) | (with_reducible refine Below.drew ?_) | go_size | (exact Below.size (by assumption)) | (refine Nat.le_trans (Below.size (by assumption)) ?_)))
  · have h4' : 3 < xs.length := by omega
    obtain ⟨bb, o, hbo, hlt, hc⟩ := hI.2 (by omega)
    cases hbo
    have d0 : ¬ (xs.length : Int) < 4 := by omega
    obtain ⟨t1, ht1⟩ : ∃ t, t = xs[1] := ⟨_, rfl⟩
    obtain ⟨t2, ht2⟩ : ∃ t, t = xs[2] := ⟨_, rfl⟩
    obtain ⟨t3, ht3⟩ : ∃ t, t = xs[3] := ⟨_, rfl⟩
    have c1 := hc 1 (by omega)
    have c2 := hc 2 (by omega)
    have c3 := hc 3 (by omega)
    simp only [Nat.zero_add] at c1 c2 c3
    rw [← ht1] at c1
    rw [← ht2] at c2
    rw [← ht3] at c3
    have h3s : t3.size ≤ 30000 := by
      have := splitK_len _ _ t3.data.toList (by rw [← HXS.out]; exact List.mem_map.2 ⟨t3, by rw [ht3]; exact List.getElem_mem _, rfl⟩)
      rw [lt_list, lt_list] at this; omega
    have HPP := Lib.hid (fun p z hp hb => parse_plain (p := p) (z := z) HXS.out h4' hp hb)
    rw [← ht1, ← ht2, ← ht3] at HPP
    clear hc ht1 ht2 ht3 hI HXS h4
    obtain ⟨gb, hgb⟩ : ∃ g, g = u.heap.size := ⟨_, rfl⟩
    rw [← hgb] at hlt c1 c2 c3 hgw ⊢
    clear hgb
    go_wp2_with fail
    refine (parseMoney_any t3 h3s _ L1.out).mono ?_
    rintro e w2 ⟨p, z, rfl, hp, hb2⟩
    obtain ⟨p1, p2, hz⟩ := prsM_bd hp
    have HP := Lib.hid hp
    have hX2 := hX1.keep hb2
    have hB2 := hB1.trans (hb2.mono hB1.size)
    have L2 := Lib.hid (L1.out.below hb2)
    have e1 := (hb2.cell (p := ⟨gb, 1, none⟩) hlt).trans c1
    have e2 := (hb2.cell (p := ⟨gb, 2, none⟩) hlt).trans c2
    have hlt2 : gb < w2.heap.size := Nat.lt_of_lt_of_le hlt hb2.size
    clear hX1 hB1 L1 hb2 c1 c2 c3 hlt hp
    go_upto_region 5 with fail
    obtain ⟨v0, hv0⟩ : ∃ v : GW w2, { w2 with drawn := w2.drawn + 1 } = v.val := ⟨⟨_, (Below.refl _ _).drew⟩, rfl⟩
    refine RP.region_treeP (C := fun w' => ∃ v : GW w2, w' = v.val) (fun _ _ _ => False) [0, 1, 2, 3, 4, 5, 6] (.two 7 (.one 8 .nil) 8 (.one 7 .nil)) 9 (fun _ _ _ h => h.elim) (by kernel_rfl) (by kernel_rfl) ⟨v0, hv0⟩ ?_
    simp only [pickL, List.getElem?_cons_zero, List.getElem?_cons_succ]
    repeat (go_big_quiet_step (rfl))
    refine wpQuiet_nil ?_
    rw [hv0]
    simp only [RP.treeS, atOp, List.getElem?_cons_zero, List.getElem?_cons_succ]
    have hA : Below w2.heap.size w2 (v0.val.alloc (.cells #[.string ⟨#[]⟩, .string ⟨#[]⟩, .int .i64 0] 65)) := v0.below.alloc v0.below.size _
    refine ⟨⟨v0, rfl⟩, ?_, ?_⟩
    refine RP.p_val (.agg #[.string t1, .string t2, .int .i64 p]) v0.val rfl (by go_simp) ?_
    refine ⟨⟨v0, rfl⟩, ?_⟩
    refine RP.p_val (.pointer (some ⟨v0.val.heap.size, 0, none⟩)) (v0.val.alloc (.cells #[.string ⟨#[]⟩, .string ⟨#[]⟩, .int .i64 0] 65)) rfl (by go_simp) ?_
    refine ⟨⟨⟨_, hA⟩, rfl⟩, ?_⟩
    refine RP.p_skip (v0.val.alloc (.cells #[.string t1, .string t2, .int .i64 p] 65)) rfl (by go_simp) ?_
    rotate_left 1
    refine RP.p_val (.pointer (some ⟨v0.val.heap.size, 0, none⟩)) (v0.val.alloc (.cells #[.string ⟨#[]⟩, .string ⟨#[]⟩, .int .i64 0] 65)) rfl (by go_simp) ?_
    refine ⟨⟨⟨_, hA⟩, rfl⟩, ?_⟩
    refine RP.p_val (.agg #[.string t1, .string t2, .int .i64 p]) _ rfl (by go_simp; rfl) ?_
    refine ⟨⟨⟨_, hA⟩, rfl⟩, ?_⟩
    refine RP.p_skip (v0.val.alloc (.cells #[.string t1, .string t2, .int .i64 p] 65)) rfl (by go_simp) ?_
    all_goals go_simp
    all_goals (
      have hX3 := hX2.keep v0.below
      have hB3 := hB2.trans (v0.below.mono hB2.size)
      have L3 := L2.out.below v0.below
      have hY := Box3.new v0.val (.string t1) (.string t2) (.int .i64 p) 65
      have hX4 := hX3.keep (below_new v0.val (.cells #[.string t1, .string t2, .int .i64 p] 65))
      have hB4 := hB3.trans ((below_new v0.val (.cells #[.string t1, .string t2, .int .i64 p] 65)).mono hB3.size)
      have L4 := Lib.hid (L3.below (below_new v0.val (.cells #[.string t1, .string t2, .int .i64 p] 65)))
      have hne : v0.val.heap.size ≠ w.heap.size := by have := hX3.lt; omega
      obtain ⟨u4, hu4⟩ : ∃ u, u = v0.val.alloc (.cells #[.string t1, .string t2, .int .i64 p] 65) := ⟨_, rfl⟩
      obtain ⟨b4, hb4⟩ : ∃ b, b = v0.val.heap.size := ⟨_, rfl⟩
      rw [← hu4] at hY hX4 hB4 L4 ⊢
      rw [← hb4] at hY hne ⊢
      clear hX2 hB2 L2 e1 e2 hlt2 hv0 hA hX3 hB3 L3 hu4 hb4
      obtain ⟨r, zf, hm⟩ : ∃ r zf, fmtP ⟨t1, t2, p⟩ = (r, zf) := ⟨_, _, rfl⟩
      have HF := Lib.hid (pfmt_any ⟨t1, t2, p⟩ (by show _ ≤ p; omega) (by show p ≤ _; omega) r zf hm u4 L4.out)
      have HM := Lib.hid hm
      clear hm
      obtain ⟨x0, x1, x2, x3, x4, x5, x6⟩ := hY
      go_wp2_with fail
      refine HF.out.mono ?_
      rintro e w5 ⟨rfl, hb5⟩
      have hY := Box3.keep hb5 ⟨x0, x1, x2, x3, x4, x5, x6⟩
      have hX5 := hX4.keep hb5
      have hB5 := hB4.trans (hb5.mono hB4.size)
      clear HF x0 x1 x2 x3 x4 x5 x6 hX4 hB4 L4 hb5
      obtain ⟨x0, x1, x2, x3, x4, x5, x6⟩ := hY
      obtain ⟨y0, y1, y2, y3, y4, y5, y6⟩ := hX5
      rcases hz with rfl | rfl
      rotate_left 1
      · have HQ := Lib.hid (HPP.out p 3 HP.out (.inl (by decide)))
        go_wp2
        refine bodyPost_ret (v := .tuple #[.agg #[.string ⟨#[]⟩, .string ⟨#[]⟩, .int .i64 0], .int .i64 3]) (by simp only [results, Tryz.results41]; go_simp) rfl ⟨noPo, 3, rfl, HQ.out, (by repeat' (first | (with_reducible exact Below.refl _ _) | (with_reducible assumption) | (with_reducible refine below_drewN ?_ _) | (with_reducible refine below_step (by assumption) ?_ ?_) | (with_reducible refine Below.alloc ?_ ?_ _) | (with_reducible refine Below.setCell ?_ ?_ _) | (with_reducible refine Below.drew ?_) | go_size | (exact Below.size (by assumption)) | (refine Nat.le_trans (Below.size (by assumption)) ?_)))⟩
      · by_cases hzf : zf = 0
        · subst hzf
          have hv : valPo [⟨t1, t2, p⟩] = 0 := by
            by_cases h : valPo [⟨t1, t2, p⟩] = 0
            · exact h
            · have := HM.out; rw [fmtP, if_neg h] at this; exact absurd (congrArg Prod.snd this) h
          have hr : r = ⟨(postT ⟨t1, t2, p⟩).toArray⟩ := by
            have := HM.out; rw [fmtP, if_pos hv] at this; exact (congrArg Prod.fst this).symm
          have hrl : r.data.toList = postT ⟨t1, t2, p⟩ := by rw [hr]
          by_cases hq : postT ⟨t1, t2, p⟩ = s.data.toList
          · have HQ : Hid (PrsP s.data.toList ⟨t1, t2, p⟩ 0) := Lib.hid (.inl ⟨rfl, hv, hq⟩)
            have hrs : r = s := toList_eq (hrl.trans hq)
            subst hrs
            clear hv hr hrl hq HM
            go_wp2
            refine bodyPost_ret (v := .tuple #[.agg #[.string t1, .string t2, .int .i64 p], .int .i64 0]) (by simp only [results, Tryz.results41]; go_simp) rfl ⟨⟨t1, t2, p⟩, 0, rfl, HQ.out, (by repeat' (first | (with_reducible exact Below.refl _ _) | (with_reducible assumption) | (with_reducible refine below_drewN ?_ _) | (with_reducible refine below_step (by assumption) ?_ ?_) | (with_reducible refine Below.alloc ?_ ?_ _) | (with_reducible refine Below.setCell ?_ ?_ _) | (with_reducible refine Below.drew ?_) | go_size | (exact Below.size (by assumption)) | (refine Nat.le_trans (Below.size (by assumption)) ?_)))⟩
          · have HQ := Lib.hid (HPP.out p 0 HP.out (.inr (.inr hq)))
            have q1 : (r.toList == s.toList) = false := by rw [beq_eq_false_iff_ne, Lib.toList_data, Lib.toList_data, hrl]; exact hq
            have q2 : (r.toList != s.toList) = true := by rw [bne_iff_ne, Lib.toList_data, Lib.toList_data, hrl]; exact hq
            clear hv hr hrl hq HM
            go_wp2
            refine bodyPost_ret (v := .tuple #[.agg #[.string ⟨#[]⟩, .string ⟨#[]⟩, .int .i64 0], .int .i64 3]) (by simp only [results, Tryz.results41]; go_simp) rfl ⟨noPo, 3, rfl, HQ.out, (by repeat' (first | (with_reducible exact Below.refl _ _) | (with_reducible assumption) | (with_reducible refine below_drewN ?_ _) | (with_reducible refine below_step (by assumption) ?_ ?_) | (with_reducible refine Below.alloc ?_ ?_ _) | (with_reducible refine Below.setCell ?_ ?_ _) | (with_reducible refine Below.drew ?_) | go_size | (exact Below.size (by assumption)) | (refine Nat.le_trans (Below.size (by assumption)) ?_)))⟩
        · have HQ := Lib.hid (HPP.out p 0 HP.out (.inr (.inl fun h => hzf (by have := HM.out; rw [fmtP, if_pos h] at this; exact (congrArg Prod.snd this).symm))))
          have q1 : (zf != 0) = true := by rw [bne_iff_ne]; exact hzf
          clear hzf HM
          go_wp2
          refine bodyPost_ret (v := .tuple #[.agg #[.string ⟨#[]⟩, .string ⟨#[]⟩, .int .i64 0], .int .i64 3]) (by simp only [results, Tryz.results41]; go_simp) rfl ⟨noPo, 3, rfl, HQ.out, (by repeat' (first | (with_reducible exact Below.refl _ _) | (with_reducible assumption) | (with_reducible refine below_drewN ?_ _) | (with_reducible refine below_step (by assumption) ?_ ?_) | (with_reducible refine Below.alloc ?_ ?_ _) | (with_reducible refine Below.setCell ?_ ?_ _) | (with_reducible refine Below.drew ?_) | go_size | (exact Below.size (by assumption)) | (refine Nat.le_trans (Below.size (by assumption)) ?_)))⟩)
end Go.Proofs.YtaadelcmhbgpnaaGreatDoor
