/-
  BOOKS: ParsePosting, the reference's.
-/
import Derived.Test.YtaadelcmhbgpnaaGreatDoorBokX
import Derived.Test.YtaadelcmhbgpnaaGreatDoorRegU
namespace Go.Proofs.YtaadelcmhbgpnaaGreatDoor
open Go.RowKit
open Go.Lib
theorem posB_few {t : List UInt8} (h : (posB t 0 3).length < 3) : PrsP t noPo 3 := by
  refine .inr ⟨rfl, rfl, fun y hy he => ?_⟩
  rw [← he, posB_post hy] at h
  simp at h
theorem posB_step {l : List UInt8} {i k : Nat} {c : UInt8} (h : l[i]? = some c) : posB (l.drop i) i (k + 1) = if c = 32 then i :: posB (l.drop (i + 1)) (i + 1) k else posB (l.drop (i + 1)) (i + 1) (k + 1) := by
  obtain ⟨hi, he⟩ := List.getElem?_eq_some_iff.1 h
  rw [List.drop_eq_getElem_cons hi, posB, he]
theorem rparse_plain {t : List UInt8} {x1 x2 x3 : ByteArray} {i j k : Nat} (h3 : posB t 0 3 = [i, j, k]) (e1 : x1.data.toList = (t.drop (i + 1)).take (j - (i + 1))) (e2 : x2.data.toList = (t.drop (j + 1)).take (k - (j + 1))) (e3 : x3.data.toList = t.drop (k + 1)) {p z : Int} (hp : PrsM x3.data.toList p z)
    (hb : z ≠ 0 ∨ valPo [⟨x1, x2, p⟩] ≠ 0 ∨ postT ⟨x1, x2, p⟩ ≠ t) : PrsP t noPo 3 := by
  refine .inr ⟨rfl, rfl, fun y hy he => ?_⟩
  have h1 := h3
  rw [← he, posB_post hy] at h1
  simp only [List.cons.injEq, and_true] at h1
  obtain ⟨rfl, rfl, rfl⟩ := h1
  obtain ⟨n1, o1⟩ := valPo_one.1 hy
  obtain ⟨-, p1, p2⟩ := okP_iff.1 o1
  have d1 : t.drop 5 = y.d.data.toList ++ 32 :: (y.c.data.toList ++ 32 :: moneyT y.p) := by rw [← he]; rfl
  have d2 : t.drop (5 + y.d.data.toList.length + 1) = y.c.data.toList ++ 32 :: moneyT y.p := by
    rw [show 5 + y.d.data.toList.length + 1 = 5 + (y.d.data.toList.length + 1) by omega, ← List.drop_drop, d1]
    simp [List.drop_append]
  have d3 : t.drop (6 + y.d.data.toList.length + y.c.data.toList.length + 1) = moneyT y.p := by
    rw [show 6 + y.d.data.toList.length + y.c.data.toList.length + 1 = (5 + y.d.data.toList.length + 1) + (y.c.data.toList.length + 1) by omega, ← List.drop_drop, d2]
    simp [List.drop_append]
  rw [show 4 + 1 = 5 from rfl, d1, show 5 + y.d.data.toList.length - 5 = y.d.data.toList.length by omega, List.take_left] at e1
  rw [d2, show 6 + y.d.data.toList.length + y.c.data.toList.length - (5 + y.d.data.toList.length + 1) = y.c.data.toList.length by omega, List.take_left] at e2
  rw [d3] at e3
  rw [e3] at hp
  obtain ⟨rfl, rfl⟩ := PrsM.unique hp (.inl ⟨rfl, by omega, p2, rfl⟩)
  have e4 : (⟨x1, x2, y.p⟩ : Po) = y := by
    cases y
    simp only at e1 e2
    rw [toList_inj e1, toList_inj e2]
  rw [e4] at hb
  rcases hb with hb | hb | hb
  · exact hb rfl
  · exact hb hy
  · exact hb he
theorem len_three : ∀ {l : List Nat}, l.length = 3 → ∃ i j k, l = [i, j, k]
  | [i, j, k], _ => ⟨i, j, k, rfl⟩
theorem slice_two (s : ByteArray) (i j : Nat) (h1 : i + 1 ≤ j) (h2 : j ≤ s.size) (W : World) : (Instr.slice 9 (.string s) (some (.int .i64 ((i : Int) + 1))) (some (.int .i64 (j : Int))) none).run Tryz.prog W = .ok (.string (s.extract (i + 1) j)) W := by
  have q1 : (0 : Int) ≤ (i : Int) + 1 := by omega
  have q2 : (i : Int) + 1 ≤ (j : Int) := by omega
  have q3 : (j : Int) ≤ (s.size : Int) := by omega
  have q4 : ((i : Int) + 1).toNat = i + 1 := by omega
  simp [go_sem, q1, q2, q3, q4]
attribute [local go_sem] gw_cell gw_frozen
attribute [local irreducible] RP.plainUpon RP.stepC
set_option maxRecDepth 100000 in
set_option maxHeartbeats 2000000 in
theorem rparse_any (s : ByteArray) (hs : s.size ≤ 900000) (w : World) (hl : LibOK w) :
    Calls Tryz.prog 45 #[.string s] w (OutPo w s.data.toList) := by
  have hX0 := Box3.new w (.string ⟨#[]⟩) (.string ⟨#[]⟩) (.int .i64 0) 65
  have hB0 := below_new w (.cells #[.string ⟨#[]⟩, .string ⟨#[]⟩, .int .i64 0] 65)
  obtain ⟨u, hu⟩ : ∃ u, u = w.alloc (.cells #[.string ⟨#[]⟩, .string ⟨#[]⟩, .int .i64 0] 65) := ⟨_, rfl⟩
  rw [← hu] at hX0 hB0
  have hgw : w.heap.size < u.heap.size := by rw [hu]; simp
  have HU := Lib.hid hu
  have HL := Lib.hid hl
  obtain ⟨t, ht⟩ : ∃ t, t = s.data.toList := ⟨_, rfl⟩
  rw [← ht]
  have HT := Lib.hid ht
  clear hu hl ht
  go_enter Tryz.func45, Tryz.ntmps45
  go_upto_region 3 with fail
  rw [← HU.out]
  go_loopw [4, 5] (fun v i wr => ∃ (k : Nat) (ps : List Nat), i = .int .i64 k ∧ k ≤ s.size ∧ ps.length ≤ 3 ∧ Hid (Below u.heap.size u wr) ∧ Hid (OwnI wr u.heap.size v (ps.map Int.ofNat)) ∧ Hid (posB t 0 3 = ps ++ posB (t.drop k) k (3 - ps.length))) (fun _ i _ => s.size - (RowKit.intOf i).toNat)
  case atStart => exact ⟨0, [], rfl, by omega, by simp, Lib.hid (Below.refl _ _), Lib.hid (OwnI.nil _ _), Lib.hid (by simp)⟩
  case round =>
    obtain ⟨k, ps, rfl, hk, hps, hB, hO, hP⟩ := hrel
    obtain ⟨A, c, rfl, hI⟩ := hO.out.isL
    have hlm : (ps.map Int.ofNat).length = ps.length := by simp
    rw [hlm] at hO hI ⊢
    have HI := Lib.hid hI
    clear hI hlm
    by_cases hgo : k < s.size ∧ ps.length < 3
    · obtain ⟨hlt, h3⟩ := hgo
      have dl : decide ((k : Int) < (s.size : Int)) = true := decide_eq_true (by omega)
      have d3 : decide ((ps.length : Int) < 3) = true := decide_eq_true (by omega)
      obtain ⟨b, hb⟩ : ∃ b, s[k] = b := ⟨_, rfl⟩
      have hst := posB_step (k := 2 - ps.length) (at_list s k hlt)
      rw [hb, ← HT.out, show 2 - ps.length + 1 = 3 - ps.length by omega] at hst
      by_cases h32 : b = 32
      · have e0 : ((b.toNat : Int) == 32) = true := by rw [h32]; rfl
        have HP2 := Lib.hid (show posB t 0 3 = (ps ++ [k]) ++ posB (t.drop (k + 1)) (k + 1) (3 - (ps ++ [k]).length) by
          rw [hP.out, hst, if_pos h32, List.append_assoc]
          simp [show 3 - (ps.length + 1) = 2 - ps.length by omega])
        have hz := hB.out.size
        have HMM := Lib.hid (show (ps.map Int.ofNat).length ≤ 1000000 by simp; omega)
        clear hst h32 hP
        go_wp2_with (at_builtin; refine append_i64 (.tmp 25) (.tmp 27) rfl rfl u.heap.size _ (ps.map Int.ofNat) k wr rfl rfl hO.out rfl HMM.out hz ?_)
        intro v' w' ho hg hd
        have HB2 := Lib.hid (hB.out.grown hg hz (fun g hg => (hO.out.lt' g hg).1))
        have HO2 := Lib.hid (show OwnI w' u.heap.size v' ((ps ++ [k]).map Int.ofNat) by rw [List.map_append]; exact ho)
        clear ho hg hd hB hO HI
        go_wp2
        go_roundw
        case rel => exact ⟨k + 1, ps ++ [k], by go_num, by omega, by simp; omega, HB2, HO2, HP2⟩
        case measure => simp [RowKit.intOf]; omega
      · have e0 : ((b.toNat : Int) == 32) = false := u8_ne (n := 32) (by omega) h32
        have HP2 := Lib.hid (show posB t 0 3 = ps ++ posB (t.drop (k + 1)) (k + 1) (3 - ps.length) by rw [hP.out, hst, if_neg h32])
        clear hst h32 hP
        go_wp2
        go_roundw
        case rel => exact ⟨k + 1, ps, by go_num, by omega, hps, hB, hO, HP2⟩
        case measure => simp [RowKit.intOf]; omega
    · have hfin : posB t 0 3 = ps := by
        rw [hP.out]
        by_cases h : k < s.size
        · rw [show 3 - ps.length = 0 by omega, posB_zero, List.append_nil]
        · rw [List.drop_of_length_le (by rw [HT.out, lt_list]; omega)]
          simp [posB]
      have HB := Lib.hid (hB0.trans (hB.out.mono (by omega)))
      have hX1 := hX0.below hB.out hgw
      obtain ⟨x0, x1, x2, y0, y1, y2, y3⟩ := hX1
      have hcase : (k < s.size ∧ decide ((ps.length : Int) < 3) = false) ∨ k = s.size := by
        by_cases h : k < s.size
        · exact .inl ⟨h, decide_eq_false (by omega)⟩
        · exact .inr (by omega)
      have L1 := Lib.hid (HL.out.below HB.out)
      have HFIN := Lib.hid hfin
      clear hP hfin hgo hX0 hB0 hB hO
      by_cases h3 : ps.length < 3
      · have HQ := Lib.hid (posB_few (t := t) (by rw [HFIN.out]; exact h3))
        have d3 : decide ((ps.length : Int) < 3) = true := decide_eq_true (by omega)
        rcases hcase with ⟨-, h⟩ | rfl
        · rw [h] at d3; cases d3
        · have dl : decide ((s.size : Int) < (s.size : Int)) = false := decide_eq_false (by omega)
          clear h3 hps
          go_wp2
          refine bodyPost_ret (v := .tuple #[.agg #[.string ⟨#[]⟩, .string ⟨#[]⟩, .int .i64 0], .int .i64 3]) (by simp only [results, Tryz.results45]; go_simp) rfl ⟨noPo, 3, rfl, HQ.out, ?_⟩
          have hBB := HB.out
          exact (by repeat' (first | (with_reducible exact Below.refl _ _) | (with_reducible assumption) | (with_reducible refine below_drewN ?_ _) | (with_reducible refine below_step (by assumption) ?_ ?_) | (with_reducible refine Below.alloc ?_ ?_ _) | (with_reducible refine Below.setCell ?_ ?_ _) | (with_reducible refine Below.drew ?_) | go_size | (exact Below.size (by assumption)) | (refine Nat.le_trans (Below.size (by assumption)) ?_)))
      · have d3 : decide ((ps.length : Int) < 3) = false := decide_eq_false (by omega)
        obtain ⟨i1, i2, i3, rfl⟩ := len_three (l := ps) (by omega)
        obtain ⟨b1, b2, b3⟩ := posB_three HFIN.out
        rw [HT.out, lt_list] at b3
        obtain ⟨-, hI⟩ := HI.out
        obtain ⟨g, o, rfl, hlt, hc⟩ := hI (by simp)
        have c1 := hc 0 (by simp)
        have c2 := hc 1 (by simp)
        have c3 := hc 2 (by simp)
        simp only [List.map_cons, List.map_nil, List.getD_cons_zero, List.getD_cons_succ, Nat.add_zero] at c1 c2 c3
        obtain ⟨t1, ht1⟩ : ∃ x, x = s.extract (i1 + 1) i2 := ⟨_, rfl⟩
        obtain ⟨t2, ht2⟩ : ∃ x, x = s.extract (i2 + 1) i3 := ⟨_, rfl⟩
        obtain ⟨t3, ht3⟩ : ∃ x, x = s.extract (i3 + 1) s.size := ⟨_, rfl⟩
        have h3s : t3.size ≤ 900000 := by rw [ht3, ByteArray.size_extract]; omega
        have HPP := Lib.hid (fun p z hp hb => rparse_plain (x1 := t1) (x2 := t2) (x3 := t3) (p := p) (z := z) HFIN.out (by rw [ht1, ext_list, HT.out]) (by rw [ht2, ext_list, HT.out]) (by rw [ht3, ext_list, HT.out, List.take_of_length_le (by rw [List.length_drop, lt_list]; exact Nat.le_refl _)]) hp hb)
        have HT3 := Lib.hid ht3.symm
        have HT1 := Lib.hid ht1.symm
        have HT2 := Lib.hid ht2.symm
        clear hc hI h3 hps ht1 ht2 ht3 HFIN HI
        rcases hcase with ⟨dl, -⟩ | rfl
        all_goals (
          go_wp2_with fail
          rw [HT3.out]
          refine (rparseMoney_any t3 h3s _).mono ?_
          rintro e w2 ⟨p, z, rfl, hp, hb2⟩
          obtain ⟨p1, p2, hz⟩ := prsM_bd hp
          have HP := Lib.hid hp
          have hX2 := Box3.keep hb2 ⟨x0, x1, x2, y0, y1, y2, y3⟩
          have hB2 := HB.out.trans (hb2.mono HB.out.size)
          have L2 := Lib.hid (L1.out.below hb2)
          have e1 := (hb2.cell (p := ⟨g, o, none⟩) hlt).trans c1
          have e2 := (hb2.cell (p := ⟨g, o + 1, none⟩) hlt).trans c2
          have e3 := (hb2.cell (p := ⟨g, o + 2, none⟩) hlt).trans c3
          have hlt2 : g < w2.heap.size := Nat.lt_of_lt_of_le hlt hb2.size
          clear x0 x1 x2 y0 y1 y2 y3 HB L1 hb2 c1 c2 c3 hlt hp h3s HT3
          rcases hz with rfl | rfl
          rotate_left 1
          · have HQ := Lib.hid (HPP.out p 3 HP.out (.inl (by decide)))
            obtain ⟨x0, x1, x2, y0, y1, y2, y3⟩ := hX2
            clear e1 e2 e3
            go_wp2
            refine bodyPost_ret (v := .tuple #[.agg #[.string ⟨#[]⟩, .string ⟨#[]⟩, .int .i64 0], .int .i64 3]) (by simp only [results, Tryz.results45]; go_simp) rfl ⟨noPo, 3, rfl, HQ.out, (by repeat' (first | (with_reducible exact Below.refl _ _) | (with_reducible assumption) | (with_reducible refine below_drewN ?_ _) | (with_reducible refine below_step (by assumption) ?_ ?_) | (with_reducible refine Below.alloc ?_ ?_ _) | (with_reducible refine Below.setCell ?_ ?_ _) | (with_reducible refine Below.drew ?_) | go_size | (exact Below.size (by assumption)) | (refine Nat.le_trans (Below.size (by assumption)) ?_)))⟩
          · have hs1 := fun W => slice_two s i1 i2 (by omega) (by omega) W
            have hs2 := fun W => slice_two s i2 i3 (by omega) (by omega) W
            simp only [HT1.out] at hs1
            simp only [HT2.out] at hs2
            go_upto_region 12 with fail
            obtain ⟨v0, hv0⟩ : ∃ v : GW w2, { w2 with drawn := w2.drawn + 1 } = v.val := ⟨⟨_, (Below.refl _ _).drew⟩, rfl⟩
            refine RP.region_treePS (C := fun w' => ∃ v : GW w2, w' = v.val) (fun _ _ _ => False) [0, 1, 2, 3, 4, 5, 6, 7, 8, 9, 10, 11, 12, 13, 14, 15, 16, 17, 18, 19] (.one 20 .nil) 21 (fun _ _ _ h => h.elim) (by kernel_rfl) (by kernel_rfl) ⟨v0, hv0⟩ ?_
            simp only [pickL, List.getElem?_cons_zero, List.getElem?_cons_succ]
            repeat (go_big_quiet_step (rfl))
            refine wpQuiet_nil ?_
            rw [hv0]
            simp only [RP.treeS, atOp, List.getElem?_cons_zero, List.getElem?_cons_succ]
            have hA : Below w2.heap.size w2 (v0.val.alloc (.cells #[.string ⟨#[]⟩, .string ⟨#[]⟩, .int .i64 0] 65)) := v0.below.alloc v0.below.size _
            refine ⟨⟨v0, rfl⟩, ?_⟩
            refine RP.p_val (.pointer (some ⟨v0.val.heap.size, 0, none⟩)) (v0.val.alloc (.cells #[.string ⟨#[]⟩, .string ⟨#[]⟩, .int .i64 0] 65)) rfl (by go_simp) ?_
            refine ⟨⟨⟨_, hA⟩, rfl⟩, ?_⟩
            refine RP.p_skip (v0.val.alloc (.cells #[.string t1, .string t2, .int .i64 p] 65)) rfl (by go_simp) ?_
            go_simp
            have hX3 := hX2.keep v0.below
            have hB3 := hB2.trans (v0.below.mono hB2.size)
            have L3 := L2.out.below v0.below
            have hY := Box3.new v0.val (.string t1) (.string t2) (.int .i64 p) 65
            have hX4 := hX3.keep (below_new v0.val (.cells #[.string t1, .string t2, .int .i64 p] 65))
            have hB4 := hB3.trans ((below_new v0.val (.cells #[.string t1, .string t2, .int .i64 p] 65)).mono hB3.size)
            have L4 := Lib.hid (L3.below (below_new v0.val (.cells #[.string t1, .string t2, .int .i64 p] 65)))
            have hne : v0.val.heap.size ≠ w.heap.size := by have := hX3.lt; omega
            obtain ⟨u4, hu4⟩ : ∃ u, u = v0.val.alloc (.cells #[.string t1, .string t2, .int .i64 p] 65) := ⟨_, rfl⟩
            obtain ⟨b4, hb4⟩ : ∃ b, b = v0.val.heap.size := ⟨_, rfl⟩
            rw [← hu4] at hY hX4 hB4 L4 ⊢
            rw [← hb4] at hY hne ⊢
            clear hX2 hB2 L2 e1 e2 e3 hlt2 hv0 hA hX3 hB3 L3 hu4 hb4
            obtain ⟨r, zf, hm⟩ : ∃ r zf, fmtP ⟨t1, t2, p⟩ = (r, zf) := ⟨_, _, rfl⟩
            have HF := Lib.hid (rfmt_any ⟨t1, t2, p⟩ (by show _ ≤ p; omega) (by show p ≤ _; omega) r zf hm u4 L4.out)
            have HM := Lib.hid hm
            clear hm
            obtain ⟨x0, x1, x2, x3, x4, x5, x6⟩ := hY
            go_wp2_with fail
            refine HF.out.mono ?_
            rintro e w5 ⟨rfl, hb5⟩
            have hY := Box3.keep hb5 ⟨x0, x1, x2, x3, x4, x5, x6⟩
            have hX5 := hX4.keep hb5
            have hB5 := hB4.trans (hb5.mono hB4.size)
            clear HF x0 x1 x2 x3 x4 x5 x6 hX4 hB4 L4 hb5
            obtain ⟨x0, x1, x2, x3, x4, x5, x6⟩ := hY
            obtain ⟨y0, y1, y2, y3, y4, y5, y6⟩ := hX5
            · by_cases hzf : zf = 0
              · subst hzf
                have hv : valPo [⟨t1, t2, p⟩] = 0 := by
                  by_cases h : valPo [⟨t1, t2, p⟩] = 0
                  · exact h
                  · have := HM.out; rw [fmtP, if_neg h] at this; exact absurd (congrArg Prod.snd this) h
                have hr : r = ⟨(postT ⟨t1, t2, p⟩).toArray⟩ := by
                  have := HM.out; rw [fmtP, if_pos hv] at this; exact (congrArg Prod.fst this).symm
                have hrl : r.data.toList = postT ⟨t1, t2, p⟩ := by rw [hr]
                by_cases hq : postT ⟨t1, t2, p⟩ = t
                · have HQ : Hid (PrsP t ⟨t1, t2, p⟩ 0) := Lib.hid (.inl ⟨rfl, hv, hq⟩)
                  have hrs : r = s := toList_eq (hrl.trans (hq.trans HT.out))
                  subst hrs
                  clear hv hr hrl hq HM
                  go_wp2
                  refine bodyPost_ret (v := .tuple #[.agg #[.string t1, .string t2, .int .i64 p], .int .i64 0]) (by simp only [results, Tryz.results45]; go_simp) rfl ⟨⟨t1, t2, p⟩, 0, rfl, HQ.out, (by repeat' (first | (with_reducible exact Below.refl _ _) | (with_reducible assumption) | (with_reducible refine below_drewN ?_ _) | (with_reducible refine below_step (by assumption) ?_ ?_) | (with_reducible refine Below.alloc ?_ ?_ _) | (with_reducible refine Below.setCell ?_ ?_ _) | (with_reducible refine Below.drew ?_) | go_size | (exact Below.size (by assumption)) | (refine Nat.le_trans (Below.size (by assumption)) ?_)))⟩
                · have HQ := Lib.hid (HPP.out p 0 HP.out (.inr (.inr hq)))
                  have q1 : (r.toList == s.toList) = false := by rw [beq_eq_false_iff_ne, Lib.toList_data, Lib.toList_data, hrl, ← HT.out]; exact hq
                  have q2 : (r.toList != s.toList) = true := by rw [bne_iff_ne, Lib.toList_data, Lib.toList_data, hrl, ← HT.out]; exact hq
                  clear hv hr hrl hq HM
                  go_wp2
                  refine bodyPost_ret (v := .tuple #[.agg #[.string ⟨#[]⟩, .string ⟨#[]⟩, .int .i64 0], .int .i64 3]) (by simp only [results, Tryz.results45]; go_simp) rfl ⟨noPo, 3, rfl, HQ.out, (by repeat' (first | (with_reducible exact Below.refl _ _) | (with_reducible assumption) | (with_reducible refine below_drewN ?_ _) | (with_reducible refine below_step (by assumption) ?_ ?_) | (with_reducible refine Below.alloc ?_ ?_ _) | (with_reducible refine Below.setCell ?_ ?_ _) | (with_reducible refine Below.drew ?_) | go_size | (exact Below.size (by assumption)) | (refine Nat.le_trans (Below.size (by assumption)) ?_)))⟩
              · have HQ := Lib.hid (HPP.out p 0 HP.out (.inr (.inl fun h => hzf (by have := HM.out; rw [fmtP, if_pos h] at this; exact (congrArg Prod.snd this).symm))))
                have q1 : (zf != 0) = true := by rw [bne_iff_ne]; exact hzf
                clear hzf HM
                go_wp2
                refine bodyPost_ret (v := .tuple #[.agg #[.string ⟨#[]⟩, .string ⟨#[]⟩, .int .i64 0], .int .i64 3]) (by simp only [results, Tryz.results45]; go_simp) rfl ⟨noPo, 3, rfl, HQ.out, (by repeat' (first | (with_reducible exact Below.refl _ _) | (with_reducible assumption) | (with_reducible refine below_drewN ?_ _) | (with_reducible refine below_step (by assumption) ?_ ?_) | (with_reducible refine Below.alloc ?_ ?_ _) | (with_reducible refine Below.setCell ?_ ?_ _) | (with_reducible refine Below.drew ?_) | go_size | (exact Below.size (by assumption)) | (refine Nat.le_trans (Below.size (by assumption)) ?_)))⟩)
end Go.Proofs.YtaadelcmhbgpnaaGreatDoor
