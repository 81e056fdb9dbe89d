/-
  ParseRat, THE PROGRAM'S.
-/
import Derived.Test.YtclbjgelefbmlaaDoorTxtJ
import Derived.Lib.IndexMore
import Derived.Deep.DeepCutAuto
namespace Go.Proofs.YtclbjgelefbmlaaDoor
open Go.RowKit Go.Lib
theorem cut_len (s p : List UInt8) : (cut s p).1.length ≤ s.length ∧ (cut s p).2.1.length ≤ s.length := by
  unfold cut
  split
  · simp; omega
  · simp
theorem index_none {b : UInt8} {l : List UInt8} (h : b ∉ l) : index l [b] = -1 := by
  induction l with
  | nil => rfl
  | cons c r ih =>
    simp only [List.mem_cons, not_or] at h
    have hc : ([b].isPrefixOf (c :: r)) = false := by simp [List.isPrefixOf]; exact fun e => h.1 e
    simp only [index, hc, ih h.2]
    rfl
theorem index_app {b : UInt8} {l : List UInt8} (h : b ∉ l) (r : List UInt8) : index (l ++ b :: r) [b] = l.length := by
  induction l with
  | nil => simp [index, List.isPrefixOf]
  | cons c l ih =>
    simp only [List.mem_cons, not_or] at h
    have hc : ([b].isPrefixOf (c :: (l ++ b :: r))) = false := by simp [List.isPrefixOf]; exact fun e => h.1 e
    simp only [List.cons_append, index, hc, ih h.2]
    simp
theorem cut_none {b : UInt8} {l : List UInt8} (h : b ∉ l) : cut l [b] = (l, [], false) := by
  unfold cut; rw [index_none h]; rfl
theorem cut_app {b : UInt8} {l : List UInt8} (h : b ∉ l) (r : List UInt8) : cut (l ++ b :: r) [b] = (l, r, true) := by
  unfold cut
  rw [index_app h, if_pos (by omega)]
  simp [List.drop_append]
theorem cut47 (s : ByteArray) (p q : List UInt8) (f : Bool) (h : cut s.data.toList [47] = (p, q, f)) (hs : s.size ≤ 900000) (w : World) (hl : LibOK w) :
    Calls Tryd.prog 75 #[.string s, .string ⟨#[47]⟩] w fun e w' => e = .returned (.tuple #[.string ⟨p.toArray⟩, .string ⟨q.toArray⟩, .bool f]) ∧ Below w.heap.size w w' := by
  obtain ⟨m, hm⟩ := hl.mx
  have h' : cut s.data.toList (ByteArray.mk #[47]).data.toList = (p, q, f) := h
  refine (Tryd.strings_Cut s ⟨#[47]⟩ m w (by omega) hm).mono ?_
  rintro e w1 ⟨rfl, nd, rfl⟩
  rw [h']
  exact ⟨rfl, below_drewN (Below.refl _ _) _⟩
set_option maxRecDepth 100000 in
set_option maxHeartbeats 2000000 in
theorem parseRat_any (s : ByteArray) (hs : s.size ≤ 900000) (w : World) (hl : LibOK w) :
    Calls Tryd.prog 50 #[.string s] w (OutP w s.data.toList) := by
  have HL := Lib.hid hl
  have hcl := cut_len s.data.toList [47]
  obtain ⟨p, q, f, hcut⟩ : ∃ p q f, cut s.data.toList [47] = (p, q, f) := ⟨_, _, _, rfl⟩
  rw [hcut] at hcl
  simp only at hcl
  have hp : (⟨p.toArray⟩ : ByteArray).size ≤ 900000 := by have : s.data.toList.length = s.size := by simp
                                                          show p.toArray.size ≤ _
                                                          simp; omega
  have hq : (⟨q.toArray⟩ : ByteArray).size ≤ 900000 := by have : s.data.toList.length = s.size := by simp
                                                          show q.toArray.size ≤ _
                                                          simp; omega
  have HCUT := Lib.hid hcut
  clear hcut hcl hl
  go_enter Tryd.func50, Tryd.ntmps50
  go_wp2_with fail
  refine (cut47 s p q f HCUT.out hs _ (HL.out.below (by repeat' (first | (with_reducible exact Below.refl _ _) | (with_reducible assumption) | (with_reducible refine below_drewN ?_ _) | (with_reducible refine below_step (by assumption) ?_ ?_) | (with_reducible refine Below.alloc ?_ ?_ _) | (with_reducible refine Below.setCell ?_ ?_ _) | (with_reducible refine Below.drew ?_) | go_size | (exact Below.size (by assumption)) | (refine Nat.le_trans (Below.size (by assumption)) ?_))))).mono ?_
  rintro e w1 ⟨rfl, hb1⟩
  (have xa : Box2 w1 w.heap.size (.int .i64 0) (.int .i64 0) := Box2.keep (by assumption) (by repeat' (first | (with_reducible assumption) | (with_reducible refine Box2.drewN ?_ _) | (with_reducible refine Box2.drew ?_) | (with_reducible exact Box2.new _ _ _ _) | (with_reducible exact Box2.new1 _ _ _ _ _) | (with_reducible exact Box2.new2 _ _ _ _ _ _) | (with_reducible refine Box2.alloc ?_ _))); obtain ⟨c0xa, c1xa, f0xa, f1xa, zxa⟩ := id xa)
  obtain ⟨q1, hq1⟩ : ∃ q1, q1 = if f = true then q else [49] := ⟨_, rfl⟩
  have HQ1 := Lib.hid hq1
  clear hq1
  go_upto_if 21 with fail
  go_cut [5] (fun v wx => v = .string ⟨q1.toArray⟩ ∧ wx = w1)
  case first =>
    cases f
    · go_wp2_with fail
      go_meet
      exact ⟨by rw [HQ1.out]; rfl, rfl⟩
    · go_wp2_with fail
      go_meet
      exact ⟨by rw [HQ1.out]; rfl, rfl⟩
  case rest =>
    obtain ⟨rfl, hwx⟩ := hcut
    rw [hwx]
    clear hwx
    have hq1 : (⟨q1.toArray⟩ : ByteArray).size ≤ 1000000 := by
      rw [HQ1.out]
      split
      · omega
      · decide
    have hB1 : Below w.heap.size w w1 := (by repeat' (first | (with_reducible exact Below.refl _ _) | (with_reducible assumption) | (with_reducible refine below_drewN ?_ _) | (with_reducible refine below_step (by assumption) ?_ ?_) | (with_reducible refine Below.alloc ?_ ?_ _) | (with_reducible refine Below.setCell ?_ ?_ _) | (with_reducible refine Below.drew ?_) | go_size | (exact Below.size (by assumption)) | (refine Nat.le_trans (Below.size (by assumption)) ?_)))
    have L1 := Lib.hid (HL.out.below hB1)
    go_wp2_with fail
    refine (atoi_any ⟨p.toArray⟩ (by omega) _ L1.out).mono ?_
    rintro e w2 ⟨v1, er1, rfl, a1, a2, a3, hb2⟩
    have A3 := Lib.hid a3
    have L2 := Lib.hid (L1.out.below hb2)
    clear a3
    (have xb : Box2 w2 w.heap.size (.int .i64 0) (.int .i64 0) := Box2.keep (by assumption) (by repeat' (first | (with_reducible assumption) | (with_reducible refine Box2.drewN ?_ _) | (with_reducible refine Box2.drew ?_) | (with_reducible exact Box2.new _ _ _ _) | (with_reducible exact Box2.new1 _ _ _ _ _) | (with_reducible exact Box2.new2 _ _ _ _ _ _) | (with_reducible refine Box2.alloc ?_ _))); obtain ⟨c0xb, c1xb, f0xb, f1xb, zxb⟩ := id xb)
    go_wp2_with fail
    refine (atoi_any ⟨q1.toArray⟩ hq1 _ L2.out).mono ?_
    rintro e w3 ⟨v2, er2, rfl, b1, b2, b3, hb3⟩
    have B3 := Lib.hid b3
    have L3 := Lib.hid (L2.out.below hb3)
    clear b3
    (have xc : Box2 w3 w.heap.size (.int .i64 0) (.int .i64 0) := Box2.keep (by assumption) (by repeat' (first | (with_reducible assumption) | (with_reducible refine Box2.drewN ?_ _) | (with_reducible refine Box2.drew ?_) | (with_reducible exact Box2.new _ _ _ _) | (with_reducible exact Box2.new1 _ _ _ _ _) | (with_reducible exact Box2.new2 _ _ _ _ _ _) | (with_reducible refine Box2.alloc ?_ _))); obtain ⟨c0xc, c1xc, f0xc, f1xc, zxc⟩ := id xc)
    have hB3 : Below w.heap.size w w3 := (by repeat' (first | (with_reducible exact Below.refl _ _) | (with_reducible assumption) | (with_reducible refine below_drewN ?_ _) | (with_reducible refine below_step (by assumption) ?_ ?_) | (with_reducible refine Below.alloc ?_ ?_ _) | (with_reducible refine Below.setCell ?_ ?_ _) | (with_reducible refine Below.drew ?_) | go_size | (exact Below.size (by assumption)) | (refine Nat.le_trans (Below.size (by assumption)) ?_)))
    go_upto_region 7 with fail
    obtain ⟨w6, hw6⟩ : ∃ w6, w6 = w3.alloc (.cells #[.int .i64 v1, .int .i64 v2] 23) := ⟨_, rfl⟩
    rw [← hw6]
    have AA : Hid (Box2 w6 w3.heap.size (.int .i64 v1) (.int .i64 v2)) := by rw [hw6]; exact Box2.new w3 _ _ _
    have RR : Hid (Box2 w6 w.heap.size (.int .i64 0) (.int .i64 0)) := by rw [hw6]; exact xc.alloc _
    have BB : Hid (Below w.heap.size w w6) := by rw [hw6]; exact hB3.alloc hB3.size _
    have L6 : Hid (LibOK w6) := by rw [hw6]; exact L3.out.below ((Below.refl _ _).alloc (Nat.le_refl _) _)
    clear hw6
    obtain ⟨p0, p1, p2, p3, p4⟩ := id AA.out
    have cpl : ∀ a c, vld a c = true → fmtR a c = s.data.toList → er1 = .nilIface ∧ v1 = a ∧ er2 = .nilIface ∧ v2 = c := by
      intro a c hv hf
      have bd := vld_bds hv
      have hpq : p = itoa a ∧ q1 = itoa c := by
        have hc := HCUT.out
        rw [← hf] at hc
        by_cases h1 : c = 1
        · subst h1
          rw [fmtR_one, cut_none (itoa_no_slash a)] at hc
          obtain ⟨rfl, h2⟩ := Prod.mk.inj hc
          obtain ⟨-, rfl⟩ := Prod.mk.inj h2
          exact ⟨rfl, by rw [HQ1.out, if_neg (by decide)]; decide +kernel⟩
        · rw [fmtR_two h1, cut_app (itoa_no_slash a)] at hc
          obtain ⟨rfl, h2⟩ := Prod.mk.inj hc
          obtain ⟨rfl, rfl⟩ := Prod.mk.inj h2
          exact ⟨rfl, by rw [HQ1.out, if_pos rfl]⟩
      have e1 := atoi_itoa a (by omega) (by omega)
      have e2 := atoi_itoa c (by omega) (by omega)
      rw [← hpq.1] at e1
      rw [← hpq.2] at e2
      have g1 : er1 = .nilIface ∧ v1 = a := by
        rcases A3.out with ⟨h1, h2⟩ | ⟨-, h2⟩
        · exact ⟨h1, by have := h2.symm.trans e1; injection this⟩
        · exact absurd e1 (h2 a)
      have g2 : er2 = .nilIface ∧ v2 = c := by
        rcases B3.out with ⟨h1, h2⟩ | ⟨-, h2⟩
        · exact ⟨h1, by have := h2.symm.trans e2; injection this⟩
        · exact absurd e2 (h2 c)
      exact ⟨g1.1, g1.2, g2.1, g2.2⟩
    have CP := Lib.hid cpl
    have C3 : (er1 = .nilIface ∨ ∃ N, er1 = .iface 102 (.pointer (some ⟨N, 0, none⟩))) := by
      rcases A3.out with ⟨h, -⟩ | ⟨h, -⟩
      · exact .inl h
      · exact .inr h
    have D3 : (er2 = .nilIface ∨ ∃ N, er2 = .iface 102 (.pointer (some ⟨N, 0, none⟩))) := by
      rcases B3.out with ⟨h, -⟩ | ⟨h, -⟩
      · exact .inl h
      · exact .inr h
    clear cpl A3 B3 hB3 hB1
    by_cases hg : er1 = .nilIface ∧ er2 = .nilIface ∧ vld v1 v2 = true ∧ fmtR v1 v2 = s.data.toList
    · obtain ⟨rfl, rfl, hv, hf⟩ := hg
      have HP : Hid (PrsR s.data.toList v1 v2 0) := .inl ⟨rfl, hv, hf⟩
      have hq : (fmtR v1 v2 == s.toList) = true := by rw [Lib.toList_data, hf]; simp
      have HV := Lib.hid hv
      clear hv hf CP C3 D3
      go_wp2_with fail
      refine (formatRat_yes v1 v2 a1 a2 b1 b2 HV.out _ L6.out).mono ?_
      rintro e w5 ⟨rfl, hb5⟩
      have k5 := AA.out.keep hb5
      have r5 := RR.out.keep hb5
      have B5 := Lib.hid (BB.out.trans (hb5.mono BB.out.size))
      clear p0 p1 p2 p3 p4
      obtain ⟨p0, p1, p2, p3, p4⟩ := id k5
      obtain ⟨r0, r1, r2, r3, r4⟩ := id r5
      clear k5 r5 hb5
      go_wp2
      refine bodyPost_ret (v := .tuple #[.agg #[.int .i64 v1, .int .i64 v2], .int .i64 0]) (by simp only [results, Tryd.results50]; go_simp) rfl ?_
      exact ⟨v1, v2, 0, rfl, HP.out, (B5.out.setCell (by simp) _).setCell (by simp) _⟩
    · have HP : Hid (PrsR s.data.toList 0 0 3) := prs_no fun a c hv hf => by
        obtain ⟨g1, rfl, g2, rfl⟩ := CP.out a c hv hf
        exact hg ⟨g1, g2, hv, hf⟩
      by_cases hv : vld v1 v2 = true
      · have hq : er1 = .nilIface → er2 = .nilIface → (fmtR v1 v2 == s.toList) = false := by
          intro h1 h2
          rw [Lib.toList_data, beq_eq_false_iff_ne]
          exact fun h => hg ⟨h1, h2, hv, h⟩
        have HV := Lib.hid hv
        clear hv hg CP
        rcases C3 with rfl | ⟨N1, rfl⟩
        · rcases D3 with rfl | ⟨N2, rfl⟩
          · replace hq := hq rfl rfl
            go_wp2_with fail
            refine (formatRat_yes v1 v2 a1 a2 b1 b2 HV.out _ L6.out).mono ?_
            rintro e w5 ⟨rfl, hb5⟩
            have k5 := AA.out.keep hb5
            have r5 := RR.out.keep hb5
            have B5 := Lib.hid (BB.out.trans (hb5.mono BB.out.size))
            clear p0 p1 p2 p3 p4
            obtain ⟨p0, p1, p2, p3, p4⟩ := id k5
            obtain ⟨r0, r1, r2, r3, r4⟩ := id r5
            clear k5 r5 hb5
            go_wp2
            refine bodyPost_ret (v := .tuple #[.agg #[.int .i64 0, .int .i64 0], .int .i64 3]) (by simp only [results, Tryd.results50]; go_simp) rfl ?_
            exact ⟨0, 0, 3, rfl, HP.out, (B5.out.setCell (by simp) _).setCell (by simp) _⟩
          · clear hq
            go_wp2_with fail
            refine (formatRat_yes v1 v2 a1 a2 b1 b2 HV.out _ L6.out).mono ?_
            rintro e w5 ⟨rfl, hb5⟩
            have k5 := AA.out.keep hb5
            have r5 := RR.out.keep hb5
            have B5 := Lib.hid (BB.out.trans (hb5.mono BB.out.size))
            clear p0 p1 p2 p3 p4
            obtain ⟨p0, p1, p2, p3, p4⟩ := id k5
            obtain ⟨r0, r1, r2, r3, r4⟩ := id r5
            clear k5 r5 hb5
            go_wp2
            refine bodyPost_ret (v := .tuple #[.agg #[.int .i64 0, .int .i64 0], .int .i64 3]) (by simp only [results, Tryd.results50]; go_simp) rfl ?_
            exact ⟨0, 0, 3, rfl, HP.out, (B5.out.setCell (by simp) _).setCell (by simp) _⟩
        · clear hq D3
          go_wp2_with fail
          refine (formatRat_yes v1 v2 a1 a2 b1 b2 HV.out _ L6.out).mono ?_
          rintro e w5 ⟨rfl, hb5⟩
          have k5 := AA.out.keep hb5
          have r5 := RR.out.keep hb5
          have B5 := Lib.hid (BB.out.trans (hb5.mono BB.out.size))
          clear p0 p1 p2 p3 p4
          obtain ⟨p0, p1, p2, p3, p4⟩ := id k5
          obtain ⟨r0, r1, r2, r3, r4⟩ := id r5
          clear k5 r5 hb5
          go_wp2
          refine bodyPost_ret (v := .tuple #[.agg #[.int .i64 0, .int .i64 0], .int .i64 3]) (by simp only [results, Tryd.results50]; go_simp) rfl ?_
          exact ⟨0, 0, 3, rfl, HP.out, (B5.out.setCell (by simp) _).setCell (by simp) _⟩
      · have HV := Lib.hid (show vld v1 v2 = false by simpa using hv)
        clear hv hg CP
        rcases C3 with rfl | ⟨N1, rfl⟩
        · rcases D3 with rfl | ⟨N2, rfl⟩
          all_goals
            go_wp2_with fail
            refine (formatRat_no v1 v2 a1 a2 b1 b2 HV.out _).mono ?_
            rintro e w5 ⟨rfl, hb5⟩
            have k5 := AA.out.keep hb5
            have r5 := RR.out.keep hb5
            have B5 := Lib.hid (BB.out.trans (hb5.mono BB.out.size))
            clear p0 p1 p2 p3 p4
            obtain ⟨p0, p1, p2, p3, p4⟩ := id k5
            obtain ⟨r0, r1, r2, r3, r4⟩ := id r5
            clear k5 r5 hb5
            go_wp2
            refine bodyPost_ret (v := .tuple #[.agg #[.int .i64 0, .int .i64 0], .int .i64 3]) (by simp only [results, Tryd.results50]; go_simp) rfl ?_
            exact ⟨0, 0, 3, rfl, HP.out, (B5.out.setCell (by simp) _).setCell (by simp) _⟩
        · clear D3
          go_wp2_with fail
          refine (formatRat_no v1 v2 a1 a2 b1 b2 HV.out _).mono ?_
          rintro e w5 ⟨rfl, hb5⟩
          have k5 := AA.out.keep hb5
          have r5 := RR.out.keep hb5
          have B5 := Lib.hid (BB.out.trans (hb5.mono BB.out.size))
          clear p0 p1 p2 p3 p4
          obtain ⟨p0, p1, p2, p3, p4⟩ := id k5
          obtain ⟨r0, r1, r2, r3, r4⟩ := id r5
          clear k5 r5 hb5
          go_wp2
          refine bodyPost_ret (v := .tuple #[.agg #[.int .i64 0, .int .i64 0], .int .i64 3]) (by simp only [results, Tryd.results50]; go_simp) rfl ?_
          exact ⟨0, 0, 3, rfl, HP.out, (B5.out.setCell (by simp) _).setCell (by simp) _⟩
end Go.Proofs.YtclbjgelefbmlaaDoor
