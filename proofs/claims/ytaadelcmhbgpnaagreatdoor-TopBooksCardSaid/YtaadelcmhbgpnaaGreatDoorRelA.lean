/-
  BOOKS: Relation, Merge and Extend of the program and of the reference.
-/
import Derived.Test.YtaadelcmhbgpnaaGreatDoorFinB
namespace Go.Proofs.YtaadelcmhbgpnaaGreatDoor
open Go.RowKit
open Go.Lib
attribute [local go_sem] grow_cell grow_frozen
def eqLn (x y : Ln) : Bool := decide (x.n = y.n) && (decide (x.t = y.t) && decide (x.z = y.z))
theorem eqLn_iff {x y : Ln} : eqLn x y = true ↔ x = y := by
  unfold eqLn
  rw [Bool.and_eq_true, Bool.and_eq_true, decide_eq_true_eq, decide_eq_true_eq, decide_eq_true_eq]
  cases x; cases y; simp
def relL : List Ln → List Ln → Nat → Int × Int
  | x :: l, y :: m, i => if eqLn x y = true then relL l m (i + 1) else (3, (i : Int) + 1)
  | [], _ :: _, _ => (1, 0)
  | _ :: _, [], _ => (2, 0)
  | [], [], _ => (0, 0)
def relV (X Y : List UInt8) : Int × Int × Int :=
  if (readB 200 1 0 X).2 ≠ [] ∨ (readB 200 1 0 Y).2 ≠ [] then (0, 0, 15)
  else ((relL (lnS 1 0 (readB 200 1 0 X).1) (lnS 1 0 (readB 200 1 0 Y).1) 0).1, (relL (lnS 1 0 (readB 200 1 0 X).1) (lnS 1 0 (readB 200 1 0 Y).1) 0).2, 0)
theorem relL_step {l m : List Ln} {k : Nat} (h1 : k < l.length) (h2 : k < m.length) : relL (l.drop k) (m.drop k) k = if eqLn l[k] m[k] = true then relL (l.drop (k + 1)) (m.drop (k + 1)) (k + 1) else (3, (k : Int) + 1) := by
  rw [List.drop_eq_getElem_cons h1, List.drop_eq_getElem_cons h2, relL]
theorem relL_end {l m : List Ln} {k : Nat} (h1 : k ≤ l.length) (h2 : k ≤ m.length) (h : ¬ (k < l.length ∧ k < m.length)) : relL (l.drop k) (m.drop k) k = if l.length < m.length then (1, 0) else if m.length < l.length then (2, 0) else (0, 0) := by
  by_cases hl : k < l.length
  · have hm : k = m.length := by omega
    rw [List.drop_eq_getElem_cons hl, List.drop_of_length_le (show m.length ≤ k by omega), relL, if_neg (by omega), if_pos (by omega)]
  · have hl' : k = l.length := by omega
    rw [List.drop_of_length_le (show l.length ≤ k by omega)]
    by_cases hm : k < m.length
    · rw [List.drop_eq_getElem_cons hm, relL, if_pos (by omega)]
    · rw [List.drop_of_length_le (show m.length ≤ k by omega), relL, if_neg (by omega), if_neg (by omega)]
theorem ret_iii {a b c a' b' c' : Int} (h : (a, b, c) = (a', b', c')) : Ending.returned (.tuple #[.int .i64 a, .int .i64 b, .int .i64 c]) = .returned (.tuple #[.int .i64 a', .int .i64 b', .int .i64 c']) := by
  simp only [Prod.mk.injEq] at h
  obtain ⟨rfl, rfl, rfl⟩ := h
  rfl
set_option maxRecDepth 100000 in
set_option maxHeartbeats 4000000 in
theorem prel_any (s t : ByteArray) (hs : s.size ≤ 1000000) (ht : t.size ≤ 1000000) (r n z : Int) (hm : relV s.data.toList t.data.toList = (r, n, z)) (w : World) (hl : LibOK w) :
    Calls Tryz.prog 18 #[.string s, .string t] w fun e w' => e = .returned (.tuple #[.int .i64 r, .int .i64 n, .int .i64 z]) ∧ Below w.heap.size w w' := by
  have HW1 := Lib.hid (pwhole_any s hs w hl)
  have HW2 := Lib.hid (fun w' h => pwhole_any t ht w' h)
  have HL := Lib.hid hl
  have k1 := read_200 s.data.toList
  have k2 := read_200 t.data.toList
  clear hl
  by_cases h0 : (readB 200 1 0 s.data.toList).2 = []
  rotate_left
  · rw [relV, if_pos (.inl h0)] at hm
    have HM := Lib.hid hm
    clear hm k1 k2
    go_enter Tryz.func18, Tryz.ntmps18
    go_wp2_with fail
    refine HW1.out.mono ?_
    rintro e w1 ⟨hb1, h⟩
    rcases h with ⟨h, rfl⟩ | ⟨h, v, rfl, hO⟩
    · clear HW1 h h0
      go_wp2
      go_ret3
      exact ⟨ret_iii HM.out, hb1⟩
    · exact absurd h h0
  obtain ⟨us, hus⟩ : ∃ us, us = (readB 200 1 0 s.data.toList).1 := ⟨_, rfl⟩
  have H1 := Lib.hid (show readB 200 1 0 s.data.toList = (us, []) by rw [hus, ← h0])
  by_cases h9 : (readB 200 1 0 t.data.toList).2 = []
  rotate_left
  · rw [relV, if_pos (.inr h9)] at hm
    have HM := Lib.hid hm
    have H9 := Lib.hid h9
    clear hm k1 k2 hus h0 h9
    go_enter Tryz.func18, Tryz.ntmps18
    go_wp2_with fail
    refine HW1.out.mono ?_
    rintro e w1 h
    obtain ⟨hb1, v1, rfl, hO1⟩ := whole_yes h H1.out
    obtain ⟨A1, c1, rfl, hI1, -⟩ := hO1.parts
    have L1 := Lib.hid (HL.out.below hb1)
    clear h hO1 hI1 HW1
    go_wp2_with fail
    refine (HW2.out _ L1.out).mono ?_
    rintro e w2 ⟨hb2, h⟩
    rcases h with ⟨h, rfl⟩ | ⟨h, v, rfl, hO⟩
    · clear HW2 h
      go_wp2
      go_ret3
      exact ⟨ret_iii HM.out, hb1.trans (hb2.mono hb1.size)⟩
    · exact absurd h H9.out
  · obtain ⟨ts, hts⟩ : ∃ us, us = (readB 200 1 0 t.data.toList).1 := ⟨_, rfl⟩
    have H2 := Lib.hid (show readB 200 1 0 t.data.toList = (ts, []) by rw [hts, ← h9])
    rw [relV, if_neg (fun h => h.elim (fun h => h h0) (fun h => h h9)), ← hus, ← hts] at hm
    rw [← hus] at k1
    rw [← hts] at k2
    obtain ⟨l, hll⟩ : ∃ l, l = lnS 1 0 us := ⟨_, rfl⟩
    obtain ⟨m, hmm⟩ : ∃ l, l = lnS 1 0 ts := ⟨_, rfl⟩
    have e1 : us.length = l.length := by rw [hll, lnS_len]
    have e2 : ts.length = m.length := by rw [hmm, lnS_len]
    rw [← hll, ← hmm] at hm
    rw [e1] at k1
    rw [e2] at k2
    have HM := Lib.hid hm
    have HLL := Lib.hid (And.intro hll.symm (And.intro hmm.symm (And.intro e1 e2)))
    clear hm hus hts h0 h9 hll hmm e1 e2
    go_enter Tryz.func18, Tryz.ntmps18
    go_wp2_with fail
    refine HW1.out.mono ?_
    rintro e w1 h
    obtain ⟨hb1, v1, rfl, hO1⟩ := whole_yes h H1.out
    rw [HLL.out.1] at hO1
    obtain ⟨A1, c1, rfl, hI1, -⟩ := hO1.parts
    have L1 := Lib.hid (HL.out.below hb1)
    have HI0 := Lib.hid hI1
    clear h hO1 hI1 HW1
    go_wp2_with fail
    refine (HW2.out _ L1.out).mono ?_
    rintro e w2 h
    obtain ⟨hb2, v2, rfl, hO2⟩ := whole_yes h H2.out
    rw [HLL.out.2.1] at hO2
    obtain ⟨A2, c2, rfl, hI2, -⟩ := hO2.parts
    have HI1 := Lib.hid (HI0.out.below hb2)
    have HI2 := Lib.hid hI2
    have HB2 := Lib.hid (hb1.trans (hb2.mono hb1.size))
    clear h hO2 hI2 HW2 HI0 hb1 hb2 L1 H1 H2
    go_upto_region 8 with fail
    go_loopw [31] (fun i wr => ∃ k : Nat, i = .int .i64 k ∧ k ≤ l.length ∧ k ≤ m.length ∧ Hid (relL (l.drop k) (m.drop k) k = relL l m 0) ∧ Hid (Below w2.heap.size w2 wr)) (fun i _ => l.length - (RowKit.intOf i).toNat)
    case atStart => exact ⟨0, rfl, by omega, by omega, Lib.hid rfl, Lib.hid (Below.refl _ _)⟩
    case round =>
      obtain ⟨k, rfl, hk1, hk2, hR, hB⟩ := hrel
      by_cases hlt : k < l.length ∧ k < m.length
      · obtain ⟨hl1, hl2⟩ := hlt
        have d1 : decide ((k : Int) < (l.length : Int)) = true := decide_eq_true (by omega)
        have d2 : decide ((k : Int) < (m.length : Int)) = true := decide_eq_true (by omega)
        have d3 : decide ((k : Int) < min (l.length : Int) (m.length : Int)) = true := decide_eq_true (by omega)
        have hst := relL_step hl1 hl2
        rw [hR.out] at hst
        obtain ⟨b, o, rfl, hb, hc⟩ := (HI1.out.below hB.out) (by omega)
        obtain ⟨b2, o2, rfl, hb2, hc2⟩ := (HI2.out.below hB.out) (by omega)
        obtain ⟨q0, q1, q2⟩ := hc k hl1
        obtain ⟨p0, p1, p2⟩ := hc2 k hl2
        obtain ⟨⟨xn, xt, xz⟩, hx⟩ : ∃ x, x = l[k] := ⟨_, rfl⟩
        obtain ⟨⟨yn, yt, yz⟩, hy⟩ : ∃ x, x = m[k] := ⟨_, rfl⟩
        rw [← hx] at q0 q1 q2 hst
        rw [← hy] at p0 p1 p2 hst
        simp only at q0 q1 q2 p0 p1 p2
        clear hc hc2 hx hy hR
        by_cases e1 : xn = yn
        · subst e1
          by_cases e2 : xt = yt
          · subst e2
            by_cases e3 : xz = yz
            · subst e3
              rw [if_pos (eqLn_iff.2 rfl)] at hst
              have HR2 := Lib.hid hst.symm
              clear hst
              go_upto_region 10 with fail
              refine region_grow (by kernel_rfl) (by kernel_rfl) ?_
              repeat (go_big_quiet_step ((fail)))
              refine wpQuiet_nil ?_
              rintro w5 ⟨xg, hxg⟩
              have hb5 := below_grow wr xg
              rw [← hxg] at hb5
              clear hxg xg
              have HB5 := Lib.hid (hB.out.trans (hb5.mono hB.out.size))
              clear hb5 q0 q1 q2 p0 p1 p2
              go_wp2
              go_roundw
              case rel => exact ⟨k + 1, by go_num, by omega, by omega, HR2, HB5⟩
              case measure => simp [RowKit.intOf]; omega
            · rw [if_neg (fun h => e3 (by have := eqLn_iff.1 h; simp only [Ln.mk.injEq] at this; exact this.2.2))] at hst
              have HST := Lib.hid hst
              have f1 : (xz == yz) = false := by rw [beq_eq_false_iff_ne]; exact e3
              clear hst e3
              go_upto_region 10 with fail
              refine region_grow (by kernel_rfl) (by kernel_rfl) ?_
              repeat (go_big_quiet_step ((fail)))
              refine wpQuiet_nil ?_
              rintro w5 ⟨xg, hxg⟩
              have hb5 := below_grow wr xg
              rw [← hxg] at hb5
              clear hxg xg
              go_wp2
              go_ret3
              exact ⟨ret_iii (by rw [← HM.out, HST.out]), HB2.out.trans ((hB.out.trans (hb5.mono hB.out.size)).mono HB2.out.size)⟩
          · rw [if_neg (fun h => e2 (by have := eqLn_iff.1 h; simp only [Ln.mk.injEq] at this; exact this.2.1))] at hst
            have HST := Lib.hid hst
            have f1 : (xt.toList == yt.toList) = false := by
              rw [beq_eq_false_iff_ne, Lib.toList_data, Lib.toList_data]
              exact fun h => e2 (toList_inj h)
            clear hst e2
            go_upto_region 10 with fail
            refine region_grow (by kernel_rfl) (by kernel_rfl) ?_
            repeat (go_big_quiet_step ((fail)))
            refine wpQuiet_nil ?_
            rintro w5 ⟨xg, hxg⟩
            have hb5 := below_grow wr xg
            rw [← hxg] at hb5
            clear hxg xg
            go_wp2
            go_ret3
            exact ⟨ret_iii (by rw [← HM.out, HST.out]), HB2.out.trans ((hB.out.trans (hb5.mono hB.out.size)).mono HB2.out.size)⟩
        · rw [if_neg (fun h => e1 (by have := eqLn_iff.1 h; simp only [Ln.mk.injEq] at this; exact this.1))] at hst
          have HST := Lib.hid hst
          have f1 : ((xn : Int) == (yn : Int)) = false := by rw [beq_eq_false_iff_ne]; omega
          clear hst e1
          go_upto_region 10 with fail
          refine region_grow (by kernel_rfl) (by kernel_rfl) ?_
          repeat (go_big_quiet_step ((fail)))
          refine wpQuiet_nil ?_
          rintro w5 ⟨xg, hxg⟩
          have hb5 := below_grow wr xg
          rw [← hxg] at hb5
          clear hxg xg
          go_wp2
          go_ret3
          exact ⟨ret_iii (by rw [← HM.out, HST.out]), HB2.out.trans ((hB.out.trans (hb5.mono hB.out.size)).mono HB2.out.size)⟩
      · have hend := relL_end hk1 hk2 hlt
        rw [hR.out] at hend
        have d3 : decide ((k : Int) < min (l.length : Int) (m.length : Int)) = false := decide_eq_false (by omega)
        have hkk : (k < l.length ∧ k = m.length) ∨ k = l.length := by omega
        clear hlt hR
        by_cases c1 : l.length < m.length
        · rw [if_pos c1] at hend
          have HE := Lib.hid hend
          have g1 : decide ((l.length : Int) < (m.length : Int)) = true := decide_eq_true (by omega)
          obtain rfl : k = l.length := by omega
          clear hend hkk
          go_wp2
          go_ret3
          exact ⟨ret_iii (by rw [← HM.out, HE.out]), HB2.out.trans (hB.out.mono HB2.out.size)⟩
        · rw [if_neg c1] at hend
          have g1 : decide ((l.length : Int) < (m.length : Int)) = false := decide_eq_false (by omega)
          obtain rfl : k = m.length := by omega
          by_cases c2 : m.length < l.length
          · rw [if_pos c2] at hend
            have HE := Lib.hid hend
            have g2 : decide ((m.length : Int) < (l.length : Int)) = true := decide_eq_true (by omega)
            clear hend hkk
            go_wp2
            go_ret3
            exact ⟨ret_iii (by rw [← HM.out, HE.out]), HB2.out.trans (hB.out.mono HB2.out.size)⟩
          · rw [if_neg c2] at hend
            have HE := Lib.hid hend
            have g2 : decide ((m.length : Int) < (l.length : Int)) = false := decide_eq_false (by omega)
            have g3 : l.length = m.length := by omega
            clear hend hkk
            go_wp2
            go_ret3
            exact ⟨ret_iii (by rw [← HM.out, HE.out]), HB2.out.trans (hB.out.mono HB2.out.size)⟩
set_option maxRecDepth 100000 in
set_option maxHeartbeats 4000000 in
theorem rrel_any (s t : ByteArray) (hs : s.size ≤ 1000000) (ht : t.size ≤ 1000000) (r n z : Int) (hm : relV s.data.toList t.data.toList = (r, n, z)) (w : World) (hl : LibOK w) :
    Calls Tryz.prog 19 #[.string s, .string t] w fun e w' => e = .returned (.tuple #[.int .i64 r, .int .i64 n, .int .i64 z]) ∧ Below w.heap.size w w' := by
  have HW1 := Lib.hid (rread_any s hs w hl)
  have HW2 := Lib.hid (fun w' h => rread_any t ht w' h)
  have HL := Lib.hid hl
  have k1 := read_200 s.data.toList
  have k2 := read_200 t.data.toList
  obtain ⟨us, hus⟩ : ∃ us, us = (readB 200 1 0 s.data.toList).1 := ⟨_, rfl⟩
  obtain ⟨ts, hts⟩ : ∃ us, us = (readB 200 1 0 t.data.toList).1 := ⟨_, rfl⟩
  rw [← hus] at k1
  rw [← hts] at k2
  obtain ⟨l, hll⟩ : ∃ l, l = lnS 1 0 us := ⟨_, rfl⟩
  obtain ⟨m, hmm⟩ : ∃ l, l = lnS 1 0 ts := ⟨_, rfl⟩
  have e1 : us.length = l.length := by rw [hll, lnS_len]
  have e2 : ts.length = m.length := by rw [hmm, lnS_len]
  rw [e1] at k1
  rw [e2] at k2
  have HUT := Lib.hid (And.intro hus.symm hts.symm)
  have HLL := Lib.hid (And.intro hll.symm (And.intro hmm.symm (And.intro e1 e2)))
  have HMV := Lib.hid hm
  clear hl hus hts hll hmm e1 e2 hm
  go_enter Tryz.func19, Tryz.ntmps19
  go_wp2_with fail
  refine HW1.out.mono ?_
  rintro e w1 ⟨v1, u1, rfl, hu1, hO1, hb1⟩
  rw [HUT.out.1, HLL.out.1] at hO1
  obtain ⟨A1, c1, rfl, hI1, -⟩ := hO1.parts
  have L1 := Lib.hid (HL.out.below hb1)
  have HI0 := Lib.hid hI1
  have HU1 := Lib.hid hu1
  clear hO1 hI1 HW1 hu1
  go_wp2_with fail
  refine (HW2.out _ L1.out).mono ?_
  rintro e w2 ⟨v2, u2, rfl, hu2, hO2, hb2⟩
  rw [HUT.out.2, HLL.out.2.1] at hO2
  obtain ⟨A2, c2, rfl, hI2, -⟩ := hO2.parts
  have HI1 := Lib.hid (HI0.out.below hb2)
  have HI2 := Lib.hid hI2
  have HB2 := Lib.hid (hb1.trans (hb2.mono hb1.size))
  have HU2 := Lib.hid hu2
  clear hO2 hI2 HW2 HI0 hb1 hb2 L1 hu2
  have hm := HMV.out
  cases he1 : u1.toList.isEmpty
  · have h0 : (readB 200 1 0 s.data.toList).2 ≠ [] := by
      rw [← HU1.out]; intro h; rw [Lib.toList_data, h] at he1; cases he1
    rw [relV, if_pos (.inl h0)] at hm
    have HM := Lib.hid hm
    clear hm h0
    go_wp2
    go_ret3
    exact ⟨ret_iii HM.out, HB2.out⟩
  cases he2 : u2.toList.isEmpty
  · have h0 : (readB 200 1 0 t.data.toList).2 ≠ [] := by
      rw [← HU2.out]; intro h; rw [Lib.toList_data, h] at he2; cases he2
    rw [relV, if_pos (.inr h0)] at hm
    have HM := Lib.hid hm
    clear hm h0
    go_wp2
    go_ret3
    exact ⟨ret_iii HM.out, HB2.out⟩
  · have h0 : (readB 200 1 0 s.data.toList).2 = [] := by
      rw [← HU1.out]; rw [Lib.toList_data] at he1; exact List.isEmpty_iff.1 he1
    have h9 : (readB 200 1 0 t.data.toList).2 = [] := by
      rw [← HU2.out]; rw [Lib.toList_data] at he2; exact List.isEmpty_iff.1 he2
    rw [relV, if_neg (fun h => h.elim (fun h => h h0) (fun h => h h9)), HUT.out.1, HUT.out.2, HLL.out.1, HLL.out.2.1] at hm
    have HM := Lib.hid hm
    clear hm h0 h9 HMV HU1 HU2
    go_upto_region 6 with fail
    go_loopw [11] (fun i wr => ∃ k : Nat, i = .int .i64 k ∧ k ≤ l.length ∧ k ≤ m.length ∧ Hid (relL (l.drop k) (m.drop k) k = relL l m 0) ∧ Hid (Below w2.heap.size w2 wr)) (fun i _ => l.length - (RowKit.intOf i).toNat)
    case atStart => exact ⟨0, rfl, by omega, by omega, Lib.hid rfl, Lib.hid (Below.refl _ _)⟩
    case round =>
      obtain ⟨k, rfl, hk1, hk2, hR, hB⟩ := hrel
      by_cases hlt : k < l.length ∧ k < m.length
      · obtain ⟨hl1, hl2⟩ := hlt
        have d1 : decide ((k : Int) < (l.length : Int)) = true := decide_eq_true (by omega)
        have d2 : decide ((k : Int) < (m.length : Int)) = true := decide_eq_true (by omega)
        have d3 : decide ((k : Int) < min (l.length : Int) (m.length : Int)) = true := decide_eq_true (by omega)
        have hst := relL_step hl1 hl2
        rw [hR.out] at hst
        obtain ⟨b, o, rfl, hb, hc⟩ := (HI1.out.below hB.out) (by omega)
        obtain ⟨b2, o2, rfl, hb2, hc2⟩ := (HI2.out.below hB.out) (by omega)
        obtain ⟨q0, q1, q2⟩ := hc k hl1
        obtain ⟨p0, p1, p2⟩ := hc2 k hl2
        obtain ⟨⟨xn, xt, xz⟩, hx⟩ : ∃ x, x = l[k] := ⟨_, rfl⟩
        obtain ⟨⟨yn, yt, yz⟩, hy⟩ : ∃ x, x = m[k] := ⟨_, rfl⟩
        rw [← hx] at q0 q1 q2 hst
        rw [← hy] at p0 p1 p2 hst
        simp only at q0 q1 q2 p0 p1 p2
        clear hc hc2 hx hy hR
        by_cases e1 : xn = yn
        · subst e1
          by_cases e2 : xt = yt
          · subst e2
            by_cases e3 : xz = yz
            · subst e3
              rw [if_pos (eqLn_iff.2 rfl)] at hst
              have HR2 := Lib.hid hst.symm
              clear hst
              go_upto_region 8 with fail
              refine region_grow (by kernel_rfl) (by kernel_rfl) ?_
              repeat (go_big_quiet_step ((fail)))
              refine wpQuiet_nil ?_
              rintro w5 ⟨xg, hxg⟩
              have hb5 := below_grow wr xg
              rw [← hxg] at hb5
              clear hxg xg
              have HB5 := Lib.hid (hB.out.trans (hb5.mono hB.out.size))
              clear hb5 q0 q1 q2 p0 p1 p2
              go_wp2
              go_roundw
              case rel => exact ⟨k + 1, by go_num, by omega, by omega, HR2, HB5⟩
              case measure => simp [RowKit.intOf]; omega
            · rw [if_neg (fun h => e3 (by have := eqLn_iff.1 h; simp only [Ln.mk.injEq] at this; exact this.2.2))] at hst
              have HST := Lib.hid hst
              have f1 : (xz == yz) = false := by rw [beq_eq_false_iff_ne]; exact e3
              clear hst e3
              go_upto_region 8 with fail
              refine region_grow (by kernel_rfl) (by kernel_rfl) ?_
              repeat (go_big_quiet_step ((fail)))
              refine wpQuiet_nil ?_
              rintro w5 ⟨xg, hxg⟩
              have hb5 := below_grow wr xg
              rw [← hxg] at hb5
              clear hxg xg
              go_wp2
              go_ret3
              exact ⟨ret_iii (by rw [← HM.out, HST.out]), HB2.out.trans ((hB.out.trans (hb5.mono hB.out.size)).mono HB2.out.size)⟩
          · rw [if_neg (fun h => e2 (by have := eqLn_iff.1 h; simp only [Ln.mk.injEq] at this; exact this.2.1))] at hst
            have HST := Lib.hid hst
            have f1 : (xt.toList == yt.toList) = false := by
              rw [beq_eq_false_iff_ne, Lib.toList_data, Lib.toList_data]
              exact fun h => e2 (toList_inj h)
            clear hst e2
            go_upto_region 8 with fail
            refine region_grow (by kernel_rfl) (by kernel_rfl) ?_
            repeat (go_big_quiet_step ((fail)))
            refine wpQuiet_nil ?_
            rintro w5 ⟨xg, hxg⟩
            have hb5 := below_grow wr xg
            rw [← hxg] at hb5
            clear hxg xg
            go_wp2
            go_ret3
            exact ⟨ret_iii (by rw [← HM.out, HST.out]), HB2.out.trans ((hB.out.trans (hb5.mono hB.out.size)).mono HB2.out.size)⟩
        · rw [if_neg (fun h => e1 (by have := eqLn_iff.1 h; simp only [Ln.mk.injEq] at this; exact this.1))] at hst
          have HST := Lib.hid hst
          have f1 : ((xn : Int) == (yn : Int)) = false := by rw [beq_eq_false_iff_ne]; omega
          clear hst e1
          go_upto_region 8 with fail
          refine region_grow (by kernel_rfl) (by kernel_rfl) ?_
          repeat (go_big_quiet_step ((fail)))
          refine wpQuiet_nil ?_
          rintro w5 ⟨xg, hxg⟩
          have hb5 := below_grow wr xg
          rw [← hxg] at hb5
          clear hxg xg
          go_wp2
          go_ret3
          exact ⟨ret_iii (by rw [← HM.out, HST.out]), HB2.out.trans ((hB.out.trans (hb5.mono hB.out.size)).mono HB2.out.size)⟩
      · have hend := relL_end hk1 hk2 hlt
        rw [hR.out] at hend
        have d3 : decide ((k : Int) < min (l.length : Int) (m.length : Int)) = false := decide_eq_false (by omega)
        have hkk : (k < l.length ∧ k = m.length) ∨ k = l.length := by omega
        clear hlt hR
        by_cases c1 : l.length < m.length
        · rw [if_pos c1] at hend
          have HE := Lib.hid hend
          have g1 : decide ((l.length : Int) < (m.length : Int)) = true := decide_eq_true (by omega)
          obtain rfl : k = l.length := by omega
          clear hend hkk
          go_wp2
          go_ret3
          exact ⟨ret_iii (by rw [← HM.out, HE.out]), HB2.out.trans (hB.out.mono HB2.out.size)⟩
        · rw [if_neg c1] at hend
          have g1 : decide ((l.length : Int) < (m.length : Int)) = false := decide_eq_false (by omega)
          obtain rfl : k = m.length := by omega
          by_cases c2 : m.length < l.length
          · rw [if_pos c2] at hend
            have HE := Lib.hid hend
            have g2 : decide ((m.length : Int) < (l.length : Int)) = true := decide_eq_true (by omega)
            clear hend hkk
            go_wp2
            go_ret3
            exact ⟨ret_iii (by rw [← HM.out, HE.out]), HB2.out.trans (hB.out.mono HB2.out.size)⟩
          · rw [if_neg c2] at hend
            have HE := Lib.hid hend
            have g2 : decide ((m.length : Int) < (l.length : Int)) = false := decide_eq_false (by omega)
            have g3 : l.length = m.length := by omega
            clear hend hkk
            go_wp2
            go_ret3
            exact ⟨ret_iii (by rw [← HM.out, HE.out]), HB2.out.trans (hB.out.mono HB2.out.size)⟩
end Go.Proofs.YtaadelcmhbgpnaaGreatDoor
