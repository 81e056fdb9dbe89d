/-
  BOOKS: the line that a book begins with: the program's first.
-/
import Derived.Test.YtaadelcmhbgpnaaGreatDoorBokJ
import Derived.Test.YtaadelcmhbgpnaaGreatDoorRegP
namespace Go.Proofs.YtaadelcmhbgpnaaGreatDoor
open Go.RowKit
open Go.Lib
/-- Worlds in which a line lies in one box, and another box is there. -/
structure FW (w : World) (b c : Nat) (x y z : Value) where
  val : World
  line : Box3 val b x y z
  box : ∃ p q r, Box3 val c p q r
  below : Below w.heap.size w val
  lib : LibOK val
theorem fw0 {w : World} {b c : Nat} {x y z : Value} (v : FW w b c x y z) : v.val.cell? ⟨b, 0, none⟩ = some x := v.line.c0
theorem fw1 {w : World} {b c : Nat} {x y z : Value} (v : FW w b c x y z) : v.val.cell? ⟨b, 1, none⟩ = some y := v.line.c1
theorem fw2 {w : World} {b c : Nat} {x y z : Value} (v : FW w b c x y z) : v.val.cell? ⟨b, 2, none⟩ = some z := v.line.c2
theorem FW.keep {w w' : World} {b c : Nat} {x y z : Value} (v : FW w b c x y z) (h : Below v.val.heap.size v.val w') : ∃ u : FW w b c x y z, w' = u.val := by
  obtain ⟨p, q, r, hb⟩ := v.box
  exact ⟨⟨w', v.line.keep h, ⟨p, q, r, hb.keep h⟩, v.below.trans (h.mono v.below.size), v.lib.below h⟩, rfl⟩
/-- The world behind the store of a line. -/
def putL (w : World) (c : Nat) (x y z : Value) : World := ((w.setCell ⟨c, 0, none⟩ x).setCell ⟨c, 1, none⟩ y).setCell ⟨c, 2, none⟩ z
theorem Box3.put {w : World} {c : Nat} {p q r : Value} (x y z : Value) (h : Box3 w c p q r) : Box3 (putL w c x y z) c x y z := by
  obtain ⟨c0, c1, c2, f0, f1, f2, lt⟩ := h
  unfold putL
  constructor <;> simp [go_sem, *]
theorem Box3.other {w : World} {b c : Nat} {p q r : Value} (x y z : Value) (h : Box3 w b p q r) (hne : b ≠ c) : Box3 (putL w c x y z) b p q r := by
  obtain ⟨c0, c1, c2, f0, f1, f2, lt⟩ := h
  unfold putL
  constructor <;> simp [go_sem, *]
theorem FW.put {w : World} {b c : Nat} {x y z : Value} (v : FW w b c x y z) (hne : b ≠ c) (hc : w.heap.size ≤ c) (hl : LibOK w) : ∃ u : FW w b c x y z, putL v.val c x y z = u.val ∧ Box3 u.val c x y z := by
  obtain ⟨p, q, r, hb⟩ := v.box
  have hB : Below w.heap.size w (putL v.val c x y z) := by
    unfold putL
    exact ((v.below.setCell (by simpa using hc) _).setCell (by simpa using hc) _).setCell (by simpa using hc) _
  have hL : LibOK (putL v.val c x y z) := hl.below hB
  exact ⟨⟨_, v.line.other x y z hne, ⟨_, _, _, hb.put x y z⟩, hB, hL⟩, rfl, hb.put x y z⟩
attribute [local go_sem] fw0 fw1 fw2
attribute [local irreducible] RP.plainUpon RP.stepC
/-- What the program's first returns. -/
def OutF (w : World) (X : List UInt8) (n : Nat) (b : Int) (e : Ending) (w' : World) : Prop :=
  Below w.heap.size w w' ∧ ((firstB X n b = none ∧ ∃ (m : Int) (t : ByteArray) (z : Int), e = .returned (.tuple #[.agg #[.int .i64 m, .string t, .int .i64 z], .bool false])) ∨ ∃ t, firstB X n b = some t ∧ e = .returned (.tuple #[lnV n (lineZ n b t) ⟨t.toArray⟩, .bool true]))
theorem skB_len : ∀ (l : List UInt8) (k : Nat), (skB k l).length ≤ l.length
  | l, 0 => by simp [skB]
  | [], _ + 1 => by simp [skB]
  | c :: l, k + 1 => by
    rw [skB]
    split
    · exact Nat.le_succ_of_le (skB_len l k)
    · exact Nat.le_succ_of_le (skB_len l (k + 1))
set_option maxRecDepth 100000 in
set_option maxHeartbeats 4000000 in
theorem pfirst_any (s : ByteArray) (hs : s.size ≤ 1000000) (n : Nat) (hn : n ≤ 1000000) (b : Int) (w : World) (hl : LibOK w) :
    Calls Tryz.prog 57 #[.string s, .int .i64 n, .int .i64 b] w (OutF w s.data.toList n b) := by
  have hX0 := Box3.new w (.int .i64 0) (.string { data := #[] }) (.int .i64 0) 33
  have hB0 := below_new w (.cells #[.int .i64 0, .string { data := #[] }, .int .i64 0] 33)
  have hL0 := Lib.hid (hl.below hB0)
  rcases cut_two 10 s.data.toList with h10 | ⟨H, R, hX, hH⟩
  · have HF := Lib.hid (first_no10 (n := n) (b := b) h10)
    have HC := Lib.hid (cut10_any s _ _ _ (ct_none h10) hs _ hL0.out)
    clear h10
    rw [← bytes_of] at HC
    obtain ⟨u, hu⟩ : ∃ u, u = w.alloc (.cells #[.int .i64 0, .string { data := #[] }, .int .i64 0] 33) := ⟨_, rfl⟩
    rw [← hu] at hX0 hB0 hL0 HC
    go_enter Tryz.func57, Tryz.ntmps57
    go_wp2_with fail
    rw [← hu]
    refine HC.out.mono ?_
    rintro e w1 ⟨rfl, hb1⟩
    have hX1 := hX0.keep hb1
    have hB1 := hB0.trans (hb1.mono hB0.size)
    have L1 := Lib.hid (hL0.out.below hb1)
    have hz1 := hB1.size
    clear hX0 hB0 hL0 hu hb1 HC
    go_wp2_with fail
    refine (split3_any s hs _ L1.out).mono ?_
    rintro e w2 ⟨xs, c, rfl, hI, hxs, hb2⟩
    have hX2 := hX1.keep hb2
    have hB2 := hB1.trans (hb2.mono hz1)
    have HI := Lib.hid (And.intro hI hxs)
    clear hI hxs hX1 hB1 L1 hb2
    obtain ⟨x0, x1, x2, y0, y1, y2, y3⟩ := hX2
    go_wp2
    refine bodyPost_ret (v := .tuple #[.agg #[.int .i64 0, .string { data := #[] }, .int .i64 0], .bool false]) (by simp only [results, Tryz.results57]; go_simp) rfl ⟨(by repeat' (first | (with_reducible exact Below.refl _ _) | (with_reducible assumption) | (with_reducible refine below_drewN ?_ _) | (with_reducible refine below_step (by assumption) ?_ ?_) | (with_reducible refine Below.alloc ?_ ?_ _) | (with_reducible refine Below.setCell ?_ ?_ _) | (with_reducible refine Below.drew ?_) | go_size | (exact Below.size (by assumption)) | (refine Nat.le_trans (Below.size (by assumption)) ?_))), .inl ⟨HF.out, _, _, _, rfl⟩⟩
  · have hHs : H.length ≤ 1000000 := by have := lt_list s; rw [hX, List.length_append] at this; omega
    have hpre := first_pre (n := n) (b := b) hX hH
    have HC := Lib.hid (cut10_any s H R true (by rw [hX]; exact ct_app hH R) hs _ hL0.out)
    have hsp := split3 H
    obtain ⟨X, hXX⟩ : ∃ X, X = s.data.toList := ⟨_, rfl⟩
    rw [← hXX] at hpre
    have HPX := Lib.hid (And.intro hpre (And.intro hXX hsp))
    obtain ⟨h, hh⟩ : ∃ h : ByteArray, h = ⟨H.toArray⟩ := ⟨_, rfl⟩
    have hhl : h.data.toList = H := by rw [hh]
    have hhs : h.size ≤ 1000000 := by rw [← lt_list, hhl]; exact hHs
    rw [← hh] at HC
    rw [← hXX]
    obtain ⟨u, hu⟩ : ∃ u, u = w.alloc (.cells #[.int .i64 0, .string { data := #[] }, .int .i64 0] 33) := ⟨_, rfl⟩
    rw [← hu] at hX0 hB0 hL0 HC
    clear hX hH hHs hpre hXX hsp hh
    go_enter Tryz.func57, Tryz.ntmps57
    go_wp2_with fail
    rw [← hu]
    refine HC.out.mono ?_
    rintro e w1 ⟨rfl, hb1⟩
    have hX1 := hX0.keep hb1
    have hB1 := hB0.trans (hb1.mono hB0.size)
    have L1 := Lib.hid (hL0.out.below hb1)
    have hz1 := hB1.size
    clear hX0 hB0 hL0 hu hb1 HC
    go_wp2_with fail
    refine (split3_any h hhs _ L1.out).mono ?_
    rintro e w2 ⟨xs, c, rfl, hI, hxs, hb2⟩
    rw [hhl] at hxs
    have hX2 := hX1.keep hb2
    have hB2 := hB1.trans (hb2.mono hz1)
    have L2 := Lib.hid (L1.out.below hb2)
    clear hX1 hB1 L1 hb2
    rcases HPX.out.2.2 with ⟨a1, a2, h3⟩ | ⟨h3, h4⟩
    · rw [h3] at hxs
      obtain ⟨T1, T2, T, rfl⟩ : ∃ T1 T2 T, xs = [T1, T2, T] := by
        have h5 := congrArg List.length hxs
        simp at h5
        rcases xs with _ | ⟨T1, _ | ⟨T2, _ | ⟨T, _ | ⟨z, l⟩⟩⟩⟩ <;> simp at h5
        exact ⟨T1, T2, T, rfl⟩
      have hT : T.data.toList = skB 2 H := by simp at hxs; exact hxs.2.2
      obtain ⟨bb, o, hbo, hlt, hc⟩ := hI.2 (by simp)
      cases hbo
      have c2 := hc 2 (by simp)
      simp only [List.getElem_cons_succ, List.getElem_cons_zero, Nat.zero_add] at c2
      have hTs : T.size ≤ 1000000 := by rw [← lt_list, hT]; have := skB_len H 2; have := lt_list h; rw [hhl] at this; omega
      have HPR := Lib.hid HPX.out.1
      rw [← hT] at HPR
      clear hI hc h3 hxs hhl
      by_cases hR : rightT T.data.toList = true
      · have HRT := Lib.hid (fun w' => pright_any T hTs w')
        rw [hR] at HRT
        have ht80 : T.size ≤ 100000 := by have := (rightT_iff.1 hR).2.1; rw [lt_list] at this; omega
        obtain ⟨z0, z1⟩ : 0 ≤ lineZ n b T.data.toList ∧ lineZ n b T.data.toList < 1000003 := sumT_bd _ _
        have HLN := Lib.hid (fun w' h => pline_any n hn b T ht80 w' h)
        have hlT : lineT n b T.data.toList = itoa (n : Int) ++ 32 :: (itoa (lineZ n b T.data.toList) ++ 32 :: (T.data.toList ++ [10])) := rfl
        rw [hlT] at HPR
        have HZT := Lib.hid (show ∀ t, t = T.data.toList → lineZ n b t = lineZ n b T.data.toList from fun t h => by rw [h])
        obtain ⟨z, hz⟩ : ∃ z, z = lineZ n b T.data.toList := ⟨_, rfl⟩
        rw [← hz] at HLN HPR z0 z1 HZT
        have HFM := Lib.hid (fun w' h => pformat_any n hn z z0 (by omega) T ht80 w' h)
        unfold lnV at HLN HFM
        have HFIN := Lib.hid (show ∀ w', Below w.heap.size w w' → OutF w X n b (.returned (.tuple #[.agg #[.int .i64 n, .string T, .int .i64 z], .bool (hasPrefix s.data.toList (itoa (n : Int) ++ 32 :: (itoa z ++ 32 :: (T.data.toList ++ [10]))))])) w' from fun w' hw => by
          rw [← HPX.out.2.1]
          refine ⟨hw, ?_⟩
          by_cases hp : itoa (n : Int) ++ 32 :: (itoa z ++ 32 :: (T.data.toList ++ [10])) <+: X
          · refine .inr ⟨T.data.toList, by rw [HPR.out, if_pos ⟨hR, hp⟩], ?_⟩
            rw [← bytes_of, ← hz]
            unfold hasPrefix lnV
            rw [List.isPrefixOf_iff_prefix.2 hp]
          · refine .inl ⟨by rw [HPR.out, if_neg fun h => hp h.2], ?_⟩
            have : hasPrefix X (itoa (n : Int) ++ 32 :: (itoa z ++ 32 :: (T.data.toList ++ [10]))) = false := by
              unfold hasPrefix
              rw [Bool.eq_false_iff]
              exact fun h => hp (List.isPrefixOf_iff_prefix.1 h)
            rw [this]
            exact ⟨_, _, _, rfl⟩)
        have HR := Lib.hid hR
        clear hR hz hlT hT
        go_upto_region 6 with (first | (go_at_call 59; refine (HRT.out _).mono ?_; rintro e w3 ⟨rfl, hb3⟩; have hX3 := hX2.keep hb3; have hB3 := hB2.trans (hb3.mono hB2.size); have L3 := Lib.hid (L2.out.below hb3); have c3 := (hb3.cell (p := ⟨w1.heap.size, 2, none⟩) hlt).trans c2; clear hX2 hb3 c2) | (go_at_call 60; refine (HLN.out _ L3.out).mono ?_; rintro e w4 ⟨rfl, hb4⟩; have hX4 := hX3.keep hb4; have hB4 := hB3.trans (hb4.mono hB3.size); have L4 := Lib.hid (L3.out.below hb4); clear hX3 hb4 c3))
        have hY := Box3.new w4 (.int .i64 n) (.string T) (.int .i64 z) 33
        have hb5 := below_new w4 (.cells #[.int .i64 n, .string T, .int .i64 z] 33)
        have hne : w4.heap.size ≠ w.heap.size := by have := hX4.lt; omega
        have hX5 := hX4.keep hb5
        have hB5 := hB4.trans (hb5.mono hB4.size)
        have L5 := L4.out.below hb5
        obtain ⟨u4, hu4⟩ : ∃ u, u = w4.alloc (.cells #[.int .i64 n, .string T, .int .i64 z] 33) := ⟨_, rfl⟩
        rw [← hu4] at hY hb5 hX5 hB5 L5 ⊢
        obtain ⟨b2, hb2⟩ : ∃ b, b = w4.heap.size := ⟨_, rfl⟩
        rw [← hb2] at hY hne ⊢
        have hd : Below u4.heap.size u4 { u4 with drawn := u4.drawn + 1 } := (Below.refl _ _).drew
        obtain ⟨v0, hv0⟩ := FW.keep (b := b2) (c := w.heap.size) ⟨u4, hY, ⟨_, _, _, hX5⟩, hB5, L5⟩ hd
        clear hX4 hB4 L4 hB2 L2 hlt hd hu4 hb2 hb5 hY hX5 hB5 L5
        refine RP.region_treeP (C := fun w' => ∃ v : FW w b2 w.heap.size (.int .i64 n) (.string T) (.int .i64 z), w' = v.val) (fun _ _ _ => False) [0, 1, 2] (.two 3 (.two 4 (.one 5 .nil) 5 (.one 4 .nil)) 5 (.one 3 (.one 4 .nil))) 6 (fun _ _ _ h => h.elim) (by kernel_rfl) (by kernel_rfl) ⟨v0, hv0⟩ ?_
        simp only [pickL, List.getElem?_cons_zero, List.getElem?_cons_succ]
        repeat (go_big_quiet_step (rfl))
        refine wpQuiet_nil ?_
        rw [hv0]
        simp only [RP.treeS, atOp, List.getElem?_cons_zero, List.getElem?_cons_succ]
        refine ⟨⟨v0, rfl⟩, ?_, ?_⟩
        · refine RP.p_call 58 #[.agg #[.int .i64 n, .string T, .int .i64 z]] rfl (by go_simp) ?_
          refine (HFM.out _ v0.lib).mono ?_
          rintro e w6 ⟨rfl, hb6⟩
          obtain ⟨v1, rfl⟩ := v0.keep hb6
          refine .inl ⟨_, rfl, ?_⟩
          refine ⟨⟨v1, rfl⟩, ?_, ?_⟩
          · refine RP.p_call 43 #[.string s, .string ⟨(itoa (n : Int) ++ 32 :: (itoa z ++ 32 :: (T.data.toList ++ [10]))).toArray⟩] rfl (by go_simp) ?_
            refine (Tryz.strings_HasPrefix s _ v1.val).mono ?_
            rintro e w7 ⟨rfl, rfl⟩
            refine .inl ⟨_, rfl, ?_⟩
            refine ⟨⟨v1, rfl⟩, ?_⟩
            obtain ⟨p, q, r, hq⟩ := v1.box
            obtain ⟨c0, c1, c2, f0, f1, f2, lt⟩ := hq
            obtain ⟨v2, hpv2, hx⟩ := v1.put hne (Nat.le_refl _) hl
            refine RP.p_skip (putL v1.val w.heap.size (.int .i64 n) (.string T) (.int .i64 z)) rfl (by unfold putL; go_simp) ?_
            clear c0 c1 c2 f0 f1 f2 lt
            rw [hpv2]
            refine ⟨⟨v2, rfl⟩, ?_⟩
            refine RP.p_assign (.tmp 46) rfl rfl _ rfl ?_
            obtain ⟨x0, x1, x2, y0, y1, y2, y3⟩ := hx
            go_simp
            go_wp2
            refine bodyPost_ret (v := .tuple #[.agg #[.int .i64 n, .string T, .int .i64 z], .bool (hasPrefix s.data.toList (itoa (n : Int) ++ 32 :: (itoa z ++ 32 :: (T.data.toList ++ [10]))))]) (by simp only [results, Tryz.results57]; go_simp) rfl (HFIN.out _ v2.below)
          · obtain ⟨p, q, r, hq⟩ := v1.box
            obtain ⟨c0, c1, c2, f0, f1, f2, lt⟩ := hq
            obtain ⟨v2, hpv2, hx⟩ := v1.put hne (Nat.le_refl _) hl
            refine RP.p_skip (putL v1.val w.heap.size (.int .i64 n) (.string T) (.int .i64 z)) rfl (by unfold putL; go_simp) ?_
            clear c0 c1 c2 f0 f1 f2 lt
            rw [hpv2]
            refine ⟨⟨v2, rfl⟩, ?_⟩
            refine RP.p_call 43 #[.string s, .string ⟨(itoa (n : Int) ++ 32 :: (itoa z ++ 32 :: (T.data.toList ++ [10]))).toArray⟩] rfl (by go_simp) ?_
            refine (Tryz.strings_HasPrefix s _ v2.val).mono ?_
            rintro e w7 ⟨rfl, rfl⟩
            refine .inl ⟨_, rfl, ?_⟩
            refine ⟨⟨v2, rfl⟩, ?_⟩
            refine RP.p_assign (.tmp 46) rfl rfl _ rfl ?_
            obtain ⟨x0, x1, x2, y0, y1, y2, y3⟩ := hx
            go_simp
            go_wp2
            refine bodyPost_ret (v := .tuple #[.agg #[.int .i64 n, .string T, .int .i64 z], .bool (hasPrefix s.data.toList (itoa (n : Int) ++ 32 :: (itoa z ++ 32 :: (T.data.toList ++ [10]))))]) (by simp only [results, Tryz.results57]; go_simp) rfl (HFIN.out _ v2.below)
        · obtain ⟨p, q, r, hq⟩ := v0.box
          obtain ⟨c0, c1, c2, f0, f1, f2, lt⟩ := hq
          obtain ⟨v1, hpv1, hx⟩ := v0.put hne (Nat.le_refl _) hl
          refine RP.p_skip (putL v0.val w.heap.size (.int .i64 n) (.string T) (.int .i64 z)) rfl (by unfold putL; go_simp) ?_
          clear c0 c1 c2 f0 f1 f2 lt
          rw [hpv1]
          refine ⟨⟨v1, rfl⟩, ?_⟩
          refine RP.p_call 58 #[.agg #[.int .i64 n, .string T, .int .i64 z]] rfl (by go_simp) ?_
          refine (HFM.out _ v1.lib).mono ?_
          rintro e w6 ⟨rfl, hb6⟩
          have hx2 := hx.keep hb6
          obtain ⟨v2, rfl⟩ := v1.keep hb6
          refine .inl ⟨_, rfl, ?_⟩
          refine ⟨⟨v2, rfl⟩, ?_⟩
          refine RP.p_call 43 #[.string s, .string ⟨(itoa (n : Int) ++ 32 :: (itoa z ++ 32 :: (T.data.toList ++ [10]))).toArray⟩] rfl (by go_simp) ?_
          refine (Tryz.strings_HasPrefix s _ v2.val).mono ?_
          rintro e w7 ⟨rfl, rfl⟩
          refine .inl ⟨_, rfl, ?_⟩
          refine ⟨⟨v2, rfl⟩, ?_⟩
          refine RP.p_assign (.tmp 46) rfl rfl _ rfl ?_
          obtain ⟨x0, x1, x2, y0, y1, y2, y3⟩ := hx2
          go_simp
          go_wp2
          refine bodyPost_ret (v := .tuple #[.agg #[.int .i64 n, .string T, .int .i64 z], .bool (hasPrefix s.data.toList (itoa (n : Int) ++ 32 :: (itoa z ++ 32 :: (T.data.toList ++ [10]))))]) (by simp only [results, Tryz.results57]; go_simp) rfl (HFIN.out _ v2.below)
      · have HF := Lib.hid (show firstB X n b = none by rw [HPR.out, if_neg]; exact fun h => hR h.1)
        have hR' : rightT T.data.toList = false := by simpa using hR
        have HRT := Lib.hid (fun w' => pright_any T hTs w')
        rw [hR'] at HRT
        clear hR hR'
        go_wp2_with (go_at_call 59; refine (HRT.out _).mono ?_; rintro e w3 ⟨rfl, hb3⟩; obtain ⟨x0, x1, x2, y0, y1, y2, y3⟩ := hX2.keep hb3; have hB3 := hB2.trans (hb3.mono hB2.size); clear hX2 hb3)
        refine bodyPost_ret (v := .tuple #[.agg #[.int .i64 0, .string { data := #[] }, .int .i64 0], .bool false]) (by simp only [results, Tryz.results57]; go_simp) rfl ⟨(by repeat' (first | (with_reducible exact Below.refl _ _) | (with_reducible assumption) | (with_reducible refine below_drewN ?_ _) | (with_reducible refine below_step (by assumption) ?_ ?_) | (with_reducible refine Below.alloc ?_ ?_ _) | (with_reducible refine Below.setCell ?_ ?_ _) | (with_reducible refine Below.drew ?_) | go_size | (exact Below.size (by assumption)) | (refine Nat.le_trans (Below.size (by assumption)) ?_))), .inl ⟨HF.out, _, _, _, rfl⟩⟩
    · have HF := Lib.hid (show firstB X n b = none by rw [HPX.out.1, h4, if_neg]; exact fun h => absurd h.1 (by decide))
      have hl3 : xs.length < 3 := by rw [← hxs, List.length_map] at h3; exact h3
      obtain ⟨x0, x1, x2, y0, y1, y2, y3⟩ := hX2
      clear hI hxs h3 h4
      go_wp2
      refine bodyPost_ret (v := .tuple #[.agg #[.int .i64 0, .string { data := #[] }, .int .i64 0], .bool false]) (by simp only [results, Tryz.results57]; go_simp) rfl ⟨(by repeat' (first | (with_reducible exact Below.refl _ _) | (with_reducible assumption) | (with_reducible refine below_drewN ?_ _) | (with_reducible refine below_step (by assumption) ?_ ?_) | (with_reducible refine Below.alloc ?_ ?_ _) | (with_reducible refine Below.setCell ?_ ?_ _) | (with_reducible refine Below.drew ?_) | go_size | (exact Below.size (by assumption)) | (refine Nat.le_trans (Below.size (by assumption)) ?_))), .inl ⟨HF.out, _, _, _, rfl⟩⟩
end Go.Proofs.YtaadelcmhbgpnaaGreatDoor
