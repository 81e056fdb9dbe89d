/-
  The law PatternGroup returns true for every pattern.
-/
import Derived.Test.YtgmokojdlbdjeaaDoorLawP
import Derived.Test.YtgmokojdlbdjeaaDoorPatQ
namespace Go.Proofs.YtgmokojdlbdjeaaDoor
open Go.RowKit
theorem good_lst {F : Int → Int → Int} {a b c : Int} (h : Base F a b c) (hs : (lst F).a * (lst F).c ≤ 144) (hc : Cols F) : valP (lst F) = 0 ∧ colF (lst F) = F ∧ (lst F).xs.length ≤ 144 := by
  have hg := h.good hs hc
  refine ⟨hg.val, h.lst_col, ?_⟩
  have := hg.len
  omega
theorem turnT_spec {p : PatD} (hv : valP p = 0) : valP (turnT p) = 0 ∧ colF (turnT p) = turnF (colF p) ∧ (turnT p).xs.length ≤ 144 := by
  have hg := valP_zero hv
  obtain ⟨A1, B1, C1, ⟨h1, h2, h3, h4, h5, h6, h7⟩, h8, -, h9, -⟩ := turn_lat (b := p.b) hg.a0 hg.c0
  have hb : Base (turnF (colF p)) A1 B1 C1 := (lst_pat hv).turn h1 h3 h8 h9
  have hc : Cols (turnF (colF p)) := fun x y => hg.cols y (-x)
  have e : turnT p = lst (turnF (colF p)) := by unfold turnT; rw [if_neg (by simp [hv])]
  rw [e]
  refine good_lst hb ?_ hc
  have := hb.lst_cells
  have := hg.ac
  omega
theorem mirT_spec {p : PatD} (hv : valP p = 0) : valP (mirT p) = 0 ∧ colF (mirT p) = mirF (colF p) ∧ (mirT p).xs.length ≤ 144 := by
  have hg := valP_zero hv
  have hb : Base (mirF (colF p)) p.a ((-p.b) % p.a) p.c := (lst_pat hv).mir
  have hc : Cols (mirF (colF p)) := fun x y => hg.cols (-x) y
  have e : mirT p = lst (mirF (colF p)) := by unfold mirT; rw [if_neg (by simp [hv])]
  rw [e]
  refine good_lst hb ?_ hc
  have := hb.lst_cells
  have := hg.ac
  omega
theorem turnT_eq {p : PatD} (hv : valP p = 0) : turnT p = lst (turnF (colF p)) := by unfold turnT; rw [if_neg (by simp [hv])]
theorem mirT_eq {p : PatD} (hv : valP p = 0) : mirT p = lst (mirF (colF p)) := by unfold mirT; rw [if_neg (by simp [hv])]
theorem lstO_spec {p : PatD} (hv : valP p = 0) : lstO p = lst (colF p) ∧ colF (lstO p) = colF p := by
  have e := lstO_zero hv
  exact ⟨e, by rw [e]; exact (lst_pat hv).lst_col⟩
/-- Turns and mirrors. -/
theorem group_facts {p : PatD} (hv : valP p = 0) : turnT (turnT (turnT (turnT p))) = lstO p ∧ mirT (mirT p) = lstO p ∧ turnT (mirT p) = mirT (turnT (turnT (turnT p))) ∧ (turnT p = lstO p → mirT (turnT p) = mirT p) := by
  obtain ⟨v1, c1, -⟩ := turnT_spec hv
  obtain ⟨v2, c2, -⟩ := turnT_spec v1
  obtain ⟨v3, c3, -⟩ := turnT_spec v2
  obtain ⟨vm, cm, -⟩ := mirT_spec hv
  obtain ⟨e0, k0⟩ := lstO_spec hv
  refine ⟨?_, ?_, ?_, ?_⟩
  · rw [turnT_eq v3, c3, c2, c1, e0]
    congr 1
    funext x y
    unfold turnF
    simp only [Int.neg_neg]
  · rw [mirT_eq vm, cm, e0]
    congr 1
    funext x y
    unfold mirF
    simp only [Int.neg_neg]
  · rw [turnT_eq vm, cm, mirT_eq v3, c3, c2, c1]
    congr 1
    funext x y
    unfold mirF turnF
    simp only [Int.neg_neg]
  · intro h
    rw [mirT_eq v1, mirT_eq hv, h, k0]
set_option maxRecDepth 100000 in
set_option maxHeartbeats 4000000 in
theorem patternGroup_walk (p : PatD) (A : Option Addr) (k : Nat) (w : World) (hi : PatIn w p A) (hw : LibOK w) :
    Calls Tryd.prog 3 #[.agg #[.int .i64 p.a, .int .i64 p.b, .int .i64 p.c, .slice A p.xs.length k]] w fun e w' => e = .returned (.bool true) ∧ Below w.heap.size w w' := by
  have HI := Lib.hid (And.intro hi hw)
  have h0 := fun (hl : p.xs.length ≤ 1000000) A cap w hi => least_lst p hl A cap w hi
  have l0 := lstO_len p
  obtain ⟨L, hL⟩ : ∃ L, L = lstO p := ⟨_, rfl⟩
  obtain ⟨E, hE⟩ : ∃ E, E = valP p := ⟨_, rfl⟩
  rw [← hL] at h0 l0
  rw [← hE] at h0
  have C0 := Lib.hid h0
  have HE := Lib.hid hE
  have HLL := Lib.hid hL
  clear hi hw h0 hL hE
  go_enter Tryd.func3, Tryd.ntmps3
  go_wp2_with fail
  have hJ0 := (Js.start w).add (k := k) HI.out.1
  obtain ⟨V0, hV0⟩ : ∃ V, V = w.alloc (.cells #[.int .i64 p.a, .int .i64 p.b, .int .i64 p.c, .slice A p.xs.length k] 24) := ⟨_, rfl⟩
  rw [← hV0] at hJ0 ⊢
  have J0 := Lib.hid hJ0
  clear hJ0 hV0
  refine (long_any p A k V0).mono ?_
  rintro e w1 ⟨rfl, hb1⟩
  have K1 := Lib.hid (J0.out.keep hb1)
  clear hb1 J0
  by_cases h4 : 400 < p.xs.length
  · rw [decide_eq_true h4]
    have hk2 := Lib.hid (known_any w1 (HI.out.2.below K1.out.o))
    clear h4
    go_wp2_with fail
    refine (hk2.out).mono ?_
    rintro e w2 ⟨rfl, hb2⟩
    have K2 := Lib.hid (K1.out.keep hb2)
    clear hb2 K1
    go_wp2
    go_ret
    exact ⟨rfl, K2.out.o⟩
  rw [decide_eq_false h4]
  have HL := Lib.hid (show p.xs.length ≤ 1000000 by omega)
  clear h4
  obtain ⟨q0, q1, q2, q3, q4⟩ := (K1.out.b (w.heap.size, p, A, k) (by simp)).b.cells
  go_wp2_with fail
  refine (C0.out HL.out A k w1 (K1.out.b (w.heap.size, p, A, k) (by simp)).i).mono ?_
  intro e w2 h2
  obtain ⟨B2, b2, rfl, -, hi2, hb2⟩ := h2.open
  have K2 := Lib.hid (K1.out.keep hb2)
  have I2 := Lib.hid hi2
  clear h2 hb2 hi2 K1
  clear q0 q1 q2 q3 q4
  by_cases hz : E = 0
  · subst hz
    have hv : valP p = 0 := HE.out.symm
    obtain ⟨f1, f2, f3, f4⟩ := group_facts hv
    obtain ⟨v1, -, l1⟩ := turnT_spec hv
    obtain ⟨v2, -, l2⟩ := turnT_spec v1
    obtain ⟨v3, -, l3⟩ := turnT_spec v2
    obtain ⟨vm, -, lm⟩ := mirT_spec hv
    have la := (mirT_spec v1).2.2
    have lb := (mirT_spec v3).2.2
    have h1 := fun A cap w hi => pturn_any p HL.out A cap w hi
    have h2 := fun A cap w hi => pturn_any (turnT p) (by omega) A cap w hi
    have h3 := fun A cap w hi => pturn_any (turnT (turnT p)) (by omega) A cap w hi
    have h4 := fun A cap w hi => pturn_any (turnT (turnT (turnT p))) (by omega) A cap w hi
    have h5 := fun A cap w hi => pmirror_any p HL.out A cap w hi
    have h6 := fun A cap w hi => pmirror_any (mirT p) (by omega) A cap w hi
    have h7 := fun A cap w hi => pmirror_any (turnT p) (by omega) A cap w hi
    have h8 := fun A cap w hi => pmirror_any (turnT (turnT (turnT p))) (by omega) A cap w hi
    have h9 := fun A cap w hi => pturn_any (mirT p) (by omega) A cap w hi
    rw [f1, ← HLL.out, v3] at h4
    rw [f2, ← HLL.out, vm] at h6
    rw [f3, vm] at h9
    rw [v1] at h2 h7
    rw [v2] at h3
    rw [v3] at h8
    rw [hv] at h1 h5
    rw [← HLL.out] at f4
    obtain ⟨M, hM⟩ : ∃ M, M = mirT p := ⟨_, rfl⟩
    obtain ⟨PB, hPB⟩ : ∃ M, M = mirT (turnT (turnT (turnT p))) := ⟨_, rfl⟩
    obtain ⟨P3, hP3⟩ : ∃ M, M = turnT (turnT (turnT p)) := ⟨_, rfl⟩
    obtain ⟨P2, hP2⟩ : ∃ M, M = turnT (turnT p) := ⟨_, rfl⟩
    obtain ⟨PA, hPA⟩ : ∃ M, M = mirT (turnT p) := ⟨_, rfl⟩
    obtain ⟨P1, hP1⟩ : ∃ M, M = turnT p := ⟨_, rfl⟩
    rw [← hPB] at h8 h9 lb
    rw [← hP3] at h3 h4 h8 l3
    rw [← hP2] at h2 h3 l2
    rw [← hPA] at h7 la f4
    rw [← hP1] at h1 h2 h7 l1 f4
    rw [← hM] at h5 h6 h9 lm f4
    obtain ⟨r, hr⟩ : ∃ r : Bool, r = true ↔ P1 = L := by
      by_cases h : P1 = L
      · exact ⟨true, by simp [h]⟩
      · exact ⟨false, by simp [h]⟩
    have HR := Lib.hid (show (r = true ↔ P1 = L) ∧ (r = true → PA = M) from ⟨hr, fun e => f4 (hr.1 e)⟩)
    have C1 := Lib.hid h1
    have C2 := Lib.hid h2
    have C3 := Lib.hid h3
    have C4 := Lib.hid h4
    have C5 := Lib.hid h5
    have C6 := Lib.hid h6
    have C7 := Lib.hid h7
    have C8 := Lib.hid h8
    have C9 := Lib.hid h9
    clear h1 h2 h3 h4 h5 h6 h7 h8 h9 f1 f2 f3 f4 v1 v2 v3 vm hv hr hM hPB hP3 hP2 hPA hP1 HE HLL
    obtain ⟨q0, q1, q2, q3, q4⟩ := (K2.out.b (w.heap.size, p, A, k) (by simp)).b.cells
    go_wp2_with fail
    have hJ2 := K2.out.add (k := b2) I2.out
    obtain ⟨V2, hV2⟩ : ∃ V, V = (w2).alloc (.cells #[.int .i64 (L).a, .int .i64 (L).b, .int .i64 (L).c, .slice B2 (L).xs.length b2] 24) := ⟨_, rfl⟩
    rw [← hV2] at hJ2 ⊢
    have J2 := Lib.hid hJ2
    clear hJ2 hV2 K2 I2
    refine (C1.out A k V2 (J2.out.b (w.heap.size, p, A, k) (by simp)).i).mono ?_
    intro e w3 h3
    obtain ⟨B3, b3, rfl, -, hi3, hb3⟩ := h3.open
    have K3 := Lib.hid (J2.out.keep hb3)
    have I3 := Lib.hid hi3
    clear h3 hb3 hi3 J2
    clear q0 q1 q2 q3 q4
    go_wp2_with fail
    have hJ3 := K3.out.add (k := b3) I3.out
    obtain ⟨V3, hV3⟩ : ∃ V, V = (w3).alloc (.cells #[.int .i64 (P1).a, .int .i64 (P1).b, .int .i64 (P1).c, .slice B3 (P1).xs.length b3] 24) := ⟨_, rfl⟩
    rw [← hV3] at hJ3 ⊢
    have J3 := Lib.hid hJ3
    clear hJ3 hV3 K3 I3
    refine (C2.out B3 b3 V3 (J3.out.b (w3.heap.size, P1, B3, b3) (by simp)).i).mono ?_
    intro e w4 h4
    obtain ⟨B4, b4, rfl, -, hi4, hb4⟩ := h4.open
    have K4 := Lib.hid (J3.out.keep hb4)
    have I4 := Lib.hid hi4
    clear h4 hb4 hi4 J3
    go_wp2_with fail
    have hJ4 := K4.out.add (k := b4) I4.out
    obtain ⟨V4, hV4⟩ : ∃ V, V = (w4).alloc (.cells #[.int .i64 (P2).a, .int .i64 (P2).b, .int .i64 (P2).c, .slice B4 (P2).xs.length b4] 24) := ⟨_, rfl⟩
    rw [← hV4] at hJ4 ⊢
    have J4 := Lib.hid hJ4
    clear hJ4 hV4 K4 I4
    refine (C3.out B4 b4 V4 (J4.out.b (w4.heap.size, P2, B4, b4) (by simp)).i).mono ?_
    intro e w5 h5
    obtain ⟨B5, b5, rfl, -, hi5, hb5⟩ := h5.open
    have K5 := Lib.hid (J4.out.keep hb5)
    have I5 := Lib.hid hi5
    clear h5 hb5 hi5 J4
    go_wp2_with fail
    have hJ5 := K5.out.add (k := b5) I5.out
    obtain ⟨V5, hV5⟩ : ∃ V, V = (w5).alloc (.cells #[.int .i64 (P3).a, .int .i64 (P3).b, .int .i64 (P3).c, .slice B5 (P3).xs.length b5] 24) := ⟨_, rfl⟩
    rw [← hV5] at hJ5 ⊢
    have J5 := Lib.hid hJ5
    clear hJ5 hV5 K5 I5
    refine (C4.out B5 b5 V5 (J5.out.b (w5.heap.size, P3, B5, b5) (by simp)).i).mono ?_
    intro e w6 h6
    obtain ⟨B6, b6, rfl, -, hi6, hb6⟩ := h6.open
    have K6 := Lib.hid (J5.out.keep hb6)
    have I6 := Lib.hid hi6
    clear h6 hb6 hi6 J5
    obtain ⟨q0, q1, q2, q3, q4⟩ := (K6.out.b (w.heap.size, p, A, k) (by simp)).b.cells
    go_wp2_with fail
    have hJ6 := K6.out.add (k := b6) I6.out
    obtain ⟨V6, hV6⟩ : ∃ V, V = (w6).alloc (.cells #[.int .i64 (L).a, .int .i64 (L).b, .int .i64 (L).c, .slice B6 (L).xs.length b6] 24) := ⟨_, rfl⟩
    rw [← hV6] at hJ6 ⊢
    have J6 := Lib.hid hJ6
    clear hJ6 hV6 K6 I6
    refine (C5.out A k V6 (J6.out.b (w.heap.size, p, A, k) (by simp)).i).mono ?_
    intro e w7 h7
    obtain ⟨B7, b7, rfl, -, hi7, hb7⟩ := h7.open
    have K7 := Lib.hid (J6.out.keep hb7)
    have I7 := Lib.hid hi7
    clear h7 hb7 hi7 J6
    clear q0 q1 q2 q3 q4
    go_wp2_with fail
    have hJ7 := K7.out.add (k := b7) I7.out
    obtain ⟨V7, hV7⟩ : ∃ V, V = (w7).alloc (.cells #[.int .i64 (M).a, .int .i64 (M).b, .int .i64 (M).c, .slice B7 (M).xs.length b7] 24) := ⟨_, rfl⟩
    rw [← hV7] at hJ7 ⊢
    have J7 := Lib.hid hJ7
    clear hJ7 hV7 K7 I7
    refine (C6.out B7 b7 V7 (J7.out.b (w7.heap.size, M, B7, b7) (by simp)).i).mono ?_
    intro e w8 h8
    obtain ⟨B8, b8, rfl, -, hi8, hb8⟩ := h8.open
    have K8 := Lib.hid (J7.out.keep hb8)
    have I8 := Lib.hid hi8
    clear h8 hb8 hi8 J7
    obtain ⟨q0, q1, q2, q3, q4⟩ := (K8.out.b (w3.heap.size, P1, B3, b3) (by simp)).b.cells
    go_wp2_with fail
    have hJ8 := K8.out.add (k := b8) I8.out
    obtain ⟨V8, hV8⟩ : ∃ V, V = (w8).alloc (.cells #[.int .i64 (L).a, .int .i64 (L).b, .int .i64 (L).c, .slice B8 (L).xs.length b8] 24) := ⟨_, rfl⟩
    rw [← hV8] at hJ8 ⊢
    have J8 := Lib.hid hJ8
    clear hJ8 hV8 K8 I8
    refine (C7.out B3 b3 V8 (J8.out.b (w3.heap.size, P1, B3, b3) (by simp)).i).mono ?_
    intro e w9 h9
    obtain ⟨B9, b9, rfl, -, hi9, hb9⟩ := h9.open
    have K9 := Lib.hid (J8.out.keep hb9)
    have I9 := Lib.hid hi9
    clear h9 hb9 hi9 J8
    clear q0 q1 q2 q3 q4
    obtain ⟨q0, q1, q2, q3, q4⟩ := (K9.out.b (w5.heap.size, P3, B5, b5) (by simp)).b.cells
    go_wp2_with fail
    have hJ9 := K9.out.add (k := b9) I9.out
    obtain ⟨V9, hV9⟩ : ∃ V, V = (w9).alloc (.cells #[.int .i64 (PA).a, .int .i64 (PA).b, .int .i64 (PA).c, .slice B9 (PA).xs.length b9] 24) := ⟨_, rfl⟩
    rw [← hV9] at hJ9 ⊢
    have J9 := Lib.hid hJ9
    clear hJ9 hV9 K9 I9
    refine (C8.out B5 b5 V9 (J9.out.b (w5.heap.size, P3, B5, b5) (by simp)).i).mono ?_
    intro e w10 h10
    obtain ⟨B10, b10, rfl, -, hi10, hb10⟩ := h10.open
    have K10 := Lib.hid (J9.out.keep hb10)
    have I10 := Lib.hid hi10
    clear h10 hb10 hi10 J9
    clear q0 q1 q2 q3 q4
    obtain ⟨q0, q1, q2, q3, q4⟩ := (K10.out.b (w7.heap.size, M, B7, b7) (by simp)).b.cells
    go_wp2_with fail
    have hJ10 := K10.out.add (k := b10) I10.out
    obtain ⟨V10, hV10⟩ : ∃ V, V = (w10).alloc (.cells #[.int .i64 (PB).a, .int .i64 (PB).b, .int .i64 (PB).c, .slice B10 (PB).xs.length b10] 24) := ⟨_, rfl⟩
    rw [← hV10] at hJ10 ⊢
    have J10 := Lib.hid hJ10
    clear hJ10 hV10 K10 I10
    refine (C9.out B7 b7 V10 (J10.out.b (w7.heap.size, M, B7, b7) (by simp)).i).mono ?_
    intro e w11 h11
    obtain ⟨B11, b11, rfl, -, hi11, hb11⟩ := h11.open
    have K11 := Lib.hid (J10.out.keep hb11)
    have I11 := Lib.hid hi11
    clear h11 hb11 hi11 J10
    clear q0 q1 q2 q3 q4
    obtain ⟨q0, q1, q2, q3, q4⟩ := (K11.out.b (w6.heap.size, L, B6, b6) (by simp)).b.cells
    obtain ⟨x0, x1, x2, x3, x4⟩ := (K11.out.b (w2.heap.size, L, B2, b2) (by simp)).b.cells
    go_wp2_with fail
    have hJ11 := K11.out.add (k := b11) I11.out
    obtain ⟨V11, hV11⟩ : ∃ V, V = (w11).alloc (.cells #[.int .i64 (PB).a, .int .i64 (PB).b, .int .i64 (PB).c, .slice B11 (PB).xs.length b11] 24) := ⟨_, rfl⟩
    rw [← hV11] at hJ11 ⊢
    have J11 := Lib.hid hJ11
    clear hJ11 hV11 K11 I11
    refine (equalP_any L L (by omega) (by omega) true (by simp) B6 b6 B2 b2 V11 (J11.out.b (w6.heap.size, L, B6, b6) (by simp)).i (J11.out.b (w2.heap.size, L, B2, b2) (by simp)).i).mono ?_
    rintro e w12 ⟨rfl, hb12⟩
    have K12 := Lib.hid (J11.out.keep hb12)
    clear hb12 J11
    clear q0 q1 q2 q3 q4 x0 x1 x2 x3 x4
    obtain ⟨q0, q1, q2, q3, q4⟩ := (K12.out.b (w8.heap.size, L, B8, b8) (by simp)).b.cells
    obtain ⟨x0, x1, x2, x3, x4⟩ := (K12.out.b (w2.heap.size, L, B2, b2) (by simp)).b.cells
    go_wp2_with fail
    refine (equalP_any L L (by omega) (by omega) true (by simp) B8 b8 B2 b2 w12 (K12.out.b (w8.heap.size, L, B8, b8) (by simp)).i (K12.out.b (w2.heap.size, L, B2, b2) (by simp)).i).mono ?_
    rintro e w13 ⟨rfl, hb13⟩
    have K13 := Lib.hid (K12.out.keep hb13)
    clear hb13 K12
    clear q0 q1 q2 q3 q4 x0 x1 x2 x3 x4
    obtain ⟨q0, q1, q2, q3, q4⟩ := (K13.out.b (w11.heap.size, PB, B11, b11) (by simp)).b.cells
    obtain ⟨x0, x1, x2, x3, x4⟩ := (K13.out.b (w10.heap.size, PB, B10, b10) (by simp)).b.cells
    go_wp2_with fail
    refine (equalP_any PB PB (by omega) (by omega) true (by simp) B11 b11 B10 b10 w13 (K13.out.b (w11.heap.size, PB, B11, b11) (by simp)).i (K13.out.b (w10.heap.size, PB, B10, b10) (by simp)).i).mono ?_
    rintro e w14 ⟨rfl, hb14⟩
    have K14 := Lib.hid (K13.out.keep hb14)
    clear hb14 K13
    clear q0 q1 q2 q3 q4 x0 x1 x2 x3 x4
    obtain ⟨q0, q1, q2, q3, q4⟩ := (K14.out.b (w3.heap.size, P1, B3, b3) (by simp)).b.cells
    obtain ⟨x0, x1, x2, x3, x4⟩ := (K14.out.b (w2.heap.size, L, B2, b2) (by simp)).b.cells
    go_wp2_with fail
    refine (equalP_any P1 L (by omega) (by omega) r HR.out.1 B3 b3 B2 b2 w14 (K14.out.b (w3.heap.size, P1, B3, b3) (by simp)).i (K14.out.b (w2.heap.size, L, B2, b2) (by simp)).i).mono ?_
    rintro e w15 ⟨rfl, hb15⟩
    have K15 := Lib.hid (K14.out.keep hb15)
    clear hb15 K14
    clear q0 q1 q2 q3 q4 x0 x1 x2 x3 x4
    cases r with
    | false =>
      have hk17 := Lib.hid (known_any w15 (HI.out.2.below K15.out.o))
      clear HR
      go_wp2_with fail
      refine (hk17.out).mono ?_
      rintro e w17 ⟨rfl, hb17⟩
      have K17 := Lib.hid (K15.out.keep hb17)
      clear hb17 K15
      go_wp2
      go_ret
      exact ⟨rfl, K17.out.o⟩
    | true =>
      have HAM := Lib.hid (HR.out.2 (by simp))
      clear HR
      obtain ⟨q0, q1, q2, q3, q4⟩ := (K15.out.b (w9.heap.size, PA, B9, b9) (by simp)).b.cells
      obtain ⟨x0, x1, x2, x3, x4⟩ := (K15.out.b (w7.heap.size, M, B7, b7) (by simp)).b.cells
      go_wp2_with fail
      refine (equalP_any PA M (by omega) (by omega) true (by simp [HAM.out]) B9 b9 B7 b7 w15 (K15.out.b (w9.heap.size, PA, B9, b9) (by simp)).i (K15.out.b (w7.heap.size, M, B7, b7) (by simp)).i).mono ?_
      rintro e w16 ⟨rfl, hb16⟩
      have K16 := Lib.hid (K15.out.keep hb16)
      clear hb16 K15
      clear q0 q1 q2 q3 q4 x0 x1 x2 x3 x4
      have hk17 := Lib.hid (known_any w16 (HI.out.2.below K16.out.o))
      clear HAM
      go_wp2_with fail
      refine (hk17.out).mono ?_
      rintro e w17 ⟨rfl, hb17⟩
      have K17 := Lib.hid (K16.out.keep hb17)
      clear hb17 K16
      go_wp2
      go_ret
      exact ⟨rfl, K17.out.o⟩
  · have d1 : (E == 0) = false := by rw [beq_eq_false_iff_ne]; exact hz
    have d2 : (E != 0) = true := by rw [bne_iff_ne]; exact hz
    have K1 := K2
    clear hz HE HLL
    go_wp2_with fail
    have hJ2 := K2.out.add (k := b2) I2.out
    obtain ⟨V2, hV2⟩ : ∃ V, V = (w2).alloc (.cells #[.int .i64 (L).a, .int .i64 (L).b, .int .i64 (L).c, .slice B2 (L).xs.length b2] 24) := ⟨_, rfl⟩
    rw [← hV2] at hJ2 ⊢
    have J2 := Lib.hid hJ2
    clear hJ2 hV2 K2 I2
    have hk := Lib.hid (known_any V2 (HI.out.2.below J2.out.o))
    refine hk.out.mono ?_
    rintro e w3 ⟨rfl, hb3⟩
    have K3 := Lib.hid (J2.out.keep hb3)
    clear hb3 hk
    go_wp2
    go_ret
    exact ⟨rfl, K3.out.o⟩
end Go.Proofs.YtgmokojdlbdjeaaDoor
