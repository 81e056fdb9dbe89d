/-
  The law PatternTurns returns true for every pattern and list of colors.
-/
import Derived.Test.YtgmokojdlbdjeaaGreatDoorLawP
import Derived.Test.YtgmokojdlbdjeaaGreatDoorPrfI
namespace Go.Proofs.YtgmokojdlbdjeaaGreatDoor
open Go.RowKit
theorem lst_len144 {F : Int → Int → Int} {a b c : Int} (h : Base F a b c) (hac : a * c ≤ 144) : (lst F).xs.length ≤ 144 := by
  have h1 := h.lst_cells
  obtain ⟨h2, h3⟩ := h.lst
  have h4 := leastP_len (F := F) (a := (lst F).a) (b := (lst F).b) (c := (lst F).c) h2.a0 h2.c0
  rw [← h3] at h4
  omega
theorem turnT_len (p : PatD) : (turnT p).xs.length ≤ 144 := by
  unfold turnT
  by_cases h : valP p = 0
  · rw [if_neg (by simp [h])]
    have hg := valP_zero h
    obtain ⟨A, B, C, ⟨h1, h2, h3, h4, h5, h6, h7⟩, h8, -, h9, -⟩ := turn_lat (b := p.b) hg.a0 hg.c0
    exact lst_len144 ((lst_pat h).turn h1 h3 h8 h9) (by rw [h5]; exact hg.ac)
  · rw [if_pos h]; show 0 ≤ 144; omega
theorem mirT_len (p : PatD) : (mirT p).xs.length ≤ 144 := by
  unfold mirT
  by_cases h : valP p = 0
  · rw [if_neg (by simp [h])]
    exact lst_len144 (lst_pat h).mir (valP_zero h).ac
  · rw [if_pos h]; show 0 ≤ 144; omega
theorem recT_len (p : PatD) (cs : List Int) : (recT p cs).xs.length ≤ 144 := by
  unfold recT
  by_cases h : recZ p cs = 0
  · rw [if_neg (by simp [h])]
    exact lst_len144 ((lst_pat (recZ_zero h).1).recol cs) (valP_zero (recZ_zero h).1).ac
  · rw [if_pos h]; show 0 ≤ 144; omega
set_option maxRecDepth 100000 in
set_option maxHeartbeats 2000000 in
theorem patternTurns_walk (p : PatD) (A : Option Addr) (k : Nat) (cs : List Int) (A2 : Option Addr) (c2 : Nat) (w : World) (hi : PatIn w p A) (hcs : IsL w A2 cs.length cs) (hw : LibOK w) :
    Calls Tryz.prog 5 #[.agg #[.int .i64 p.a, .int .i64 p.b, .int .i64 p.c, .slice A p.xs.length k], .slice A2 cs.length c2] w fun e w' => e = .returned (.bool true) ∧ Below w.heap.size w w' := by
  have HI := Lib.hid (And.intro hi hw)
  have HCS := Lib.hid hcs
  have h1 := fun (hl : p.xs.length ≤ 1000000) A cap w hi => pturn_any p hl A cap w hi
  have h2 := fun (hl : p.xs.length ≤ 1000000) A cap w hi => rturn_any p hl A cap w hi
  have h3 := fun (hl : p.xs.length ≤ 1000000) A cap w hi => pmirror_any p hl A cap w hi
  have h4 := fun (hl : p.xs.length ≤ 1000000) A cap w hi => rmirror_any p hl A cap w hi
  have h5 := fun (hl : p.xs.length ≤ 1000000) (hc : cs.length ≤ 1000000) A cap A2 c2 w hi hcs => precolor_any p hl cs hc A cap A2 c2 w hi hcs
  have h6 := fun (hl : p.xs.length ≤ 1000000) A cap A2 c2 w hi hcs => rrecolor_any p hl cs A cap A2 c2 w hi hcs
  have l1 := turnT_len p
  have l2 := mirT_len p
  have l3 := recT_len p cs
  obtain ⟨T, hT⟩ : ∃ T, T = turnT p := ⟨_, rfl⟩
  obtain ⟨M, hM⟩ : ∃ M, M = mirT p := ⟨_, rfl⟩
  obtain ⟨R, hR⟩ : ∃ R, R = recT p cs := ⟨_, rfl⟩
  obtain ⟨E, hE⟩ : ∃ E, E = valP p := ⟨_, rfl⟩
  obtain ⟨Z, hZ⟩ : ∃ Z, Z = recZ p cs := ⟨_, rfl⟩
  rw [← hT, ← hE] at h1 h2
  rw [← hM, ← hE] at h3 h4
  rw [← hR, ← hZ] at h5 h6
  rw [← hT] at l1
  rw [← hM] at l2
  rw [← hR] at l3
  obtain ⟨n, hn⟩ : ∃ n, n = cs.length := ⟨_, rfl⟩
  rw [← hn] at h5 h6 HCS ⊢
  have C1 := Lib.hid h1
  have C2 := Lib.hid h2
  have C3 := Lib.hid h3
  have C4 := Lib.hid h4
  have C5 := Lib.hid h5
  have C6 := Lib.hid h6
  clear hi hcs hw h1 h2 h3 h4 h5 h6 hT hM hR hE hZ hn
  go_enter Tryz.func5, Tryz.ntmps5
  go_wp2_with fail
  have hJ0 := (Js.start w).add (k := k) HI.out.1
  obtain ⟨V0, hV0⟩ : ∃ V, V = w.alloc (.cells #[.int .i64 p.a, .int .i64 p.b, .int .i64 p.c, .slice A p.xs.length k] 24) := ⟨_, rfl⟩
  rw [← hV0] at hJ0 ⊢
  have J0 := Lib.hid hJ0
  clear hJ0 hV0
  refine (long_any p A k V0).mono ?_
  rintro e w1 ⟨rfl, hb1⟩
  have K1 := Lib.hid (J0.out.keep hb1)
  clear hb1 J0
  by_cases h4 : 400 < p.xs.length
  · rw [decide_eq_true h4]
    have hk2 := Lib.hid (known_any w1 (HI.out.2.below K1.out.o))
    clear h4
    go_wp2_with fail
    refine (hk2.out).mono ?_
    rintro e w2 ⟨rfl, hb2⟩
    have K2 := Lib.hid (K1.out.keep hb2)
    clear hb2 K1
    go_wp2
    go_ret
    exact ⟨rfl, K2.out.o⟩
  rw [decide_eq_false h4]
  have HL := Lib.hid (show p.xs.length ≤ 1000000 by omega)
  clear h4
  by_cases hn1 : 100 < n
  · have d1 : decide ((100 : Int) < (n : Int)) = true := decide_eq_true (by omega)
    clear hn1
    have hk2 := Lib.hid (known_any w1 (HI.out.2.below K1.out.o))
    clear C1
    go_wp2_with fail
    refine (hk2.out).mono ?_
    rintro e w2 ⟨rfl, hb2⟩
    have K2 := Lib.hid (K1.out.keep hb2)
    clear hb2 K1
    go_wp2
    go_ret
    exact ⟨rfl, K2.out.o⟩
  have d1 : decide ((100 : Int) < (n : Int)) = false := decide_eq_false (by omega)
  have HN := Lib.hid (show n ≤ 1000000 by omega)
  clear hn1
  obtain ⟨q0, q1, q2, q3, q4⟩ := (K1.out.b (w.heap.size, p, A, k) (by simp)).b.cells
  go_wp2_with fail
  refine (copyP_any p (by have := HL.out; omega) A k w1 (K1.out.b (w.heap.size, p, A, k) (by simp)).i).mono ?_
  rintro e w2 ⟨v, rfl, hown, hb2⟩
  obtain ⟨B2, b2, rfl, hL2⟩ := hown.isL
  have K2 := Lib.hid (K1.out.keep hb2)
  have I2 := Lib.hid (show PatIn w2 p B2 from hL2)
  clear hown hb2 hL2 K1 q0 q1 q2 q3 q4
  go_wp2_with fail
  have hJ2 := K2.out.add (k := b2) I2.out
  obtain ⟨V2, hV2⟩ : ∃ V, V = (w2).alloc (.cells #[.int .i64 (p).a, .int .i64 (p).b, .int .i64 (p).c, .slice B2 (p).xs.length b2] 24) := ⟨_, rfl⟩
  rw [← hV2] at hJ2 ⊢
  have J2 := Lib.hid hJ2
  clear hJ2 hV2 K2 I2
  refine (C1.out HL.out B2 b2 V2 (J2.out.b (w2.heap.size, p, B2, b2) (by simp)).i).mono ?_
  intro e w3 h3
  obtain ⟨B3, b3, rfl, -, hi3, hb3⟩ := h3.open
  have K3 := Lib.hid (J2.out.keep hb3)
  have I3 := Lib.hid hi3
  clear h3 hb3 hi3 J2
  obtain ⟨q0, q1, q2, q3, q4⟩ := (K3.out.b (w.heap.size, p, A, k) (by simp)).b.cells
  go_wp2_with fail
  have hJ3 := K3.out.add (k := b3) I3.out
  obtain ⟨V3, hV3⟩ : ∃ V, V = (w3).alloc (.cells #[.int .i64 (T).a, .int .i64 (T).b, .int .i64 (T).c, .slice B3 (T).xs.length b3] 24) := ⟨_, rfl⟩
  rw [← hV3] at hJ3 ⊢
  have J3 := Lib.hid hJ3
  clear hJ3 hV3 K3 I3
  refine (C2.out HL.out A k V3 (J3.out.b (w.heap.size, p, A, k) (by simp)).i).mono ?_
  intro e w4 h4
  obtain ⟨B4, b4, rfl, -, hi4, hb4⟩ := h4.open
  have K4 := Lib.hid (J3.out.keep hb4)
  have I4 := Lib.hid hi4
  clear h4 hb4 hi4 J3
  clear q0 q1 q2 q3 q4
  obtain ⟨q0, q1, q2, q3, q4⟩ := (K4.out.b (w2.heap.size, p, B2, b2) (by simp)).b.cells
  go_wp2_with fail
  have hJ4 := K4.out.add (k := b4) I4.out
  obtain ⟨V4, hV4⟩ : ∃ V, V = (w4).alloc (.cells #[.int .i64 (T).a, .int .i64 (T).b, .int .i64 (T).c, .slice B4 (T).xs.length b4] 24) := ⟨_, rfl⟩
  rw [← hV4] at hJ4 ⊢
  have J4 := Lib.hid hJ4
  clear hJ4 hV4 K4 I4
  refine (C3.out HL.out B2 b2 V4 (J4.out.b (w2.heap.size, p, B2, b2) (by simp)).i).mono ?_
  intro e w5 h5
  obtain ⟨B5, b5, rfl, -, hi5, hb5⟩ := h5.open
  have K5 := Lib.hid (J4.out.keep hb5)
  have I5 := Lib.hid hi5
  clear h5 hb5 hi5 J4
  clear q0 q1 q2 q3 q4
  obtain ⟨q0, q1, q2, q3, q4⟩ := (K5.out.b (w.heap.size, p, A, k) (by simp)).b.cells
  go_wp2_with fail
  have hJ5 := K5.out.add (k := b5) I5.out
  obtain ⟨V5, hV5⟩ : ∃ V, V = (w5).alloc (.cells #[.int .i64 (M).a, .int .i64 (M).b, .int .i64 (M).c, .slice B5 (M).xs.length b5] 24) := ⟨_, rfl⟩
  rw [← hV5] at hJ5 ⊢
  have J5 := Lib.hid hJ5
  clear hJ5 hV5 K5 I5
  refine (C4.out HL.out A k V5 (J5.out.b (w.heap.size, p, A, k) (by simp)).i).mono ?_
  intro e w6 h6
  obtain ⟨B6, b6, rfl, -, hi6, hb6⟩ := h6.open
  have K6 := Lib.hid (J5.out.keep hb6)
  have I6 := Lib.hid hi6
  clear h6 hb6 hi6 J5
  clear q0 q1 q2 q3 q4
  obtain ⟨q0, q1, q2, q3, q4⟩ := (K6.out.b (w2.heap.size, p, B2, b2) (by simp)).b.cells
  go_wp2_with fail
  have hJ6 := K6.out.add (k := b6) I6.out
  obtain ⟨V6, hV6⟩ : ∃ V, V = (w6).alloc (.cells #[.int .i64 (M).a, .int .i64 (M).b, .int .i64 (M).c, .slice B6 (M).xs.length b6] 24) := ⟨_, rfl⟩
  rw [← hV6] at hJ6 ⊢
  have J6 := Lib.hid hJ6
  clear hJ6 hV6 K6 I6
  refine (C5.out HL.out HN.out B2 b2 A2 c2 V6 (J6.out.b (w2.heap.size, p, B2, b2) (by simp)).i (IsL.below J6.out.o HCS.out)).mono ?_
  intro e w7 h7
  obtain ⟨B7, b7, rfl, -, hi7, hb7⟩ := h7.open
  have K7 := Lib.hid (J6.out.keep hb7)
  have I7 := Lib.hid hi7
  clear h7 hb7 hi7 J6
  clear q0 q1 q2 q3 q4
  obtain ⟨q0, q1, q2, q3, q4⟩ := (K7.out.b (w.heap.size, p, A, k) (by simp)).b.cells
  go_wp2_with fail
  have hJ7 := K7.out.add (k := b7) I7.out
  obtain ⟨V7, hV7⟩ : ∃ V, V = (w7).alloc (.cells #[.int .i64 (R).a, .int .i64 (R).b, .int .i64 (R).c, .slice B7 (R).xs.length b7] 24) := ⟨_, rfl⟩
  rw [← hV7] at hJ7 ⊢
  have J7 := Lib.hid hJ7
  clear hJ7 hV7 K7 I7
  refine (C6.out HL.out A k A2 c2 V7 (J7.out.b (w.heap.size, p, A, k) (by simp)).i (IsL.below J7.out.o HCS.out)).mono ?_
  intro e w8 h8
  obtain ⟨B8, b8, rfl, -, hi8, hb8⟩ := h8.open
  have K8 := Lib.hid (J7.out.keep hb8)
  have I8 := Lib.hid hi8
  clear h8 hb8 hi8 J7
  clear q0 q1 q2 q3 q4
  obtain ⟨q0, q1, q2, q3, q4⟩ := (K8.out.b (w3.heap.size, T, B3, b3) (by simp)).b.cells
  obtain ⟨x0, x1, x2, x3, x4⟩ := (K8.out.b (w4.heap.size, T, B4, b4) (by simp)).b.cells
  go_wp2_with fail
  have hJ8 := K8.out.add (k := b8) I8.out
  obtain ⟨V8, hV8⟩ : ∃ V, V = (w8).alloc (.cells #[.int .i64 (R).a, .int .i64 (R).b, .int .i64 (R).c, .slice B8 (R).xs.length b8] 24) := ⟨_, rfl⟩
  rw [← hV8] at hJ8 ⊢
  have J8 := Lib.hid hJ8
  clear hJ8 hV8 K8 I8
  refine (equalP_any T T (by omega) (by omega) true (by simp) B3 b3 B4 b4 V8 (J8.out.b (w3.heap.size, T, B3, b3) (by simp)).i (J8.out.b (w4.heap.size, T, B4, b4) (by simp)).i).mono ?_
  rintro e w9 ⟨rfl, hb9⟩
  have K9 := Lib.hid (J8.out.keep hb9)
  clear hb9 J8
  clear q0 q1 q2 q3 q4 x0 x1 x2 x3 x4
  obtain ⟨q0, q1, q2, q3, q4⟩ := (K9.out.b (w5.heap.size, M, B5, b5) (by simp)).b.cells
  obtain ⟨x0, x1, x2, x3, x4⟩ := (K9.out.b (w6.heap.size, M, B6, b6) (by simp)).b.cells
  go_wp2_with fail
  refine (equalP_any M M (by omega) (by omega) true (by simp) B5 b5 B6 b6 w9 (K9.out.b (w5.heap.size, M, B5, b5) (by simp)).i (K9.out.b (w6.heap.size, M, B6, b6) (by simp)).i).mono ?_
  rintro e w10 ⟨rfl, hb10⟩
  have K10 := Lib.hid (K9.out.keep hb10)
  clear hb10 K9
  clear q0 q1 q2 q3 q4 x0 x1 x2 x3 x4
  obtain ⟨q0, q1, q2, q3, q4⟩ := (K10.out.b (w7.heap.size, R, B7, b7) (by simp)).b.cells
  obtain ⟨x0, x1, x2, x3, x4⟩ := (K10.out.b (w8.heap.size, R, B8, b8) (by simp)).b.cells
  go_wp2_with fail
  refine (equalP_any R R (by omega) (by omega) true (by simp) B7 b7 B8 b8 w10 (K10.out.b (w7.heap.size, R, B7, b7) (by simp)).i (K10.out.b (w8.heap.size, R, B8, b8) (by simp)).i).mono ?_
  rintro e w11 ⟨rfl, hb11⟩
  have K11 := Lib.hid (K10.out.keep hb11)
  clear hb11 K10
  clear q0 q1 q2 q3 q4 x0 x1 x2 x3 x4
  obtain ⟨q0, q1, q2, q3, q4⟩ := (K11.out.b (w2.heap.size, p, B2, b2) (by simp)).b.cells
  obtain ⟨x0, x1, x2, x3, x4⟩ := (K11.out.b (w.heap.size, p, A, k) (by simp)).b.cells
  go_wp2_with fail
  refine (equalP_any p p (by have := HL.out; omega) (by have := HL.out; omega) true (by simp) B2 b2 A k w11 (K11.out.b (w2.heap.size, p, B2, b2) (by simp)).i (K11.out.b (w.heap.size, p, A, k) (by simp)).i).mono ?_
  rintro e w12 ⟨rfl, hb12⟩
  have K12 := Lib.hid (K11.out.keep hb12)
  clear hb12 K11
  have hk13 := Lib.hid (known_any w12 (HI.out.2.below K12.out.o))
  clear q0
  go_wp2_with fail
  refine (hk13.out).mono ?_
  rintro e w13 ⟨rfl, hb13⟩
  have K13 := Lib.hid (K12.out.keep hb13)
  clear hb13 K12
  go_wp2
  go_ret
  exact ⟨rfl, K13.out.o⟩
end Go.Proofs.YtgmokojdlbdjeaaGreatDoor
