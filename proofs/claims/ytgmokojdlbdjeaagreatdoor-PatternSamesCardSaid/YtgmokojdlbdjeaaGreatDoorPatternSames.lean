/-
  The law PatternSames returns true for every two patterns.
-/
import Derived.Test.YtgmokojdlbdjeaaGreatDoorLawP
import Derived.Test.YtgmokojdlbdjeaaGreatDoorPrfN
namespace Go.Proofs.YtgmokojdlbdjeaaGreatDoor
open Go.RowKit
theorem same_facts {p q : PatD} (h : twoZ p q = 0) : samT p q = true ↔ lstO p = lstO q := by
  obtain ⟨h1, h2⟩ := twoZ_zero h
  rw [samT_iff h, lstO_zero h1, lstO_zero h2, lst_inj (lst_pat h1) (lst_pat h2)]
set_option maxRecDepth 100000 in
set_option maxHeartbeats 2000000 in
theorem patternSames_walk (p : PatD) (A : Option Addr) (k : Nat) (q : PatD) (D : Option Addr) (m : Nat) (w : World) (hi : PatIn w p A) (hq : PatIn w q D) (hw : LibOK w) :
    Calls Tryz.prog 10 #[.agg #[.int .i64 p.a, .int .i64 p.b, .int .i64 p.c, .slice A p.xs.length k], .agg #[.int .i64 q.a, .int .i64 q.b, .int .i64 q.c, .slice D q.xs.length m]] w fun e w' => e = .returned (.bool true) ∧ Below w.heap.size w w' := by
  have HI := Lib.hid (And.intro (And.intro hi hq) hw)
  have h1 := fun (hl : p.xs.length ≤ 1000000) (hl2 : q.xs.length ≤ 1000000) A k D m w hi hq => psame_any p q hl hl2 A k D m w hi hq
  have h2 := fun (hl : p.xs.length ≤ 1000000) (hl2 : q.xs.length ≤ 1000000) A k D m w hi hq => rsame_any p q hl hl2 A k D m w hi hq
  have h3 := fun (hl : p.xs.length ≤ 1000000) A cap w hi => least_lst p hl A cap w hi
  have h4 := fun (hl : q.xs.length ≤ 1000000) A cap w hi => least_lst q hl A cap w hi
  have hf := fun h => same_facts (p := p) (q := q) h
  have l1 := lstO_len p
  have l2 := lstO_len q
  obtain ⟨S, hS⟩ : ∃ S, S = samT p q := ⟨_, rfl⟩
  obtain ⟨Z, hZ⟩ : ∃ Z, Z = twoZ p q := ⟨_, rfl⟩
  obtain ⟨L, hL⟩ : ∃ L, L = lstO p := ⟨_, rfl⟩
  obtain ⟨M, hM⟩ : ∃ L, L = lstO q := ⟨_, rfl⟩
  rw [← hS, ← hZ] at h1 h2
  rw [← hL] at h3 l1
  rw [← hM] at h4 l2
  rw [← hS, ← hZ, ← hL, ← hM] at hf
  have C1 := Lib.hid h1
  have C2 := Lib.hid h2
  have C3 := Lib.hid h3
  have C4 := Lib.hid h4
  have HF := Lib.hid hf
  clear hi hq hw h1 h2 h3 h4 hf hS hZ hL hM
  go_enter Tryz.func10, Tryz.ntmps10
  go_wp2_with fail
  have hJ0 := ((Js.start w).add (k := k) HI.out.1.1).add (k := m) (HI.out.1.2.below (below_new w _))
  have hsz0 : (w.alloc (.cells #[.int .i64 p.a, .int .i64 p.b, .int .i64 p.c, .slice A p.xs.length k] 24)).heap.size = w.heap.size + 1 := by simp
  rw [hsz0] at hJ0
  obtain ⟨V0, hV0⟩ : ∃ V, V = (w.alloc (.cells #[.int .i64 p.a, .int .i64 p.b, .int .i64 p.c, .slice A p.xs.length k] 24)).alloc (.cells #[.int .i64 q.a, .int .i64 q.b, .int .i64 q.c, .slice D q.xs.length m] 24) := ⟨_, rfl⟩
  rw [← hV0] at hJ0 ⊢
  have J0 := Lib.hid hJ0
  clear hJ0 hV0 hsz0
  refine (long_any p A k V0).mono ?_
  rintro e w1 ⟨rfl, hb1⟩
  have K1 := Lib.hid (J0.out.keep hb1)
  clear hb1 J0
  by_cases h4 : 400 < p.xs.length
  · rw [decide_eq_true h4]
    have hk2 := Lib.hid (known_any w1 (HI.out.2.below K1.out.o))
    clear h4
    go_wp2_with fail
    refine (hk2.out).mono ?_
    rintro e w2 ⟨rfl, hb2⟩
    have K2 := Lib.hid (K1.out.keep hb2)
    clear hb2 K1
    go_wp2
    go_ret
    exact ⟨rfl, K2.out.o⟩
  rw [decide_eq_false h4]
  have HL := Lib.hid (show p.xs.length ≤ 1000000 by omega)
  clear h4
  obtain ⟨x0, x1, x2, x3, x4⟩ := (K1.out.b (w.heap.size + 1, q, D, m) (by simp)).b.cells
  go_wp2_with fail
  refine (long_any q D m w1).mono ?_
  rintro e w2 ⟨rfl, hb2⟩
  have K2 := Lib.hid (K1.out.keep hb2)
  clear hb2 K1
  clear x0 x1 x2 x3 x4
  by_cases h4 : 400 < q.xs.length
  · rw [decide_eq_true h4]
    have hk3 := Lib.hid (known_any w2 (HI.out.2.below K2.out.o))
    clear h4
    go_wp2_with fail
    refine (hk3.out).mono ?_
    rintro e w3 ⟨rfl, hb3⟩
    have K3 := Lib.hid (K2.out.keep hb3)
    clear hb3 K2
    go_wp2
    go_ret
    exact ⟨rfl, K3.out.o⟩
  rw [decide_eq_false h4]
  have HL2 := Lib.hid (show q.xs.length ≤ 1000000 by omega)
  clear h4
  obtain ⟨q0, q1, q2, q3, q4⟩ := (K2.out.b (w.heap.size, p, A, k) (by simp)).b.cells
  obtain ⟨x0, x1, x2, x3, x4⟩ := (K2.out.b (w.heap.size + 1, q, D, m) (by simp)).b.cells
  go_wp2_with fail
  refine (C1.out HL.out HL2.out A k D m w2 (K2.out.b (w.heap.size, p, A, k) (by simp)).i (K2.out.b (w.heap.size + 1, q, D, m) (by simp)).i).mono ?_
  rintro e w3 ⟨rfl, hb3⟩
  have K3 := Lib.hid (K2.out.keep hb3)
  clear hb3 K2
  clear q0 q1 q2 q3 q4 x0 x1 x2 x3 x4
  obtain ⟨q0, q1, q2, q3, q4⟩ := (K3.out.b (w.heap.size, p, A, k) (by simp)).b.cells
  obtain ⟨x0, x1, x2, x3, x4⟩ := (K3.out.b (w.heap.size + 1, q, D, m) (by simp)).b.cells
  go_wp2_with fail
  refine (C2.out HL.out HL2.out A k D m w3 (K3.out.b (w.heap.size, p, A, k) (by simp)).i (K3.out.b (w.heap.size + 1, q, D, m) (by simp)).i).mono ?_
  rintro e w4 ⟨rfl, hb4⟩
  have K4 := Lib.hid (K3.out.keep hb4)
  clear hb4 K3
  clear q0 q1 q2 q3 q4 x0 x1 x2 x3 x4
  obtain ⟨q0, q1, q2, q3, q4⟩ := (K4.out.b (w.heap.size, p, A, k) (by simp)).b.cells
  go_wp2_with fail
  refine (C3.out HL.out A k w4 (K4.out.b (w.heap.size, p, A, k) (by simp)).i).mono ?_
  intro e w5 h5
  obtain ⟨B5, b5, rfl, -, hi5, hb5⟩ := h5.open
  have K5 := Lib.hid (K4.out.keep hb5)
  have I5 := Lib.hid hi5
  clear h5 hb5 hi5 K4
  clear q0 q1 q2 q3 q4
  obtain ⟨x0, x1, x2, x3, x4⟩ := (K5.out.b (w.heap.size + 1, q, D, m) (by simp)).b.cells
  go_wp2_with fail
  have hJ5 := K5.out.add (k := b5) I5.out
  obtain ⟨V5, hV5⟩ : ∃ V, V = (w5).alloc (.cells #[.int .i64 (L).a, .int .i64 (L).b, .int .i64 (L).c, .slice B5 (L).xs.length b5] 24) := ⟨_, rfl⟩
  rw [← hV5] at hJ5 ⊢
  have J5 := Lib.hid hJ5
  clear hJ5 hV5 K5 I5
  refine (C4.out HL2.out D m V5 (J5.out.b (w.heap.size + 1, q, D, m) (by simp)).i).mono ?_
  intro e w6 h6
  obtain ⟨B6, b6, rfl, -, hi6, hb6⟩ := h6.open
  have K6 := Lib.hid (J5.out.keep hb6)
  have I6 := Lib.hid hi6
  clear h6 hb6 hi6 J5
  clear x0 x1 x2 x3 x4
  by_cases hz : Z = 0
  · subst hz
    have HR := Lib.hid (HF.out rfl)
    clear HF
    obtain ⟨q0, q1, q2, q3, q4⟩ := (K6.out.b (w5.heap.size, L, B5, b5) (by simp)).b.cells
    go_wp2_with fail
    have hJ6 := K6.out.add (k := b6) I6.out
    obtain ⟨V6, hV6⟩ : ∃ V, V = (w6).alloc (.cells #[.int .i64 (M).a, .int .i64 (M).b, .int .i64 (M).c, .slice B6 (M).xs.length b6] 24) := ⟨_, rfl⟩
    rw [← hV6] at hJ6 ⊢
    have J6 := Lib.hid hJ6
    clear hJ6 hV6 K6 I6
    refine (equalP_any L M (by omega) (by omega) S HR.out B5 b5 B6 b6 V6 (J6.out.b (w5.heap.size, L, B5, b5) (by simp)).i (J6.out.b (w6.heap.size, M, B6, b6) (by simp)).i).mono ?_
    rintro e w7 ⟨rfl, hb7⟩
    have K7 := Lib.hid (J6.out.keep hb7)
    clear hb7 J6
    have hk8 := Lib.hid (known_any w7 (HI.out.2.below K7.out.o))
    clear q0
    go_wp2_with fail
    refine (hk8.out).mono ?_
    rintro e w8 ⟨rfl, hb8⟩
    have K8 := Lib.hid (K7.out.keep hb8)
    clear hb8 K7
    go_wp2
    go_ret
    exact ⟨rfl, K8.out.o⟩
  · have d1 : (Z == 0) = false := by rw [beq_eq_false_iff_ne]; exact hz
    have d2 : (Z != 0) = true := by rw [bne_iff_ne]; exact hz
    clear hz HF
    go_wp2_with fail
    have hJ6 := K6.out.add (k := b6) I6.out
    obtain ⟨V6, hV6⟩ : ∃ V, V = (w6).alloc (.cells #[.int .i64 (M).a, .int .i64 (M).b, .int .i64 (M).c, .slice B6 (M).xs.length b6] 24) := ⟨_, rfl⟩
    rw [← hV6] at hJ6 ⊢
    have J6 := Lib.hid hJ6
    clear hJ6 hV6 K6 I6
    have hk := Lib.hid (known_any V6 (HI.out.2.below J6.out.o))
    refine hk.out.mono ?_
    rintro e w7 ⟨rfl, hb7⟩
    have K7 := Lib.hid (J6.out.keep hb7)
    clear hb7 hk
    go_wp2
    go_ret
    exact ⟨rfl, K7.out.o⟩
end Go.Proofs.YtgmokojdlbdjeaaGreatDoor
