/-
  The law PatternOvers returns true for every two patterns.
-/
import Derived.Test.YtgmokojdlbdjeaaGreatDoorLawP
import Derived.Test.YtgmokojdlbdjeaaGreatDoorPrfO
namespace Go.Proofs.YtgmokojdlbdjeaaGreatDoor
open Go.RowKit
theorem oveT_len (p q : PatD) : (oveT p q).xs.length ≤ 144 := by
  unfold oveT
  by_cases h : twoZ p q = 0
  · rw [if_neg (by simp [h])]
    unfold resT
    split
    · rename_i h1
      obtain ⟨hv1, hv2⟩ := twoZ_zero h
      have g1 := valP_zero hv1
      have g2 := valP_zero hv2
      obtain ⟨m, n, b, hm⟩ := com_ref2 (b1 := p.b) (b2 := q.b) g1.a0 g2.a0 g1.c0 g2.c0
      have hb := hm.1.base (col_base g1.ok) (col_base g2.ok)
      obtain ⟨h2, h3⟩ := (hb.1.over hb.2).lst
      have h4 := leastP_len (F := overF (colF p) (colF q)) (a := (lst (overF (colF p) (colF q))).a) (b := (lst (overF (colF p) (colF q))).b) (c := (lst (overF (colF p) (colF q))).c) h2.a0 h2.c0
      rw [← h3] at h4
      omega
    · show 0 ≤ 144; omega
  · rw [if_pos h]; show 0 ≤ 144; omega
set_option maxRecDepth 100000 in
set_option maxHeartbeats 2000000 in
theorem patternOvers_walk (p : PatD) (A : Option Addr) (k : Nat) (q : PatD) (D : Option Addr) (m : Nat) (w : World) (hi : PatIn w p A) (hq : PatIn w q D) (hw : LibOK w) :
    Calls Tryz.prog 6 #[.agg #[.int .i64 p.a, .int .i64 p.b, .int .i64 p.c, .slice A p.xs.length k], .agg #[.int .i64 q.a, .int .i64 q.b, .int .i64 q.c, .slice D q.xs.length m]] w fun e w' => e = .returned (.bool true) ∧ Below w.heap.size w w' := by
  have HI := Lib.hid (And.intro (And.intro hi hq) hw)
  have h1 := fun (hl : p.xs.length ≤ 1000000) (hl2 : q.xs.length ≤ 1000000) A k D m w hi hq => pover_any p q hl hl2 A k D m w hi hq
  have h2 := fun (hl : p.xs.length ≤ 1000000) (hl2 : q.xs.length ≤ 1000000) A k D m w hi hq => rover_any p q hl hl2 A k D m w hi hq
  have l1 := oveT_len p q
  obtain ⟨T, hT⟩ : ∃ S, S = oveT p q := ⟨_, rfl⟩
  obtain ⟨Z, hZ⟩ : ∃ Z, Z = oveZ p q := ⟨_, rfl⟩
  rw [← hT, ← hZ] at h1 h2
  rw [← hT] at l1
  have C1 := Lib.hid h1
  have C2 := Lib.hid h2
  clear hi hq hw h1 h2 hT hZ
  go_enter Tryz.func6, Tryz.ntmps6
  go_wp2_with fail
  have hJ0 := ((Js.start w).add (k := k) HI.out.1.1).add (k := m) (HI.out.1.2.below (below_new w _))
  have hsz0 : (w.alloc (.cells #[.int .i64 p.a, .int .i64 p.b, .int .i64 p.c, .slice A p.xs.length k] 24)).heap.size = w.heap.size + 1 := by simp
  rw [hsz0] at hJ0
  obtain ⟨V0, hV0⟩ : ∃ V, V = (w.alloc (.cells #[.int .i64 p.a, .int .i64 p.b, .int .i64 p.c, .slice A p.xs.length k] 24)).alloc (.cells #[.int .i64 q.a, .int .i64 q.b, .int .i64 q.c, .slice D q.xs.length m] 24) := ⟨_, rfl⟩
  rw [← hV0] at hJ0 ⊢
  have J0 := Lib.hid hJ0
  clear hJ0 hV0 hsz0
  refine (long_any p A k V0).mono ?_
  rintro e w1 ⟨rfl, hb1⟩
  have K1 := Lib.hid (J0.out.keep hb1)
  clear hb1 J0
  by_cases h4 : 400 < p.xs.length
  · rw [decide_eq_true h4]
    have hk2 := Lib.hid (known_any w1 (HI.out.2.below K1.out.o))
    clear h4
    go_wp2_with fail
    refine (hk2.out).mono ?_
    rintro e w2 ⟨rfl, hb2⟩
    have K2 := Lib.hid (K1.out.keep hb2)
    clear hb2 K1
    go_wp2
    go_ret
    exact ⟨rfl, K2.out.o⟩
  rw [decide_eq_false h4]
  have HL := Lib.hid (show p.xs.length ≤ 1000000 by omega)
  clear h4
  obtain ⟨x0, x1, x2, x3, x4⟩ := (K1.out.b (w.heap.size + 1, q, D, m) (by simp)).b.cells
  go_wp2_with fail
  refine (long_any q D m w1).mono ?_
  rintro e w2 ⟨rfl, hb2⟩
  have K2 := Lib.hid (K1.out.keep hb2)
  clear hb2 K1
  clear x0 x1 x2 x3 x4
  by_cases h4 : 400 < q.xs.length
  · rw [decide_eq_true h4]
    have hk3 := Lib.hid (known_any w2 (HI.out.2.below K2.out.o))
    clear h4
    go_wp2_with fail
    refine (hk3.out).mono ?_
    rintro e w3 ⟨rfl, hb3⟩
    have K3 := Lib.hid (K2.out.keep hb3)
    clear hb3 K2
    go_wp2
    go_ret
    exact ⟨rfl, K3.out.o⟩
  rw [decide_eq_false h4]
  have HL2 := Lib.hid (show q.xs.length ≤ 1000000 by omega)
  clear h4
  obtain ⟨q0, q1, q2, q3, q4⟩ := (K2.out.b (w.heap.size, p, A, k) (by simp)).b.cells
  obtain ⟨x0, x1, x2, x3, x4⟩ := (K2.out.b (w.heap.size + 1, q, D, m) (by simp)).b.cells
  go_wp2_with fail
  refine (C1.out HL.out HL2.out A k D m w2 (K2.out.b (w.heap.size, p, A, k) (by simp)).i (K2.out.b (w.heap.size + 1, q, D, m) (by simp)).i).mono ?_
  intro e w3 h3
  obtain ⟨B3, b3, rfl, -, hi3, hb3⟩ := h3.open
  have K3 := Lib.hid (K2.out.keep hb3)
  have I3 := Lib.hid hi3
  clear h3 hb3 hi3 K2
  clear q0 q1 q2 q3 q4 x0 x1 x2 x3 x4
  obtain ⟨q0, q1, q2, q3, q4⟩ := (K3.out.b (w.heap.size, p, A, k) (by simp)).b.cells
  obtain ⟨x0, x1, x2, x3, x4⟩ := (K3.out.b (w.heap.size + 1, q, D, m) (by simp)).b.cells
  go_wp2_with fail
  have hJ3 := K3.out.add (k := b3) I3.out
  obtain ⟨V3, hV3⟩ : ∃ V, V = (w3).alloc (.cells #[.int .i64 (T).a, .int .i64 (T).b, .int .i64 (T).c, .slice B3 (T).xs.length b3] 24) := ⟨_, rfl⟩
  rw [← hV3] at hJ3 ⊢
  have J3 := Lib.hid hJ3
  clear hJ3 hV3 K3 I3
  refine (C2.out HL.out HL2.out A k D m V3 (J3.out.b (w.heap.size, p, A, k) (by simp)).i (J3.out.b (w.heap.size + 1, q, D, m) (by simp)).i).mono ?_
  intro e w4 h4
  obtain ⟨B4, b4, rfl, -, hi4, hb4⟩ := h4.open
  have K4 := Lib.hid (J3.out.keep hb4)
  have I4 := Lib.hid hi4
  clear h4 hb4 hi4 J3
  clear q0 q1 q2 q3 q4 x0 x1 x2 x3 x4
  obtain ⟨q0, q1, q2, q3, q4⟩ := (K4.out.b (w3.heap.size, T, B3, b3) (by simp)).b.cells
  go_wp2_with fail
  have hJ4 := K4.out.add (k := b4) I4.out
  obtain ⟨V4, hV4⟩ : ∃ V, V = (w4).alloc (.cells #[.int .i64 (T).a, .int .i64 (T).b, .int .i64 (T).c, .slice B4 (T).xs.length b4] 24) := ⟨_, rfl⟩
  rw [← hV4] at hJ4 ⊢
  have J4 := Lib.hid hJ4
  clear hJ4 hV4 K4 I4
  refine (equalP_any T T (by omega) (by omega) true (by simp) B3 b3 B4 b4 V4 (J4.out.b (w3.heap.size, T, B3, b3) (by simp)).i (J4.out.b (w4.heap.size, T, B4, b4) (by simp)).i).mono ?_
  rintro e w5 ⟨rfl, hb5⟩
  have K5 := Lib.hid (J4.out.keep hb5)
  clear hb5 J4
  have hk6 := Lib.hid (known_any w5 (HI.out.2.below K5.out.o))
  clear q0
  go_wp2_with fail
  refine (hk6.out).mono ?_
  rintro e w6 ⟨rfl, hb6⟩
  have K6 := Lib.hid (K5.out.keep hb6)
  clear hb6 K5
  go_wp2
  go_ret
  exact ⟨rfl, K6.out.o⟩
end Go.Proofs.YtgmokojdlbdjeaaGreatDoor
