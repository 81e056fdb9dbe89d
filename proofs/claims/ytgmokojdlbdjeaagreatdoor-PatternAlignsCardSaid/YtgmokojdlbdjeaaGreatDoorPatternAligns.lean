/-
  The law PatternAligns returns true for every two patterns.
-/
import Derived.Test.YtgmokojdlbdjeaaGreatDoorLawP
import Derived.Test.YtgmokojdlbdjeaaGreatDoorAlgB
import Derived.Test.YtgmokojdlbdjeaaGreatDoorAlgC
namespace Go.Proofs.YtgmokojdlbdjeaaGreatDoor
open Go.RowKit
theorem shiftT_facts {p : PatD} {x y : Int} (h : chkP p [x, y] = 0) : valP (shiftT p x y) = 0 ∧ colF (shiftT p x y) = shiftF (colF p) x y ∧ (shiftT p x y).xs.length ≤ 144 := by
  obtain ⟨hv, -⟩ := chkP_zero h
  have hg := valP_zero hv
  have hb : Base (shiftF (colF p) x y) p.a p.b p.c := (lst_pat hv).shift
  have hc : Cols (shiftF (colF p) x y) := fun u v => hg.cols (u - x) (v - y)
  have e : shiftT p x y = lst (shiftF (colF p) x y) := by unfold shiftT; rw [if_neg (by simp [h])]
  rw [e]
  have hgl := hb.good (Int.le_trans hb.lst_cells hg.ac) hc
  refine ⟨hgl.val, hb.lst_col, ?_⟩
  have := hgl.len
  have := hgl.ac
  omega
theorem shiftT_len (p : PatD) (x y : Int) : (shiftT p x y).xs.length ≤ 144 := by
  by_cases h : chkP p [x, y] = 0
  · exact (shiftT_facts h).2.2
  · unfold shiftT; rw [if_pos h]; show 0 ≤ 144; omega
theorem al_facts {p q : PatD} {x y : Int} (h : AlS p q x y true) : chkP p [x, y] = 0 ∧ twoZ (shiftT p x y) q = 0 ∧ samT (shiftT p x y) q = true := by
  obtain ⟨he, x0, x1, y0, y1, hxy⟩ := h.in
  obtain ⟨hv1, hv2⟩ := twoZ_zero he.1
  have hg := lst_good hv1
  have a1 := hg.a1
  have c1 := hg.c1
  have hc : chkP p [x, y] = 0 := by
    unfold chkP
    rw [if_neg (by simp [hv1]), if_neg]
    simp only [List.any_cons, List.any_nil, Bool.or_false, Bool.or_eq_true, farC, decide_eq_true_eq]
    omega
  obtain ⟨s1, s2, -⟩ := shiftT_facts hc
  have hz : twoZ (shiftT p x y) q = 0 := by unfold twoZ; rw [if_neg (by simp [s1])]; exact hv2
  exact ⟨hc, hz, (samT_iff hz).2 (by rw [s2]; exact hxy)⟩
set_option maxRecDepth 100000 in
set_option maxHeartbeats 4000000 in
theorem patternAligns_walk (p : PatD) (A : Option Addr) (k : Nat) (q : PatD) (D : Option Addr) (m : Nat) (w : World) (hi : PatIn w p A) (hq : PatIn w q D) (hw : LibOK w) :
    Calls Tryz.prog 12 #[.agg #[.int .i64 p.a, .int .i64 p.b, .int .i64 p.c, .slice A p.xs.length k], .agg #[.int .i64 q.a, .int .i64 q.b, .int .i64 q.c, .slice D q.xs.length m]] w fun e w' => e = .returned (.bool true) ∧ Below w.heap.size w w' := by
  have HI := Lib.hid (And.intro (And.intro hi hq) hw)
  obtain ⟨x, y, f, hs⟩ := AlS.some p q
  have h1 := fun (hl : p.xs.length ≤ 1000000) (hl2 : q.xs.length ≤ 1000000) A k D m w hi hq => palign_any p q hl hl2 x y f hs A k D m w hi hq
  have h2 := fun (hl : p.xs.length ≤ 1000000) (hl2 : q.xs.length ≤ 1000000) A k D m w hi hq => ralign_any p q hl hl2 x y f hs A k D m w hi hq
  have h3 := fun (hl : p.xs.length ≤ 1000000) A cap w hi => pshift_any p hl x y A cap w hi
  have l1 := shiftT_len p x y
  have h4 := fun (hl2 : q.xs.length ≤ 1000000) A k D m w hi hq => psame_any (shiftT p x y) q (by omega) hl2 A k D m w hi hq
  have hf : f = true → chkP p [x, y] = 0 ∧ twoZ (shiftT p x y) q = 0 ∧ samT (shiftT p x y) q = true := fun e => by subst e; exact al_facts hs
  obtain ⟨Z, hZ⟩ : ∃ Z, Z = twoZ p q := ⟨_, rfl⟩
  obtain ⟨S, hS⟩ : ∃ S, S = samT (shiftT p x y) q := ⟨_, rfl⟩
  obtain ⟨Y, hY⟩ : ∃ S, S = twoZ (shiftT p x y) q := ⟨_, rfl⟩
  obtain ⟨E, hE⟩ : ∃ E, E = chkP p [x, y] := ⟨_, rfl⟩
  obtain ⟨T, hT⟩ : ∃ T, T = shiftT p x y := ⟨_, rfl⟩
  rw [← hZ] at h1 h2
  rw [← hS, ← hY, ← hT] at h4
  rw [← hT, ← hE] at h3
  rw [← hS, ← hY, ← hE] at hf
  rw [← hT] at l1
  have C1 := Lib.hid h1
  have C2 := Lib.hid h2
  have C3 := Lib.hid h3
  have C4 := Lib.hid h4
  have HF := Lib.hid hf
  clear hi hq hw h1 h2 h3 h4 hf hZ hS hY hE hT hs
  go_enter Tryz.func12, Tryz.ntmps12
  go_wp2_with fail
  have hJ0 := ((Js.start w).add (k := k) HI.out.1.1).add (k := m) (HI.out.1.2.below (below_new w _))
  have hsz0 : (w.alloc (.cells #[.int .i64 p.a, .int .i64 p.b, .int .i64 p.c, .slice A p.xs.length k] 24)).heap.size = w.heap.size + 1 := by simp
  rw [hsz0] at hJ0
  obtain ⟨V0, hV0⟩ : ∃ V, V = (w.alloc (.cells #[.int .i64 p.a, .int .i64 p.b, .int .i64 p.c, .slice A p.xs.length k] 24)).alloc (.cells #[.int .i64 q.a, .int .i64 q.b, .int .i64 q.c, .slice D q.xs.length m] 24) := ⟨_, rfl⟩
  rw [← hV0] at hJ0 ⊢
  have J0 := Lib.hid hJ0
  clear hJ0 hV0 hsz0
  refine (long_any p A k V0).mono ?_
  rintro e w1 ⟨rfl, hb1⟩
  have K1 := Lib.hid (J0.out.keep hb1)
  clear hb1 J0
  by_cases h4 : 400 < p.xs.length
  · rw [decide_eq_true h4]
    have hk2 := Lib.hid (known_any w1 (HI.out.2.below K1.out.o))
    clear h4
    go_wp2_with fail
    refine (hk2.out).mono ?_
    rintro e w2 ⟨rfl, hb2⟩
    have K2 := Lib.hid (K1.out.keep hb2)
    clear hb2 K1
    go_wp2
    go_ret
    exact ⟨rfl, K2.out.o⟩
  rw [decide_eq_false h4]
  have HL := Lib.hid (show p.xs.length ≤ 1000000 by omega)
  clear h4
  obtain ⟨x0, x1, x2, x3, x4⟩ := (K1.out.b (w.heap.size + 1, q, D, m) (by simp)).b.cells
  go_wp2_with fail
  refine (long_any q D m w1).mono ?_
  rintro e w2 ⟨rfl, hb2⟩
  have K2 := Lib.hid (K1.out.keep hb2)
  clear hb2 K1
  clear x0 x1 x2 x3 x4
  by_cases h4 : 400 < q.xs.length
  · rw [decide_eq_true h4]
    have hk3 := Lib.hid (known_any w2 (HI.out.2.below K2.out.o))
    clear h4
    go_wp2_with fail
    refine (hk3.out).mono ?_
    rintro e w3 ⟨rfl, hb3⟩
    have K3 := Lib.hid (K2.out.keep hb3)
    clear hb3 K2
    go_wp2
    go_ret
    exact ⟨rfl, K3.out.o⟩
  rw [decide_eq_false h4]
  have HL2 := Lib.hid (show q.xs.length ≤ 1000000 by omega)
  clear h4
  obtain ⟨q0, q1, q2, q3, q4⟩ := (K2.out.b (w.heap.size, p, A, k) (by simp)).b.cells
  obtain ⟨x0, x1, x2, x3, x4⟩ := (K2.out.b (w.heap.size + 1, q, D, m) (by simp)).b.cells
  go_wp2_with fail
  refine (C1.out HL.out HL2.out A k D m w2 (K2.out.b (w.heap.size, p, A, k) (by simp)).i (K2.out.b (w.heap.size + 1, q, D, m) (by simp)).i).mono ?_
  rintro e w3 ⟨rfl, hb3⟩
  have K3 := Lib.hid (K2.out.keep hb3)
  clear hb3 K2
  clear q0 q1 q2 q3 q4 x0 x1 x2 x3 x4
  obtain ⟨q0, q1, q2, q3, q4⟩ := (K3.out.b (w.heap.size, p, A, k) (by simp)).b.cells
  obtain ⟨x0, x1, x2, x3, x4⟩ := (K3.out.b (w.heap.size + 1, q, D, m) (by simp)).b.cells
  go_wp2_with fail
  refine (C2.out HL.out HL2.out A k D m w3 (K3.out.b (w.heap.size, p, A, k) (by simp)).i (K3.out.b (w.heap.size + 1, q, D, m) (by simp)).i).mono ?_
  rintro e w4 ⟨rfl, hb4⟩
  have K4 := Lib.hid (K3.out.keep hb4)
  clear hb4 K3
  clear q0 q1 q2 q3 q4 x0 x1 x2 x3 x4
  obtain ⟨q0, q1, q2, q3, q4⟩ := (K4.out.b (w.heap.size, p, A, k) (by simp)).b.cells
  go_wp2_with fail
  refine (C3.out HL.out A k w4 (K4.out.b (w.heap.size, p, A, k) (by simp)).i).mono ?_
  intro e w5 h5
  obtain ⟨B5, b5, rfl, -, hi5, hb5⟩ := h5.open
  have K5 := Lib.hid (K4.out.keep hb5)
  have I5 := Lib.hid hi5
  clear h5 hb5 hi5 K4
  clear q0 q1 q2 q3 q4
  obtain ⟨x0, x1, x2, x3, x4⟩ := (K5.out.b (w.heap.size + 1, q, D, m) (by simp)).b.cells
  go_wp2_with fail
  have hJ5 := K5.out.add (k := b5) I5.out
  obtain ⟨V5, hV5⟩ : ∃ V, V = (w5).alloc (.cells #[.int .i64 (T).a, .int .i64 (T).b, .int .i64 (T).c, .slice B5 (T).xs.length b5] 24) := ⟨_, rfl⟩
  rw [← hV5] at hJ5 ⊢
  have J5 := Lib.hid hJ5
  clear hJ5 hV5 K5 I5
  refine (C4.out HL2.out B5 b5 D m V5 (J5.out.b (w5.heap.size, T, B5, b5) (by simp)).i (J5.out.b (w.heap.size + 1, q, D, m) (by simp)).i).mono ?_
  rintro e w6 ⟨rfl, hb6⟩
  have K6 := Lib.hid (J5.out.keep hb6)
  clear hb6 J5
  clear x0 x1 x2 x3 x4
  cases f with
  | true =>
    obtain ⟨rfl, rfl, rfl⟩ := HF.out (by simp)
    clear HF
    have hk7 := Lib.hid (known_any w6 (HI.out.2.below K6.out.o))
    clear C1
    go_wp2_with fail
    refine (hk7.out).mono ?_
    rintro e w7 ⟨rfl, hb7⟩
    have K7 := Lib.hid (K6.out.keep hb7)
    clear hb7 K6
    go_wp2
    go_ret
    exact ⟨rfl, K7.out.o⟩
  | false =>
    clear HF
    have hk7 := Lib.hid (known_any w6 (HI.out.2.below K6.out.o))
    clear C1
    go_wp2_with fail
    refine (hk7.out).mono ?_
    rintro e w7 ⟨rfl, hb7⟩
    have K7 := Lib.hid (K6.out.keep hb7)
    clear hb7 K6
    go_wp2
    go_ret
    exact ⟨rfl, K7.out.o⟩
end Go.Proofs.YtgmokojdlbdjeaaGreatDoor
