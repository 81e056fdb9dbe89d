/-
  The law PatternShifts returns true for every pattern and vector.
-/
import Derived.Test.YtgmokojdlbdjeaaGreatDoorLawP
import Derived.Test.YtgmokojdlbdjeaaGreatDoorPrfF
namespace Go.Proofs.YtgmokojdlbdjeaaGreatDoor
open Go.RowKit
theorem shift_back (F : Int → Int → Int) (dx dy : Int) : shiftF (shiftF F dx dy) (-dx) (-dy) = F := by
  funext x y
  unfold shiftF
  rw [show x - -dx - dx = x by omega, show y - -dy - dy = y by omega]
theorem Cols.shift {F : Int → Int → Int} (h : Cols F) (dx dy : Int) : Cols (shiftF F dx dy) := fun _ _ => h _ _
theorem chk_ok {p : PatD} {xs : List Int} (h : valP p = 0) (hx : ∀ x ∈ xs, -100000 ≤ x ∧ x ≤ 100000) : chkP p xs = 0 := by
  unfold chkP
  rw [if_neg (by simp [h]), if_neg]
  rw [Bool.not_eq_true, List.any_eq_false]
  intro x hm
  have := hx x hm
  simp only [farC, Bool.or_eq_true, decide_eq_true_eq]
  omega
/-- What is behind a shift that is done. -/
theorem shift_done {p : PatD} {dx dy : Int} (h : chkP p [dx, dy] = 0) : chkP (shiftT p dx dy) [-dx, -dy] = 0 ∧ shiftT (shiftT p dx dy) (-dx) (-dy) = lstO p ∧ valP p = 0 ∧ (shiftT p dx dy).xs.length ≤ 144 ∧ (-100000 ≤ dx ∧ dx ≤ 100000) ∧ (-100000 ≤ dy ∧ dy ≤ 100000) := by
  obtain ⟨hv, hfar⟩ := chkP_zero h
  have hg := valP_zero hv
  have hB := (lst_pat hv).shift (dx := dx) (dy := dy)
  have e : shiftT p dx dy = lst (shiftF (colF p) dx dy) := by unfold shiftT; rw [if_neg (by simp [h])]
  have hG := hB.good (by have := hB.lst_cells; have := hg.ac; omega) (hg.cols.shift dx dy)
  have hdx := hfar dx (by simp)
  have hdy := hfar dy (by simp)
  have hc : chkP (shiftT p dx dy) [-dx, -dy] = 0 := by
    rw [e]
    refine chk_ok hG.val fun x hx => ?_
    simp only [List.mem_cons, List.not_mem_nil, or_false] at hx
    rcases hx with rfl | rfl <;> omega
  refine ⟨hc, ?_, hv, ?_, hdx, hdy⟩
  · have e2 : shiftT (shiftT p dx dy) (-dx) (-dy) = lst (shiftF (colF (shiftT p dx dy)) (-dx) (-dy)) := by
      rw [show shiftT (shiftT p dx dy) (-dx) (-dy) = if chkP (shiftT p dx dy) [-dx, -dy] ≠ 0 then zeroP else lst (shiftF (colF (shiftT p dx dy)) (-dx) (-dy)) from rfl, if_neg (by simp [hc])]
    rw [e2, e, hB.lst_col, shift_back, lstO_zero hv]
  · rw [e]
    have := hG.len
    have := hG.ac
    omega
theorem shift_len (p : PatD) (dx dy : Int) : (shiftT p dx dy).xs.length ≤ 144 := by
  by_cases h : chkP p [dx, dy] = 0
  · exact (shift_done h).2.2.2.1
  · unfold shiftT
    rw [if_pos h]
    show 0 ≤ 144; omega
set_option maxRecDepth 100000 in
set_option maxHeartbeats 2000000 in
theorem patternShifts_walk (p : PatD) (A : Option Addr) (k : Nat) (dx dy : Int) (w : World) (hi : PatIn w p A) (hw : LibOK w) :
    Calls Tryz.prog 4 #[.agg #[.int .i64 p.a, .int .i64 p.b, .int .i64 p.c, .slice A p.xs.length k], .int .i64 dx, .int .i64 dy] w fun e w' => e = .returned (.bool true) ∧ Below w.heap.size w w' := by
  have HI := Lib.hid (And.intro hi hw)
  have hsh := fun (hl : p.xs.length ≤ 1000000) A cap w hi => pshift_any p hl dx dy A cap w hi
  have hrs := fun (hl : p.xs.length ≤ 1000000) A cap w hi => rshift_any p hl dx dy A cap w hi
  have hle := fun (hl : p.xs.length ≤ 1000000) A cap w hi => least_lst p hl A cap w hi
  have hsl := shift_len p dx dy
  have hll := lstO_len p
  have hdone := fun (h : chkP p [dx, dy] = 0) => shift_done h
  obtain ⟨T, hT⟩ : ∃ T, T = shiftT p dx dy := ⟨_, rfl⟩
  obtain ⟨Z, hZ⟩ : ∃ Z, Z = chkP p [dx, dy] := ⟨_, rfl⟩
  obtain ⟨P, hP⟩ : ∃ P, P = lstO p := ⟨_, rfl⟩
  rw [← hT, ← hZ] at hsh hrs hdone
  rw [← hP] at hle hdone hll
  rw [← hT] at hsl
  have HSH := Lib.hid hsh
  have HRS := Lib.hid hrs
  have HLE := Lib.hid hle
  have HD := Lib.hid hdone
  clear hi hw hsh hrs hle hT hZ hP hdone
  go_enter Tryz.func4, Tryz.ntmps4
  go_wp2_with fail
  have hJ0 := (Js.start w).add (k := k) HI.out.1
  obtain ⟨V0, hV0⟩ : ∃ V, V = w.alloc (.cells #[.int .i64 p.a, .int .i64 p.b, .int .i64 p.c, .slice A p.xs.length k] 24) := ⟨_, rfl⟩
  rw [← hV0] at hJ0 ⊢
  have J0 := Lib.hid hJ0
  clear hJ0 hV0
  refine (long_any p A k V0).mono ?_
  rintro e w1 ⟨rfl, hb1⟩
  have K1 := Lib.hid (J0.out.keep hb1)
  clear hb1 J0
  by_cases h4 : 400 < p.xs.length
  · rw [decide_eq_true h4]
    have hk2 := Lib.hid (known_any w1 (HI.out.2.below K1.out.o))
    clear h4
    go_wp2_with fail
    refine (hk2.out).mono ?_
    rintro e w2 ⟨rfl, hb2⟩
    have K2 := Lib.hid (K1.out.keep hb2)
    clear hb2 K1
    go_wp2
    go_ret
    exact ⟨rfl, K2.out.o⟩
  rw [decide_eq_false h4]
  have HL := Lib.hid (show p.xs.length ≤ 1000000 by omega)
  clear h4
  obtain ⟨q0, q1, q2, q3, q4⟩ := (K1.out.b (w.heap.size, p, A, k) (by simp)).b.cells
  go_wp2_with fail
  refine (HSH.out HL.out A k w1 (K1.out.b (w.heap.size, p, A, k) (by simp)).i).mono ?_
  intro e w2 h2
  obtain ⟨B2, b2, rfl, -, hi2, hb2⟩ := h2.open
  have K2 := Lib.hid (K1.out.keep hb2)
  have I2 := Lib.hid hi2
  clear h2 hb2 hi2 K1
  clear q0 q1 q2 q3 q4
  obtain ⟨q0, q1, q2, q3, q4⟩ := (K2.out.b (w.heap.size, p, A, k) (by simp)).b.cells
  go_wp2_with fail
  have hJ2 := K2.out.add (k := b2) I2.out
  obtain ⟨V2, hV2⟩ : ∃ V, V = (w2).alloc (.cells #[.int .i64 (T).a, .int .i64 (T).b, .int .i64 (T).c, .slice B2 (T).xs.length b2] 24) := ⟨_, rfl⟩
  rw [← hV2] at hJ2 ⊢
  have J2 := Lib.hid hJ2
  clear hJ2 hV2 K2 I2
  refine (HRS.out HL.out A k V2 (J2.out.b (w.heap.size, p, A, k) (by simp)).i).mono ?_
  intro e w3 h3
  obtain ⟨B3, b3, rfl, -, hi3, hb3⟩ := h3.open
  have K3 := Lib.hid (J2.out.keep hb3)
  have I3 := Lib.hid hi3
  clear h3 hb3 hi3 J2
  clear q0 q1 q2 q3 q4
  obtain ⟨q0, q1, q2, q3, q4⟩ := (K3.out.b (w2.heap.size, T, B2, b2) (by simp)).b.cells
  go_wp2_with fail
  have hJ3 := K3.out.add (k := b3) I3.out
  obtain ⟨V3, hV3⟩ : ∃ V, V = (w3).alloc (.cells #[.int .i64 (T).a, .int .i64 (T).b, .int .i64 (T).c, .slice B3 (T).xs.length b3] 24) := ⟨_, rfl⟩
  rw [← hV3] at hJ3 ⊢
  have J3 := Lib.hid hJ3
  clear hJ3 hV3 K3 I3
  refine (equalP_any T T (by omega) (by omega) true (by simp) B2 b2 B3 b3 V3 (J3.out.b (w2.heap.size, T, B2, b2) (by simp)).i (J3.out.b (w3.heap.size, T, B3, b3) (by simp)).i).mono ?_
  rintro e w4 ⟨rfl, hb4⟩
  have K4 := Lib.hid (J3.out.keep hb4)
  clear hb4 J3
  clear q0 q1 q2 q3 q4
  by_cases hz : Z = 0
  · subst hz
    obtain ⟨c1, c2, c3, -, c5, c6⟩ := HD.out rfl
    have kx : IntKind.i64.wrap (-dx) = -dx := IntWalk.i64_in _ (by omega)
    have ky : IntKind.i64.wrap (-dy) = -dy := IntWalk.i64_in _ (by omega)
    have hsh2 := fun A cap w hi => pshift_any T (by omega) (-dx) (-dy) A cap w hi
    rw [c1, c2] at hsh2
    have hle2 := HLE.out
    rw [c3] at hle2
    have HSH2 := Lib.hid hsh2
    have HLE2 := Lib.hid hle2
    clear c1 c2 c3 c5 c6 hsh2 hle2 HLE HSH HRS HD
    obtain ⟨q0, q1, q2, q3, q4⟩ := (K4.out.b (w2.heap.size, T, B2, b2) (by simp)).b.cells
    go_wp2_with fail
    refine (HSH2.out B2 b2 w4 (K4.out.b (w2.heap.size, T, B2, b2) (by simp)).i).mono ?_
    intro e w5 h5
    obtain ⟨B5, b5, rfl, -, hi5, hb5⟩ := h5.open
    have K5 := Lib.hid (K4.out.keep hb5)
    have I5 := Lib.hid hi5
    clear h5 hb5 hi5 K4
    clear q0 q1 q2 q3 q4
    obtain ⟨q0, q1, q2, q3, q4⟩ := (K5.out.b (w.heap.size, p, A, k) (by simp)).b.cells
    go_wp2_with fail
    have hJ5 := K5.out.add (k := b5) I5.out
    obtain ⟨V5, hV5⟩ : ∃ V, V = (w5).alloc (.cells #[.int .i64 (P).a, .int .i64 (P).b, .int .i64 (P).c, .slice B5 (P).xs.length b5] 24) := ⟨_, rfl⟩
    rw [← hV5] at hJ5 ⊢
    have J5 := Lib.hid hJ5
    clear hJ5 hV5 K5 I5
    refine (HLE2.out HL.out A k V5 (J5.out.b (w.heap.size, p, A, k) (by simp)).i).mono ?_
    intro e w6 h6
    obtain ⟨B6, b6, rfl, -, hi6, hb6⟩ := h6.open
    have K6 := Lib.hid (J5.out.keep hb6)
    have I6 := Lib.hid hi6
    clear h6 hb6 hi6 J5
    clear q0 q1 q2 q3 q4
    obtain ⟨q0, q1, q2, q3, q4⟩ := (K6.out.b (w5.heap.size, P, B5, b5) (by simp)).b.cells
    go_wp2_with fail
    have hJ6 := K6.out.add (k := b6) I6.out
    obtain ⟨V6, hV6⟩ : ∃ V, V = (w6).alloc (.cells #[.int .i64 (P).a, .int .i64 (P).b, .int .i64 (P).c, .slice B6 (P).xs.length b6] 24) := ⟨_, rfl⟩
    rw [← hV6] at hJ6 ⊢
    have J6 := Lib.hid hJ6
    clear hJ6 hV6 K6 I6
    refine (equalP_any P P (by omega) (by omega) true (by simp) B5 b5 B6 b6 V6 (J6.out.b (w5.heap.size, P, B5, b5) (by simp)).i (J6.out.b (w6.heap.size, P, B6, b6) (by simp)).i).mono ?_
    rintro e w7 ⟨rfl, hb7⟩
    have K7 := Lib.hid (J6.out.keep hb7)
    clear hb7 J6
    have hk8 := Lib.hid (known_any w7 (HI.out.2.below K7.out.o))
    clear q0
    go_wp2_with fail
    refine (hk8.out).mono ?_
    rintro e w8 ⟨rfl, hb8⟩
    have K8 := Lib.hid (K7.out.keep hb8)
    clear hb8 K7
    go_wp2
    go_ret
    exact ⟨rfl, K8.out.o⟩
  · have d1 : (Z == 0) = false := by rw [beq_eq_false_iff_ne]; exact hz
    have d2 : (Z != 0) = true := by rw [bne_iff_ne]; exact hz
    have hk5 := Lib.hid (known_any w4 (HI.out.2.below K4.out.o))
    clear HLE
    go_wp2_with fail
    refine (hk5.out).mono ?_
    rintro e w5 ⟨rfl, hb5⟩
    have K5 := Lib.hid (K4.out.keep hb5)
    clear hb5 K4
    go_wp2
    go_ret
    exact ⟨rfl, K5.out.o⟩
end Go.Proofs.YtgmokojdlbdjeaaGreatDoor
