/-
  The law PatternPeriods returns true for every pattern and vector.
-/
import Derived.Test.YtgmokojdlbdjeaaGreatDoorLawP
import Derived.Test.YtgmokojdlbdjeaaGreatDoorPrfL
import Derived.Test.YtgmokojdlbdjeaaGreatDoorPatW
namespace Go.Proofs.YtgmokojdlbdjeaaGreatDoor
open Go.RowKit
theorem per_facts {p : PatD} {x y : Int} (hz : chkP p [x, y] = 0) : samT p (shiftT p x y) = perT p x y ∧ twoZ p (shiftT p x y) = 0 ∧ (((homT p x y).1 = 0 ∧ (homT p x y).2 = 0) ↔ perT p x y = true) ∧ (shiftT p x y).xs.length ≤ 144 := by
  obtain ⟨hv, -⟩ := chkP_zero hz
  have hg := valP_zero hv
  have hb : Base (shiftF (colF p) x y) p.a p.b p.c := (lst_pat hv).shift
  have hc : Cols (shiftF (colF p) x y) := fun u v => hg.cols (u - x) (v - y)
  have e : shiftT p x y = lst (shiftF (colF p) x y) := by unfold shiftT; rw [if_neg (by simp [hz])]
  have hgl := hb.good (Int.le_trans hb.lst_cells hg.ac) hc
  have hcol : colF (shiftT p x y) = shiftF (colF p) x y := by rw [e]; exact hb.lst_col
  have hvs : valP (shiftT p x y) = 0 := by rw [e]; exact hgl.val
  have h2 : twoZ p (shiftT p x y) = 0 := by unfold twoZ; rw [if_neg (by simp [hv])]; exact hvs
  refine ⟨?_, h2, ?_, ?_⟩
  · rw [Bool.eq_iff_iff, samT_iff h2, perT_iff hz, hcol]
    exact shift_same
  · rw [perT_iff hz]
    unfold homT
    rw [if_neg (by simp [hz])]
    simp only
    rw [home_zero]
    exact ((lst_pat hv).lst.1.lat).symm
  · rw [e]
    have := hgl.len
    have := hgl.ac
    omega
set_option maxRecDepth 100000 in
set_option maxHeartbeats 2000000 in
theorem patternPeriods_walk (p : PatD) (A : Option Addr) (k : Nat) (x y : Int) (w : World) (hi : PatIn w p A) (hw : LibOK w) :
    Calls Tryz.prog 11 #[.agg #[.int .i64 p.a, .int .i64 p.b, .int .i64 p.c, .slice A p.xs.length k], .int .i64 x, .int .i64 y] w fun e w' => e = .returned (.bool true) ∧ Below w.heap.size w w' := by
  have HI := Lib.hid (And.intro hi hw)
  have h1 := fun (hl : p.xs.length ≤ 1000000) A cap w hi => pisPeriod_any p hl x y A cap w hi
  have h2 := fun (hl : p.xs.length ≤ 1000000) A cap w hi => risPeriod_any p hl x y A cap w hi
  have h3 := fun (hl : p.xs.length ≤ 1000000) A cap w hi => pshift_any p hl x y A cap w hi
  have h4 := fun (hl : p.xs.length ≤ 1000000) (hl2 : (shiftT p x y).xs.length ≤ 1000000) A k B m w hi hq => psame_any p (shiftT p x y) hl hl2 A k B m w hi hq
  have h5 := fun (hl : p.xs.length ≤ 1000000) A cap w hi => phomeT_any p hl x y A cap w hi
  have hf := fun h => per_facts (p := p) (x := x) (y := y) h
  obtain ⟨X, hX⟩ : ∃ T, T = perT p x y := ⟨_, rfl⟩
  obtain ⟨Z, hZ⟩ : ∃ Z, Z = chkP p [x, y] := ⟨_, rfl⟩
  obtain ⟨S, hS⟩ : ∃ S, S = samT p (shiftT p x y) := ⟨_, rfl⟩
  obtain ⟨Y, hY⟩ : ∃ S, S = twoZ p (shiftT p x y) := ⟨_, rfl⟩
  obtain ⟨T, hT⟩ : ∃ S, S = shiftT p x y := ⟨_, rfl⟩
  obtain ⟨U, hU⟩ : ∃ U, U = (homT p x y).1 := ⟨_, rfl⟩
  obtain ⟨V, hV⟩ : ∃ V, V = (homT p x y).2 := ⟨_, rfl⟩
  rw [← hX, ← hZ] at h1 h2
  rw [← hS, ← hY, ← hT] at h4
  rw [← hT, ← hZ] at h3
  rw [← hU, ← hV, ← hZ] at h5
  rw [← hZ, ← hS, ← hX, ← hY, ← hU, ← hV, ← hT] at hf
  have C1 := Lib.hid h1
  have C2 := Lib.hid h2
  have C3 := Lib.hid h3
  have C4 := Lib.hid h4
  have C5 := Lib.hid h5
  have HF := Lib.hid hf
  clear hi hw h1 h2 h3 h4 h5 hf hX hZ hS hY hT hU hV
  go_enter Tryz.func11, Tryz.ntmps11
  go_wp2_with fail
  have hJ0 := (Js.start w).add (k := k) HI.out.1
  obtain ⟨V0, hV0⟩ : ∃ V, V = w.alloc (.cells #[.int .i64 p.a, .int .i64 p.b, .int .i64 p.c, .slice A p.xs.length k] 24) := ⟨_, rfl⟩
  rw [← hV0] at hJ0 ⊢
  have J0 := Lib.hid hJ0
  clear hJ0 hV0
  refine (long_any p A k V0).mono ?_
  rintro e w1 ⟨rfl, hb1⟩
  have K1 := Lib.hid (J0.out.keep hb1)
  clear hb1 J0
  by_cases h4 : 400 < p.xs.length
  · rw [decide_eq_true h4]
    have hk2 := Lib.hid (known_any w1 (HI.out.2.below K1.out.o))
    clear h4
    go_wp2_with fail
    refine (hk2.out).mono ?_
    rintro e w2 ⟨rfl, hb2⟩
    have K2 := Lib.hid (K1.out.keep hb2)
    clear hb2 K1
    go_wp2
    go_ret
    exact ⟨rfl, K2.out.o⟩
  rw [decide_eq_false h4]
  have HL := Lib.hid (show p.xs.length ≤ 1000000 by omega)
  clear h4
  obtain ⟨q0, q1, q2, q3, q4⟩ := (K1.out.b (w.heap.size, p, A, k) (by simp)).b.cells
  go_wp2_with fail
  refine (C1.out HL.out A k w1 (K1.out.b (w.heap.size, p, A, k) (by simp)).i).mono ?_
  rintro e w2 ⟨rfl, hb2⟩
  have K2 := Lib.hid (K1.out.keep hb2)
  clear hb2 K1
  clear q0 q1 q2 q3 q4
  obtain ⟨q0, q1, q2, q3, q4⟩ := (K2.out.b (w.heap.size, p, A, k) (by simp)).b.cells
  go_wp2_with fail
  refine (C2.out HL.out A k w2 (K2.out.b (w.heap.size, p, A, k) (by simp)).i).mono ?_
  rintro e w3 ⟨rfl, hb3⟩
  have K3 := Lib.hid (K2.out.keep hb3)
  clear hb3 K2
  clear q0 q1 q2 q3 q4
  by_cases hz : Z = 0
  · subst hz
    obtain ⟨rfl, rfl, hUV, hl⟩ := HF.out rfl
    have HUV := Lib.hid hUV
    have HTL := Lib.hid hl
    clear HF hUV hl C1 C2
    obtain ⟨q0, q1, q2, q3, q4⟩ := (K3.out.b (w.heap.size, p, A, k) (by simp)).b.cells
    go_wp2_with fail
    refine (C3.out HL.out A k w3 (K3.out.b (w.heap.size, p, A, k) (by simp)).i).mono ?_
    intro e w4 h4
    obtain ⟨B4, b4, rfl, -, hi4, hb4⟩ := h4.open
    have K4 := Lib.hid (K3.out.keep hb4)
    have I4 := Lib.hid hi4
    clear h4 hb4 hi4 K3
    clear q0 q1 q2 q3 q4
    obtain ⟨q0, q1, q2, q3, q4⟩ := (K4.out.b (w.heap.size, p, A, k) (by simp)).b.cells
    go_wp2_with fail
    have hJ4 := K4.out.add (k := b4) I4.out
    obtain ⟨V4, hV4⟩ : ∃ V, V = (w4).alloc (.cells #[.int .i64 (T).a, .int .i64 (T).b, .int .i64 (T).c, .slice B4 (T).xs.length b4] 24) := ⟨_, rfl⟩
    rw [← hV4] at hJ4 ⊢
    have J4 := Lib.hid hJ4
    clear hJ4 hV4 K4 I4
    refine (C4.out HL.out (by have := HTL.out; omega) A k B4 b4 V4 (J4.out.b (w.heap.size, p, A, k) (by simp)).i (J4.out.b (w4.heap.size, T, B4, b4) (by simp)).i).mono ?_
    rintro e w5 ⟨rfl, hb5⟩
    have K5 := Lib.hid (J4.out.keep hb5)
    clear hb5 J4
    clear q0 q1 q2 q3 q4
    obtain ⟨q0, q1, q2, q3, q4⟩ := (K5.out.b (w.heap.size, p, A, k) (by simp)).b.cells
    go_wp2_with fail
    refine (C5.out HL.out A k w5 (K5.out.b (w.heap.size, p, A, k) (by simp)).i).mono ?_
    rintro e w6 ⟨rfl, hb6⟩
    have K6 := Lib.hid (K5.out.keep hb6)
    clear hb6 K5
    clear q0 q1 q2 q3 q4
    cases S with
    | true =>
      obtain ⟨rfl, rfl⟩ := HUV.out.2 (by simp)
      clear HUV
      have hk7 := Lib.hid (known_any w6 (HI.out.2.below K6.out.o))
      clear C5
      go_wp2_with fail
      refine (hk7.out).mono ?_
      rintro e w7 ⟨rfl, hb7⟩
      have K7 := Lib.hid (K6.out.keep hb7)
      clear hb7 K6
      go_wp2
      go_ret
      exact ⟨rfl, K7.out.o⟩
    | false =>
      by_cases hu : U = 0
      · subst hu
        have hvz : ¬ V = 0 := fun h => by have := HUV.out.1 ⟨rfl, h⟩; simp at this
        have dv : (V == 0) = false := by rw [beq_eq_false_iff_ne]; exact hvz
        clear HUV hvz
        have hk7 := Lib.hid (known_any w6 (HI.out.2.below K6.out.o))
        clear C5
        go_wp2_with fail
        refine (hk7.out).mono ?_
        rintro e w7 ⟨rfl, hb7⟩
        have K7 := Lib.hid (K6.out.keep hb7)
        clear hb7 K6
        go_wp2
        go_ret
        exact ⟨rfl, K7.out.o⟩
      · have du : (U == 0) = false := by rw [beq_eq_false_iff_ne]; exact hu
        clear HUV hu
        have hk7 := Lib.hid (known_any w6 (HI.out.2.below K6.out.o))
        clear C5
        go_wp2_with fail
        refine (hk7.out).mono ?_
        rintro e w7 ⟨rfl, hb7⟩
        have K7 := Lib.hid (K6.out.keep hb7)
        clear hb7 K6
        go_wp2
        go_ret
        exact ⟨rfl, K7.out.o⟩
  · have d1 : (Z == 0) = false := by rw [beq_eq_false_iff_ne]; exact hz
    have d2 : (Z != 0) = true := by rw [bne_iff_ne]; exact hz
    clear hz HF
    have hk4 := Lib.hid (known_any w3 (HI.out.2.below K3.out.o))
    clear C1
    go_wp2_with fail
    refine (hk4.out).mono ?_
    rintro e w4 ⟨rfl, hb4⟩
    have K4 := Lib.hid (K3.out.keep hb4)
    clear hb4 K3
    go_wp2
    go_ret
    exact ⟨rfl, K4.out.o⟩
end Go.Proofs.YtgmokojdlbdjeaaGreatDoor
