/-
  The law PatternSwells returns true for every pattern and number.
-/
import Derived.Test.YtgmokojdlbdjeaaGreatDoorLawP
import Derived.Test.YtgmokojdlbdjeaaGreatDoorPrfK
namespace Go.Proofs.YtgmokojdlbdjeaaGreatDoor
open Go.RowKit
theorem resT_len {F : Int → Int → Int} {a b c : Int} (h : Base F a b c) : (resT F).xs.length ≤ 144 := by
  unfold resT
  split
  · rename_i h1
    obtain ⟨h2, h3⟩ := h.lst
    have h4 := leastP_len (F := F) (a := (lst F).a) (b := (lst F).b) (c := (lst F).c) h2.a0 h2.c0
    rw [← h3] at h4
    omega
  · show 0 ≤ 144; omega
theorem sweT_len (p : PatD) (t : Int) : (sweT p t).xs.length ≤ 144 := by
  unfold sweT
  by_cases h : sweZ p t = 0
  · rw [if_neg (by simp [h])]
    obtain ⟨h1, h2, h3⟩ := sweZ_zero h
    exact resT_len ((lst_pat h1).swell (show 0 < t by omega))
  · rw [if_pos h]; show 0 ≤ 144; omega
set_option maxRecDepth 100000 in
set_option maxHeartbeats 2000000 in
theorem patternSwells_walk (p : PatD) (A : Option Addr) (k : Nat) (t : Int) (w : World) (hi : PatIn w p A) (hw : LibOK w) :
    Calls Tryz.prog 7 #[.agg #[.int .i64 p.a, .int .i64 p.b, .int .i64 p.c, .slice A p.xs.length k], .int .i64 t] w fun e w' => e = .returned (.bool true) ∧ Below w.heap.size w w' := by
  have HI := Lib.hid (And.intro hi hw)
  have h1 := fun (hl : p.xs.length ≤ 1000000) A cap w hi => pswell_any p hl t A cap w hi
  have h2 := fun (hl : p.xs.length ≤ 1000000) A cap w hi => rswell_any p hl t A cap w hi
  have l1 := sweT_len p t
  obtain ⟨T, hT⟩ : ∃ T, T = sweT p t := ⟨_, rfl⟩
  obtain ⟨Z, hZ⟩ : ∃ Z, Z = sweE p t := ⟨_, rfl⟩
  rw [← hT, ← hZ] at h1 h2
  rw [← hT] at l1
  have C1 := Lib.hid h1
  have C2 := Lib.hid h2
  clear hi hw h1 h2 hT hZ
  go_enter Tryz.func7, Tryz.ntmps7
  go_wp2_with fail
  have hJ0 := (Js.start w).add (k := k) HI.out.1
  obtain ⟨V0, hV0⟩ : ∃ V, V = w.alloc (.cells #[.int .i64 p.a, .int .i64 p.b, .int .i64 p.c, .slice A p.xs.length k] 24) := ⟨_, rfl⟩
  rw [← hV0] at hJ0 ⊢
  have J0 := Lib.hid hJ0
  clear hJ0 hV0
  refine (long_any p A k V0).mono ?_
  rintro e w1 ⟨rfl, hb1⟩
  have K1 := Lib.hid (J0.out.keep hb1)
  clear hb1 J0
  by_cases h4 : 400 < p.xs.length
  · rw [decide_eq_true h4]
    have hk2 := Lib.hid (known_any w1 (HI.out.2.below K1.out.o))
    clear h4
    go_wp2_with fail
    refine (hk2.out).mono ?_
    rintro e w2 ⟨rfl, hb2⟩
    have K2 := Lib.hid (K1.out.keep hb2)
    clear hb2 K1
    go_wp2
    go_ret
    exact ⟨rfl, K2.out.o⟩
  rw [decide_eq_false h4]
  have HL := Lib.hid (show p.xs.length ≤ 1000000 by omega)
  clear h4
  obtain ⟨q0, q1, q2, q3, q4⟩ := (K1.out.b (w.heap.size, p, A, k) (by simp)).b.cells
  go_wp2_with fail
  refine (C1.out HL.out A k w1 (K1.out.b (w.heap.size, p, A, k) (by simp)).i).mono ?_
  intro e w2 h2
  obtain ⟨B2, b2, rfl, -, hi2, hb2⟩ := h2.open
  have K2 := Lib.hid (K1.out.keep hb2)
  have I2 := Lib.hid hi2
  clear h2 hb2 hi2 K1
  clear q0 q1 q2 q3 q4
  obtain ⟨q0, q1, q2, q3, q4⟩ := (K2.out.b (w.heap.size, p, A, k) (by simp)).b.cells
  go_wp2_with fail
  have hJ2 := K2.out.add (k := b2) I2.out
  obtain ⟨V2, hV2⟩ : ∃ V, V = (w2).alloc (.cells #[.int .i64 (T).a, .int .i64 (T).b, .int .i64 (T).c, .slice B2 (T).xs.length b2] 24) := ⟨_, rfl⟩
  rw [← hV2] at hJ2 ⊢
  have J2 := Lib.hid hJ2
  clear hJ2 hV2 K2 I2
  refine (C2.out HL.out A k V2 (J2.out.b (w.heap.size, p, A, k) (by simp)).i).mono ?_
  intro e w3 h3
  obtain ⟨B3, b3, rfl, -, hi3, hb3⟩ := h3.open
  have K3 := Lib.hid (J2.out.keep hb3)
  have I3 := Lib.hid hi3
  clear h3 hb3 hi3 J2
  clear q0 q1 q2 q3 q4
  obtain ⟨q0, q1, q2, q3, q4⟩ := (K3.out.b (w2.heap.size, T, B2, b2) (by simp)).b.cells
  go_wp2_with fail
  have hJ3 := K3.out.add (k := b3) I3.out
  obtain ⟨V3, hV3⟩ : ∃ V, V = (w3).alloc (.cells #[.int .i64 (T).a, .int .i64 (T).b, .int .i64 (T).c, .slice B3 (T).xs.length b3] 24) := ⟨_, rfl⟩
  rw [← hV3] at hJ3 ⊢
  have J3 := Lib.hid hJ3
  clear hJ3 hV3 K3 I3
  refine (equalP_any T T (by omega) (by omega) true (by simp) B2 b2 B3 b3 V3 (J3.out.b (w2.heap.size, T, B2, b2) (by simp)).i (J3.out.b (w3.heap.size, T, B3, b3) (by simp)).i).mono ?_
  rintro e w4 ⟨rfl, hb4⟩
  have K4 := Lib.hid (J3.out.keep hb4)
  clear hb4 J3
  have hk5 := Lib.hid (known_any w4 (HI.out.2.below K4.out.o))
  clear q0
  go_wp2_with fail
  refine (hk5.out).mono ?_
  rintro e w5 ⟨rfl, hb5⟩
  have K5 := Lib.hid (K4.out.keep hb5)
  clear hb5 K4
  go_wp2
  go_ret
  exact ⟨rfl, K5.out.o⟩
end Go.Proofs.YtgmokojdlbdjeaaGreatDoor
