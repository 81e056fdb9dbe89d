/-
  The law PatternColors returns true for every pattern and cell.
-/
import Derived.Test.YtgmokojdlbdjeaaGreatDoorLawP
import Derived.Test.YtgmokojdlbdjeaaGreatDoorPrfL
import Derived.Test.YtgmokojdlbdjeaaGreatDoorRegQ
namespace Go.Proofs.YtgmokojdlbdjeaaGreatDoor
open Go.RowKit
attribute [local go_sem] grow_cell grow_frozen
attribute [local irreducible] RP.plainUpon RP.stepC
set_option maxRecDepth 100000 in
set_option maxHeartbeats 2000000 in
theorem patternColors_walk (p : PatD) (A : Option Addr) (k : Nat) (x y : Int) (w : World) (hi : PatIn w p A) (hw : LibOK w) :
    Calls Tryz.prog 9 #[.agg #[.int .i64 p.a, .int .i64 p.b, .int .i64 p.c, .slice A p.xs.length k], .int .i64 x, .int .i64 y] w fun e w' => e = .returned (.bool true) ∧ Below w.heap.size w w' := by
  have HI := Lib.hid (And.intro hi hw)
  have h1 := fun (hl : p.xs.length ≤ 1000000) A cap w hi => pat_any p hl x y A cap w hi
  have h2 := fun (hl : p.xs.length ≤ 1000000) A cap w hi => rat_any p hl x y A cap w hi
  have h3 := fun (hl : p.xs.length ≤ 1000000) A cap w hi => phomeT_any p hl x y A cap w hi
  have h4 := fun (hl : p.xs.length ≤ 1000000) A cap w hi => rhomeT_any p hl x y A cap w hi
  obtain ⟨E, hE⟩ : ∃ E, E = valP p := ⟨_, rfl⟩
  have CV := Lib.hid (fun (hl : p.xs.length ≤ 1000000) A cap w hi => validateP_any p hl E hE.symm A cap w hi)
  have CW := Lib.hid (fun (hl : p.xs.length ≤ 1000000) A cap w hi => rvalidateP_any p hl E hE.symm A cap w hi)
  obtain ⟨T, hT⟩ : ∃ T, T = atT p x y := ⟨_, rfl⟩
  obtain ⟨Z, hZ⟩ : ∃ Z, Z = chkP p [x, y] := ⟨_, rfl⟩
  obtain ⟨U, hU⟩ : ∃ U, U = (homT p x y).1 := ⟨_, rfl⟩
  obtain ⟨V, hV⟩ : ∃ V, V = (homT p x y).2 := ⟨_, rfl⟩
  rw [← hT, ← hZ] at h1 h2
  rw [← hU, ← hV, ← hZ] at h3 h4
  have C1 := Lib.hid h1
  have C2 := Lib.hid h2
  have C3 := Lib.hid h3
  have C4 := Lib.hid h4
  clear hi hw h1 h2 h3 h4 hT hZ hU hV hE
  go_enter Tryz.func9, Tryz.ntmps9
  go_wp2_with fail
  have hJ0 := (Js.start w).add (k := k) HI.out.1
  obtain ⟨V0, hV0⟩ : ∃ V, V = w.alloc (.cells #[.int .i64 p.a, .int .i64 p.b, .int .i64 p.c, .slice A p.xs.length k] 24) := ⟨_, rfl⟩
  rw [← hV0] at hJ0 ⊢
  have J0 := Lib.hid hJ0
  clear hJ0 hV0
  refine (long_any p A k V0).mono ?_
  rintro e w1 ⟨rfl, hb1⟩
  have K1 := Lib.hid (J0.out.keep hb1)
  clear hb1 J0
  by_cases h4 : 400 < p.xs.length
  · rw [decide_eq_true h4]
    have hk2 := Lib.hid (known_any w1 (HI.out.2.below K1.out.o))
    clear h4
    go_wp2_with fail
    refine (hk2.out).mono ?_
    rintro e w2 ⟨rfl, hb2⟩
    have K2 := Lib.hid (K1.out.keep hb2)
    clear hb2 K1
    go_wp2
    go_ret
    exact ⟨rfl, K2.out.o⟩
  rw [decide_eq_false h4]
  have HL := Lib.hid (show p.xs.length ≤ 1000000 by omega)
  clear h4
  obtain ⟨q0, q1, q2, q3, q4⟩ := (K1.out.b (w.heap.size, p, A, k) (by simp)).b.cells
  go_wp2_with fail
  refine (C1.out HL.out A k w1 (K1.out.b (w.heap.size, p, A, k) (by simp)).i).mono ?_
  rintro e w2 ⟨rfl, hb2⟩
  have K2 := Lib.hid (K1.out.keep hb2)
  clear hb2 K1
  clear q0 q1 q2 q3 q4
  obtain ⟨q0, q1, q2, q3, q4⟩ := (K2.out.b (w.heap.size, p, A, k) (by simp)).b.cells
  go_wp2_with fail
  refine (C2.out HL.out A k w2 (K2.out.b (w.heap.size, p, A, k) (by simp)).i).mono ?_
  rintro e w3 ⟨rfl, hb3⟩
  have K3 := Lib.hid (K2.out.keep hb3)
  clear hb3 K2
  clear q0 q1 q2 q3 q4
  obtain ⟨q0, q1, q2, q3, q4⟩ := (K3.out.b (w.heap.size, p, A, k) (by simp)).b.cells
  go_wp2_with fail
  refine (C3.out HL.out A k w3 (K3.out.b (w.heap.size, p, A, k) (by simp)).i).mono ?_
  rintro e w4 ⟨rfl, hb4⟩
  have K4 := Lib.hid (K3.out.keep hb4)
  clear hb4 K3
  clear q0 q1 q2 q3 q4
  obtain ⟨q0, q1, q2, q3, q4⟩ := (K4.out.b (w.heap.size, p, A, k) (by simp)).b.cells
  go_wp2_with fail
  refine (C4.out HL.out A k w4 (K4.out.b (w.heap.size, p, A, k) (by simp)).i).mono ?_
  rintro e w5 ⟨rfl, hb5⟩
  have K5 := Lib.hid (K4.out.keep hb5)
  clear hb5 K4
  clear q0 q1 q2 q3 q4 C1 C2 C3 C4
  obtain ⟨q0, q1, q2, q3, q4⟩ := (K5.out.b (w.heap.size, p, A, k) (by simp)).b.cells
  go_upto_region 7 with fail
  refine RP.region_seg (C := fun w' => ∃ x, w' = grow w5 x) (fun _ _ _ => False) [.reads [0, 2], .one 1, .one 3, .reads [4, 5, 6, 7, 8, 9, 10, 11, 12, 13, 14, 15, 16, 17, 18, 19, 20, 21, 22, 23, 24, 25, 26, 27, 28, 29, 30], .one 31, .reads [32]] 33 (fun _ _ _ h => h.elim) (by kernel_rfl) (by kernel_rfl) ?_
  obtain ⟨wx, hwx⟩ : ∃ wx : World, wx = { w5 with drawn := w5.drawn + 1 } := ⟨_, rfl⟩
  have hbx : Below w5.heap.size w5 wx := by rw [hwx]; exact (Below.refl _ _).drew
  rw [← hwx]
  clear hwx
  refine ⟨grow_of_below hbx, ?_⟩
  simp only [pickL, List.getElem?_cons_zero, List.getElem?_cons_succ]
  repeat (go_big_quiet_step (fail))
  refine wpQuiet_nil ?_
  refine ⟨grow_of_below hbx, ?_⟩
  simp only [atOp, List.getElem?_cons_zero, List.getElem?_cons_succ]
  refine RP.p_call 39 #[.agg #[.int .i64 p.a, .int .i64 p.b, .int .i64 p.c, .slice A p.xs.length k]] rfl (by go_simp) ?_
  refine (CV.out HL.out A k wx ((K5.out.b (w.heap.size, p, A, k) (by simp)).i.below hbx)).mono ?_
  rintro e wx1 ⟨rfl, hc1⟩
  have hbx1 := hbx.trans (hc1.mono hbx.size)
  refine .inl ⟨_, rfl, ?_⟩
  refine ⟨grow_of_below hbx1, ?_⟩
  simp only [atOp, List.getElem?_cons_zero, List.getElem?_cons_succ]
  refine RP.p_call 40 #[.agg #[.int .i64 p.a, .int .i64 p.b, .int .i64 p.c, .slice A p.xs.length k]] rfl (by go_simp) ?_
  refine (CW.out HL.out A k wx1 ((K5.out.b (w.heap.size, p, A, k) (by simp)).i.below hbx1)).mono ?_
  rintro e wx2 ⟨rfl, hc2⟩
  have hbx2 := hbx1.trans (hc2.mono hbx1.size)
  refine .inl ⟨_, rfl, ?_⟩
  refine ⟨grow_of_below hbx2, ?_⟩
  simp only [pickL, List.getElem?_cons_zero, List.getElem?_cons_succ]
  go_simp
  repeat (go_big_quiet_step (fail))
  refine wpQuiet_nil ?_
  refine ⟨grow_of_below hbx2, ?_⟩
  simp only [atOp, List.getElem?_cons_zero, List.getElem?_cons_succ]
  refine RP.p_call 16 #[] rfl (by go_simp) ?_
  refine (known_any wx2 ((HI.out.2.below K5.out.o).below hbx2)).mono ?_
  rintro e wx3 ⟨rfl, hc3⟩
  have hbx3 := hbx2.trans (hc3.mono hbx2.size)
  refine .inl ⟨_, rfl, ?_⟩
  refine ⟨grow_of_below hbx3, ?_⟩
  simp only [pickL, List.getElem?_cons_zero, List.getElem?_cons_succ]
  go_simp
  repeat (go_big_quiet_step (fail))
  refine wpQuiet_nil ?_
  refine ⟨grow_of_below hbx3, ?_⟩
  simp only [atOp, List.getElem?_cons_zero, List.getElem?_cons_succ]
  refine RP.p_val (.bool true) wx3 rfl (by go_simp) ?_
  have HF := Lib.hid (K5.out.o.trans (hbx3.mono K5.out.o.size))
  clear hbx hbx1 hbx2 hbx3 hc1 hc2 hc3 K5 q0 q1 q2 q3 q4
  go_simp
  go_wp2
  go_ret
  exact ⟨rfl, HF.out⟩
end Go.Proofs.YtgmokojdlbdjeaaGreatDoor
