/-
  The law PatternLeasts returns true for every pattern.
-/
import Derived.Test.YtgmokojdlbdjeaaGreatDoorLawP
namespace Go.Proofs.YtgmokojdlbdjeaaGreatDoor
open Go.RowKit
set_option maxRecDepth 100000 in
set_option maxHeartbeats 2000000 in
theorem patternLeasts_walk (p : PatD) (A : Option Addr) (k : Nat) (w : World) (hi : PatIn w p A) (hw : LibOK w) :
    Calls Tryz.prog 3 #[.agg #[.int .i64 p.a, .int .i64 p.b, .int .i64 p.c, .slice A p.xs.length k]] w fun e w' => e = .returned (.bool true) ∧ Below w.heap.size w w' := by
  have HI := Lib.hid (And.intro hi hw)
  have hle := fun (hl : p.xs.length ≤ 1000000) A cap w hi => least_lst p hl A cap w hi
  have hre := fun (hl : p.xs.length ≤ 1000000) A cap w hi => rleast_lst p hl A cap w hi
  obtain ⟨P, hP⟩ : ∃ P, P = lstO p := ⟨_, rfl⟩
  obtain ⟨E, hE⟩ : ∃ E, E = valP p := ⟨_, rfl⟩
  have hPl := lstO_len p
  rw [← hP, ← hE] at hle hre
  rw [← hP] at hPl
  have HLE := Lib.hid hle
  have HRE := Lib.hid hre
  clear hi hw hle hre hP hE
  go_enter Tryz.func3, Tryz.ntmps3
  go_wp2_with fail
  have hP := PB.new (k := k) HI.out.1
  have hb0 := below_new w (.cells #[.int .i64 p.a, .int .i64 p.b, .int .i64 p.c, .slice A p.xs.length k] 24)
  obtain ⟨W, hW⟩ : ∃ W, W = w.alloc (.cells #[.int .i64 p.a, .int .i64 p.b, .int .i64 p.c, .slice A p.xs.length k] 24) := ⟨_, rfl⟩
  rw [← hW] at hP hb0 ⊢
  clear hW
  refine (long_any p A k W).mono ?_
  rintro e w1 ⟨rfl, hb1⟩
  have J1 := Lib.hid (And.intro (hP.keep hb1) (hb0.trans (hb1.mono hb0.size)))
  clear hP hb0 hb1 W
  by_cases h4 : 400 < p.xs.length
  · rw [decide_eq_true h4]
    have hk := Lib.hid (known_any w1 (HI.out.2.below J1.out.2))
    clear h4
    go_wp2_with fail
    refine hk.out.mono ?_
    rintro e w2 ⟨rfl, hb2⟩
    have hf := Lib.hid (J1.out.2.trans (hb2.mono J1.out.2.size))
    clear hb2 J1 hk
    go_wp2
    go_ret
    exact ⟨rfl, hf.out⟩
  · rw [decide_eq_false h4]
    have hl : p.xs.length ≤ 1000000 := by omega
    have HL := Lib.hid hl
    clear h4 hl
    obtain ⟨q0, q1, q2, q3, q4⟩ := J1.out.1.b.cells
    go_wp2_with fail
    refine (copyP_any p (by have := HL.out; omega) A k w1 J1.out.1.i).mono ?_
    rintro e w2 ⟨v, rfl, hown, hb2⟩
    obtain ⟨B, m, rfl, hL⟩ := hown.isL
    have J2 := Lib.hid (And.intro (J1.out.1.keep hb2) (And.intro (show PatIn w2 p B from hL) (J1.out.2.trans (hb2.mono J1.out.2.size))))
    clear J1 hown hL hb2 q0 q1 q2 q3 q4
    go_wp2_with fail
    have hnW2 := PB.new (w := w2) (k := m) (p := p) (A := B) J2.out.2.1
    have hbnW2 := below_new w2 (.cells #[.int .i64 (p).a, .int .i64 (p).b, .int .i64 (p).c, .slice B (p).xs.length m] 24)
    obtain ⟨W2, hwW2⟩ : ∃ W, W = (w2).alloc (.cells #[.int .i64 (p).a, .int .i64 (p).b, .int .i64 (p).c, .slice B (p).xs.length m] 24) := ⟨_, rfl⟩
    rw [← hwW2] at hnW2 hbnW2 ⊢
    clear hwW2
    obtain ⟨b2, hb2e⟩ : ∃ b2, b2 = w2.heap.size := ⟨_, rfl⟩
    rw [← hb2e] at hnW2 ⊢
    have J3 := Lib.hid (And.intro (J2.out.1.keep hbnW2) (And.intro hnW2 (J2.out.2.2.trans (hbnW2.mono J2.out.2.2.size))))
    clear J2 hnW2 hbnW2 hb2e
    refine (HLE.out HL.out B m W2 J3.out.2.1.i).mono ?_
    intro e w3 h3
    obtain ⟨C, c, rfl, ho3, hi3, hb3⟩ := h3.open
    have B3 := Lib.hid hb3
    have O3 := Lib.hid (And.intro ho3 hi3)
    clear h3 ho3 hi3 hb3 HLE
    obtain ⟨q0, q1, q2, q3, q4⟩ := (J3.out.1.keep B3.out).b.cells
    go_wp2_with fail
    have hnW3 := PB.new (w := w3) (k := c) (p := P) (A := C) O3.out.2
    have hbnW3 := below_new w3 (.cells #[.int .i64 (P).a, .int .i64 (P).b, .int .i64 (P).c, .slice C (P).xs.length c] 24)
    obtain ⟨W3, hwW3⟩ : ∃ W, W = (w3).alloc (.cells #[.int .i64 (P).a, .int .i64 (P).b, .int .i64 (P).c, .slice C (P).xs.length c] 24) := ⟨_, rfl⟩
    rw [← hwW3] at hnW3 hbnW3 ⊢
    clear hwW3
    have J5 := Lib.hid (And.intro hnW3 (And.intro (OwnI.keep hbnW3 O3.out.1) (B3.out.trans (hbnW3.mono B3.out.size))))
    have hg3 : ∀ g, (Value.slice C P.xs.length c).ownBlock = some g → g < w3.heap.size := fun g e => (O3.out.1.lt' g e).2
    have HG3 := Lib.hid hg3
    clear hnW3 hbnW3 q0 q1 q2 q3 q4 hg3
    refine (HRE.out HL.out A k W3 (J3.out.1.keep J5.out.2.2).i).mono ?_
    intro e w4 h4
    obtain ⟨D, d, rfl, ho4, hi4, hb4⟩ := h4.open
    have B4 := Lib.hid hb4
    have O4 := Lib.hid hi4
    obtain ⟨b3, hb3e⟩ : ∃ b3, b3 = w3.heap.size := ⟨_, rfl⟩
    rw [← hb3e] at J5 HG3 ⊢
    clear h4 ho4 hi4 hb4 HRE hb3e B3 O3
    obtain ⟨q0, q1, q2, q3, q4⟩ := (J5.out.1.keep B4.out).b.cells
    go_wp2_with fail
    have hnW4 := PB.new (w := w4) (k := d) (p := P) (A := D) O4.out
    have hbnW4 := below_new w4 (.cells #[.int .i64 (P).a, .int .i64 (P).b, .int .i64 (P).c, .slice D (P).xs.length d] 24)
    obtain ⟨W4, hwW4⟩ : ∃ W, W = (w4).alloc (.cells #[.int .i64 (P).a, .int .i64 (P).b, .int .i64 (P).c, .slice D (P).xs.length d] 24) := ⟨_, rfl⟩
    rw [← hwW4] at hnW4 hbnW4 ⊢
    clear hwW4
    have B5 := Lib.hid (B4.out.trans (hbnW4.mono B4.out.size))
    have N5 := Lib.hid hnW4
    clear hnW4 hbnW4 q0 q1 q2 q3 q4 B4 O4
    refine (equalP_any P P (by omega) (by omega) true (by simp) C c D d W4 (J5.out.1.keep B5.out).i N5.out.i).mono ?_
    rintro e w5 ⟨rfl, hb5⟩
    have B6 := Lib.hid (B5.out.trans (hb5.mono B5.out.size))
    clear hb5 B5 N5
    go_wp2
    obtain ⟨l, hl⟩ : ∃ l, l = P.xs.length := ⟨_, rfl⟩
    obtain ⟨g, hg1, hg2, hg3⟩ : ∃ g, W2.heap.size ≤ g ∧ g ≠ b3 ∧ (0 < l → C = some ⟨g, 0, none⟩ ∧ RowI w5 g P.xs) := by
      by_cases h0 : 0 < l
      · obtain ⟨bb, o, rfl, -, -⟩ := (J5.out.1.keep B6.out).i.2 (by omega)
        obtain ⟨r1, rfl, r3⟩ := Row.of_own (OwnI.keep B6.out J5.out.2.1)
        exact ⟨bb, r3, by have := HG3.out bb rfl; omega, fun _ => ⟨rfl, r1⟩⟩
      · exact ⟨w5.heap.size, Nat.le_trans J5.out.2.2.size B6.out.size, by have := (Array.getElem?_eq_some_iff.1 (J5.out.1.keep B6.out).b).1; omega, fun h => absurd h h0⟩
    have H0 := Lib.hid (show w5.grownBy w5 (some g) ∧ (0 < l → ∃ zs, zs.length = l ∧ RowI w5 g zs) from ⟨grown_of (Below.refl _ w5) _, fun h => ⟨P.xs, hl.symm, (hg3 h).2⟩⟩)
    have HG := Lib.hid (fun h => (hg3 h).1)
    have hb0 : PB w5 b3 P C c := J5.out.1.keep B6.out
    have HB := Lib.hid hb0
    clear hg3 hb0
    go_loopw [9] (fun t wr => ∃ i : Nat, t = .int .i64 i ∧ i ≤ l ∧ Hid (w5.grownBy wr (some g) ∧ (0 < l → ∃ zs, zs.length = l ∧ RowI wr g zs))) (fun t _ => l - (intOf t).toNat)
    case atStart => exact ⟨0, rfl, by omega, H0⟩
    case round =>
      clear H0
      obtain ⟨i, rfl, hi, hr⟩ := hrel
      obtain ⟨q0, q1, q2, q3, q4⟩ := PBox.cells ((hr.out.1.block b3 (Array.getElem?_eq_some_iff.1 HB.out.b).1 (fun e => hg2 (by cases e; rfl))).trans HB.out.b)
      rw [← hl] at q3
      by_cases hlt : i < l
      · obtain ⟨zs, hz, hrow⟩ := hr.out.2 (by omega)
        have hC := HG.out (by omega)
        subst hC
        have y0 := hrow.get i (by omega)
        have y1 : wr.frozen? ⟨g, i, none⟩ = false := hrow.free i
        have hst := hrow.set i 9
        have hgr := hr.out.1
        have R2 := Lib.hid (show w5.grownBy (wr.setCell ⟨g, i, none⟩ (.int .i64 9)) (some g) ∧ (0 < l → ∃ zs, zs.length = l ∧ RowI (wr.setCell ⟨g, i, none⟩ (.int .i64 9)) g zs) from
          ⟨set_grown wr g i (.int .i64 9) (fun h => grown_then hgr h), fun _ => ⟨zs.set i 9, by rw [List.length_set, hz], hst⟩⟩)
        have d1 : decide ((i : Int) < (l : Int)) = true := decide_eq_true (by omega)
        clear hr hrow hst hgr HG
        go_wp2
        go_roundw
        case rel => exact ⟨i + 1, by go_num, by omega, R2⟩
        case measure => simp [intOf]; omega
      · obtain rfl : i = l := by omega
        have d1 : decide ((i : Int) < (i : Int)) = false := decide_eq_false (by omega)
        have HBW := Lib.hid (show Below W2.heap.size W2 wr from (J5.out.2.2.trans (B6.out.mono J5.out.2.2.size)).grown hr.out.1 (Nat.le_trans J5.out.2.2.size B6.out.size) (fun g' e => by cases e; exact hg1))
        clear hr HG q0 q1 q2 q4 hlt
        obtain ⟨x0, x1, x2, x3, x4⟩ := (J3.out.1.keep HBW.out).b.cells
        obtain ⟨z0, z1, z2, z3, z4⟩ := (J3.out.2.1.keep HBW.out).b.cells
        go_wp2_with fail
        refine (equalP_any p p (by have := HL.out; omega) (by have := HL.out; omega) true (by simp) B m A k wr (J3.out.2.1.keep HBW.out).i (J3.out.1.keep HBW.out).i).mono ?_
        rintro e w6 ⟨rfl, hb6⟩
        have B7 := Lib.hid (HBW.out.trans (hb6.mono HBW.out.size))
        have B8 := Lib.hid (J3.out.2.2.trans (B7.out.mono J3.out.2.2.size))
        have hk := Lib.hid (known_any w6 (HI.out.2.below B8.out))
        clear hb6 HBW x0 x1 x2 x3 x4 z0 z1 z2 z3 z4 q3 d1
        go_wp2_with fail
        refine hk.out.mono ?_
        rintro e w7 ⟨rfl, hb7⟩
        have hf := Lib.hid (B8.out.trans (hb7.mono B8.out.size))
        clear hb7 B7 B8 hk J3 J5 HB
        go_wp2
        go_ret
        exact ⟨rfl, hf.out⟩
end Go.Proofs.YtgmokojdlbdjeaaGreatDoor
