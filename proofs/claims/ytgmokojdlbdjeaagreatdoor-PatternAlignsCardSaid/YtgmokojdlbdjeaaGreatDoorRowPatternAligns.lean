/-
  The law PatternAligns returns true for every input and leaves every argument as it was: the tied card. Conditions: none but the row's own (the listed package-level variables hold what the program's text lays, which the card ties).
-/
import Derived.Test.YtgmokojdlbdjeaaGreatDoorFrame
import Derived.Test.YtgmokojdlbdjeaaGreatDoorTie
import Derived.Test.YtgmokojdlbdjeaaGreatDoorCards
import Derived.Test.YtgmokojdlbdjeaaGreatDoorPatternAligns
import Derived.SevenTiedAt
import Derived.Test.YtgmokojdlbdjeaaGreatDoorWrapP
namespace Go.Proofs.YtgmokojdlbdjeaaGreatDoor.patternAlignsRow
open Go.ChangeShapes Go.WideShapes Go.ChangeAt Go.RowKit
open Go
/-- The table that Go's own initialiser lays. -/
def pinFirst : Array Value := (Go.Pinned.utf8FirstZ.map fun (n : Nat) => Value.int .u8 n).toArray
theorem met (os : Os) (args : Array Value) : laidMetH Tryz.prog Rows.patternAlignsRow.laid ((World.setRow (World.doorLaid Tryz.prog 72 os) 2 pinFirst).forCall (fun _ _ => 0) ⟨#[], args, []⟩).memory :=
  laidMetH_of_parts3 (fuel := 8) (laidMet_of_run' 8 (by kernel_rfl) (by kernel_rfl)) (by kernel_rfl) (by kernel_rfl)

set_option maxRecDepth 100000 in
theorem lifted (os : Os) (started : os.Started) (H : Type) (enc : TypeId × Value → H) :
    ReturnsInHanded {} Tryz.checked os 12 .any (fun w args => (Rows.patternAlignsSpec.pre enc Tryz.prog Tryz.f12 [] false w args ∧ laidMetH Tryz.prog Rows.patternAlignsRow.laid w) ∧ sizedMet enc Tryz.prog Tryz.f12 (OpenSpec.ofChange Rows.patternAlignsSpec) false w args)
      (Rows.patternAlignsSpec.post enc Tryz.prog Tryz.f12 false true false false) := by
  refine change_and_shaped (C := Tryz.checked) (X := fun w _ => laidMetH Tryz.prog Rows.patternAlignsRow.laid w) (fun _ _ _ hh h => h.of_heap hh) own started (by kernel_rfl) Tryz.func12
    (ChangeSpec.witness_shaped (enc := enc) (C := Tryz.checked) (os := os) (X := fun w _ => laidMetH Tryz.prog Rows.patternAlignsRow.laid w) false (World.setRow (World.doorLaid Tryz.prog 72 os) 2 pinFirst) #[.agg #[.int .i64 0, .int .i64 0, .int .i64 0, .slice none 0 0], .agg #[.int .i64 0, .int .i64 0, .int .i64 0, .slice none 0 0]] 8 rfl (World.shaped_of_RefB (by kernel_rfl) (by kernel_rfl)) (by kernel_rfl) (by kernel_rfl) (by kernel_rfl) (met os _)) ?_
  intro W base args ds gs before hval0 hW hSh hL
  have hval : ∀ (j : Nat) t v, Tryz.f12.params[j]? = some t → args[j]? = some v → Value.okWide Tryz.prog W .any base t v := hval0
  have hW' := hW
  obtain ⟨p, q, hA0, hV, rfl, hfz, hnd⟩ := hW
  have hA : DataW.TrodAll enc Tryz.prog W 0 (fun _ => true) true Tryz.f12.params.toList args.toList ds p := hA0
  rw [Tryz.params12] at hA hval
  obtain ⟨v0, vs0, d0, ds0, p0, q0, hargs, rfl, rfl, h0, r0⟩ := trodAll_cons hA
  obtain ⟨v1, vs1, d1, ds1, p1, q1, rfl, rfl, rfl, h1, r1⟩ := trodAll_cons r0
  obtain ⟨rfl, rfl, rfl⟩ := trodAll_nil r1
  obtain rfl : args = #[v0, v1] := by cases args; simp_all
  obtain ⟨u00, u01, u02, u03, y00, y01, y02, y03, m0, rfl, rfl, rfl, hy00, hy01, hy02, hy03⟩ := Joins.open_agg4 Tryz.underlying24 (by kernel_rfl) (show Tryz.prog.cellsOf 24 = 4 by kernel_rfl) (hval 0 24 v0 rfl rfl) h0
  obtain ⟨a0, ea0, rfl, wa0⟩ := DataW.trod_int Tryz.underlying3 hy00
  obtain ⟨f0, ef0, rfl, wf0⟩ := DataW.trod_int Tryz.underlying3 hy01
  obtain ⟨g0, eg0, rfl, wg0⟩ := DataW.trod_int Tryz.underlying3 hy02
  obtain ⟨A0, n0, c0, xs0, eh0, L0, -, -⟩ := isL_open Tryz.underlying22 Tryz.underlying3 (by kernel_rfl) hy03
  simp at ea0 ef0 eg0 eh0
  subst ea0 ef0 eg0 eh0
  have en0 := L0.1
  subst en0
  obtain ⟨u10, u11, u12, u13, y10, y11, y12, y13, m1, rfl, rfl, rfl, hy10, hy11, hy12, hy13⟩ := Joins.open_agg4 Tryz.underlying24 (by kernel_rfl) (show Tryz.prog.cellsOf 24 = 4 by kernel_rfl) (hval 1 24 v1 rfl rfl) h1
  obtain ⟨a1, ea1, rfl, wa1⟩ := DataW.trod_int Tryz.underlying3 hy10
  obtain ⟨f1, ef1, rfl, wf1⟩ := DataW.trod_int Tryz.underlying3 hy11
  obtain ⟨g1, eg1, rfl, wg1⟩ := DataW.trod_int Tryz.underlying3 hy12
  obtain ⟨A1, n1, c1, xs1, eh1, L1, -, -⟩ := isL_open Tryz.underlying22 Tryz.underlying3 (by kernel_rfl) hy13
  simp at ea1 ef1 eg1 eh1
  subst ea1 ef1 eg1 eh1
  have en1 := L1.1
  subst en1
  obtain ⟨rfl, rfl⟩ := trodVars_none hV
  clear hA0 hval0

  have hLib : LibOK W := libOK_of hSh hL rfl rfl rfl
  refine (patternAligns_walk ⟨a0, f0, g0, xs0⟩ A0 c0 ⟨a1, f1, g1, xs1⟩ A1 c1  W L0 L1 hLib).mono fun e W' ⟨he, hb⟩ => ?_
  subst he
  exact ⟨_, rfl, post_law laidOut (by kernel_rfl) (by kernel_rfl) Tryz.underlying4 rfl rfl hW' hb⟩

theorem holds : Rows.PatternAlignsSaid :=
  OpenClaim.holds_of_wide 12 Tryz.f12 rfl rfl rfl rfl rfl rfl rfl ⟨rfl, rfl, rfl, rfl, rfl⟩ rfl rfl rfl rfl rfl (by kernel_rfl) Tryz.func12 (by kernel_rfl)
    (of_decide_eq_true (by kernel_rfl)) (by unfold Func.isWrapper; first | (rw [if_pos (by decide +kernel)]; kernel_rfl) | (rw [if_neg (by decide +kernel)]; exact ⟨rfl, rfl⟩))
    (fun os started H enc _ => lifted os started H enc)

theorem card_holds : Rows.PatternAlignsCardSaid :=
  Claim7.holds_tied_plain_at .later [] Rows.patternAlignsCard.laidKinds true Rows.patternAlignsCard.stood.harness Rows.patternAlignsCard.stood.looks
    holds (fun _ h => by cases h) (by kernel_rfl) (fun _ h => by cases h) patternAligns_row_tie rfl ⟨rfl, rfl⟩ (by kernel_rfl) rfl
    (fun f fn hf hfn => by
      obtain rfl : f = 12 := Option.some.inj ((show Tryz.prog.funcNamed Rows.patternAlignsRow.func = some 12 by kernel_rfl).symm.trans hf) |>.symm
      obtain rfl : fn = Tryz.f12 := (Option.some.inj (Tryz.func12.symm.trans hfn)).symm
      exact ⟨by kernel_rfl, fun j t ht => by
        rw [Tryz.params12] at ht
        have hm : t ∈ [24] := by
          have := Array.mem_of_getElem? ht
          simp at this ⊢
          omega
        have hall : ([24].all fun u => !Tryz.prog.wantsStandIn u) = true := by kernel_rfl
        exact (show Tryz.prog.wantsStandIn t = false by simpa using List.all_eq_true.1 hall t hm)⟩)
    (by kernel_rfl)
end Go.Proofs.YtgmokojdlbdjeaaGreatDoor.patternAlignsRow
