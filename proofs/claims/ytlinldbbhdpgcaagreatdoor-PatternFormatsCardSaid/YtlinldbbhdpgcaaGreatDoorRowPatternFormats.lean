/-
  The law PatternFormats returns true for every input and leaves every argument as it was: the tied card. Conditions: none but the row's own (the listed package-level variables hold what the program's text lays, which the card ties).
-/
import Derived.Test.YtlinldbbhdpgcaaGreatDoorFrame
import Derived.Test.YtlinldbbhdpgcaaGreatDoorTie
import Derived.Test.YtlinldbbhdpgcaaGreatDoorCards
import Derived.Test.YtlinldbbhdpgcaaGreatDoorPatternFormats
import Derived.SevenTiedAt
import Derived.Test.YtlinldbbhdpgcaaGreatDoorWrapP
namespace Go.Proofs.YtlinldbbhdpgcaaGreatDoor.patternFormatsRow
open Go.ChangeShapes Go.WideShapes Go.ChangeAt Go.RowKit
open Go
/-- The table that Go's own initialiser lays. -/
def pinFirst : Array Value := (Go.Pinned.utf8FirstZ.map fun (n : Nat) => Value.int .u8 n).toArray
theorem met (os : Os) (args : Array Value) : laidMetH Tryz.prog Rows.patternFormatsRow.laid ((World.setRow (World.doorLaid Tryz.prog 72 os) 2 pinFirst).forCall (fun _ _ => 0) ⟨#[], args, []⟩).memory :=
  laidMetH_of_parts3 (fuel := 8) (laidMet_of_run' 8 (by kernel_rfl) (by kernel_rfl)) (by kernel_rfl) (by kernel_rfl)

set_option maxRecDepth 100000 in
theorem lifted (os : Os) (started : os.Started) (H : Type) (enc : TypeId × Value → H) :
    ReturnsInHanded {} Tryz.checked os 5 .any (fun w args => (Rows.patternFormatsSpec.pre enc Tryz.prog Tryz.f5 [] false w args ∧ laidMetH Tryz.prog Rows.patternFormatsRow.laid w) ∧ sizedMet enc Tryz.prog Tryz.f5 (OpenSpec.ofChange Rows.patternFormatsSpec) false w args)
      (Rows.patternFormatsSpec.post enc Tryz.prog Tryz.f5 false true false false) := by
  refine change_and_shaped (C := Tryz.checked) (X := fun w _ => laidMetH Tryz.prog Rows.patternFormatsRow.laid w) (fun _ _ _ hh h => h.of_heap hh) own started (by kernel_rfl) Tryz.func5
    (ChangeSpec.witness_shaped (enc := enc) (C := Tryz.checked) (os := os) (X := fun w _ => laidMetH Tryz.prog Rows.patternFormatsRow.laid w) false (World.setRow (World.doorLaid Tryz.prog 72 os) 2 pinFirst) #[.agg #[.int .i64 0, .int .i64 0, .int .i64 0, .slice none 0 0]] 8 rfl (World.shaped_of_RefB (by kernel_rfl) (by kernel_rfl)) (by kernel_rfl) (by kernel_rfl) (by kernel_rfl) (met os _)) ?_
  intro W base args ds gs before hval0 hW hSh hL
  have hval : ∀ (j : Nat) t v, Tryz.f5.params[j]? = some t → args[j]? = some v → Value.okWide Tryz.prog W .any base t v := hval0
  have hW' := hW
  obtain ⟨p, q, hA0, hV, rfl, hfz, hnd⟩ := hW
  have hA : DataW.TrodAll enc Tryz.prog W 0 (fun _ => true) true Tryz.f5.params.toList args.toList ds p := hA0
  rw [Tryz.params5] at hA hval
  obtain ⟨v0, vs0, d0, ds0, p0, q0, hargs, rfl, rfl, h0, r0⟩ := trodAll_cons hA
  obtain ⟨rfl, rfl, rfl⟩ := trodAll_nil r0
  obtain rfl : args = #[v0] := by cases args; simp_all
  obtain ⟨u00, u01, u02, u03, y00, y01, y02, y03, m0, rfl, rfl, rfl, hy00, hy01, hy02, hy03⟩ := Joins.open_agg4 Tryz.underlying24 (by kernel_rfl) (show Tryz.prog.cellsOf 24 = 4 by kernel_rfl) (hval 0 24 v0 rfl rfl) h0
  obtain ⟨a0, ea0, rfl, wa0⟩ := DataW.trod_int Tryz.underlying3 hy00
  obtain ⟨f0, ef0, rfl, wf0⟩ := DataW.trod_int Tryz.underlying3 hy01
  obtain ⟨g0, eg0, rfl, wg0⟩ := DataW.trod_int Tryz.underlying3 hy02
  obtain ⟨A0, n0, c0, xs0, eh0, L0, -, -⟩ := isL_open Tryz.underlying22 Tryz.underlying3 (by kernel_rfl) hy03
  simp at ea0 ef0 eg0 eh0
  subst ea0 ef0 eg0 eh0
  have en0 := L0.1
  subst en0
  obtain ⟨rfl, rfl⟩ := trodVars_none hV
  clear hA0 hval0

  have hLib : LibOK W := libOK_of hSh hL rfl rfl rfl
  refine (patternFormats_walk ⟨a0, f0, g0, xs0⟩ A0 c0  W L0 hLib).mono fun e W' ⟨he, hb⟩ => ?_
  subst he
  exact ⟨_, rfl, post_law laidOut (by kernel_rfl) (by kernel_rfl) Tryz.underlying4 rfl rfl hW' hb⟩

theorem holds : Rows.PatternFormatsSaid :=
  OpenClaim.holds_of_wide 5 Tryz.f5 rfl rfl rfl rfl rfl rfl rfl ⟨rfl, rfl, rfl, rfl, rfl⟩ rfl rfl rfl rfl rfl (by kernel_rfl) Tryz.func5 (by kernel_rfl)
    (of_decide_eq_true (by kernel_rfl)) (by unfold Func.isWrapper; first | (rw [if_pos (by decide +kernel)]; kernel_rfl) | (rw [if_neg (by decide +kernel)]; exact ⟨rfl, rfl⟩))
    (fun os started H enc _ => lifted os started H enc)

theorem card_holds : Rows.PatternFormatsCardSaid :=
  Claim7.holds_tied_plain_at .later [] Rows.patternFormatsCard.laidKinds true Rows.patternFormatsCard.stood.harness Rows.patternFormatsCard.stood.looks
    holds (fun _ h => by cases h) (by kernel_rfl) (fun _ h => by cases h) patternFormats_row_tie rfl ⟨rfl, rfl⟩ (by kernel_rfl) rfl
    (fun f fn hf hfn => by
      obtain rfl : f = 5 := Option.some.inj ((show Tryz.prog.funcNamed Rows.patternFormatsRow.func = some 5 by kernel_rfl).symm.trans hf) |>.symm
      obtain rfl : fn = Tryz.f5 := (Option.some.inj (Tryz.func5.symm.trans hfn)).symm
      exact ⟨by kernel_rfl, fun j t ht => by
        rw [Tryz.params5] at ht
        have hm : t ∈ [24] := by
          have := Array.mem_of_getElem? ht
          simp at this ⊢
          omega
        have hall : ([24].all fun u => !Tryz.prog.wantsStandIn u) = true := by kernel_rfl
        exact (show Tryz.prog.wantsStandIn t = false by simpa using List.all_eq_true.1 hall t hm)⟩)
    (by kernel_rfl)
end Go.Proofs.YtlinldbbhdpgcaaGreatDoor.patternFormatsRow
