/-
  The law NumTexts returns true for every input and leaves every argument as it was: the tied card. Conditions: none but the row's own (the listed package-level variables hold what the program's text lays, which the card ties).
-/
import Derived.Test.YtclbjgelefbmlaaDoorFrame
import Derived.Test.YtclbjgelefbmlaaDoorTie
import Derived.Test.YtclbjgelefbmlaaDoorCards
import Derived.Test.YtclbjgelefbmlaaDoorNumTexts
import Derived.SevenTiedAt
import Derived.Test.YtclbjgelefbmlaaDoorWrap
namespace Go.Proofs.YtclbjgelefbmlaaDoor.numTextsRow
open Go.ChangeShapes Go.WideShapes Go.ChangeAt Go.RowKit
open Go
theorem met (os : Os) (args : Array Value) : laidMetH Tryd.prog Rows.numTextsRow.laid ((World.doorLaid Tryd.prog 72 os).forCall (fun _ _ => 0) ⟨#[], args, []⟩).memory :=
  laidMetH_of_parts3 (fuel := 8) (laidMet_of_run' 8 (by kernel_rfl) (by kernel_rfl)) (by kernel_rfl) (by kernel_rfl)

set_option maxRecDepth 100000 in
theorem lifted (os : Os) (started : os.Started) (H : Type) (enc : TypeId × Value → H) :
    ReturnsInHanded {} Tryd.checked os 14 .any (fun w args => (Rows.numTextsSpec.pre enc Tryd.prog Tryd.f14 [] false w args ∧ laidMetH Tryd.prog Rows.numTextsRow.laid w) ∧ sizedMet enc Tryd.prog Tryd.f14 (OpenSpec.ofChange Rows.numTextsSpec) false w args)
      (Rows.numTextsSpec.post enc Tryd.prog Tryd.f14 false true false false) := by
  refine change_and_shaped (C := Tryd.checked) (X := fun w _ => laidMetH Tryd.prog Rows.numTextsRow.laid w) (fun _ _ _ hh h => h.of_heap hh) own started (by kernel_rfl) Tryd.func14
    (ChangeSpec.witness_shaped (enc := enc) (C := Tryd.checked) (os := os) (X := fun w _ => laidMetH Tryd.prog Rows.numTextsRow.laid w) false (World.doorLaid Tryd.prog 72 os) #[.agg #[.int .i64 0, .int .i64 0], .string ⟨#[]⟩] 8 rfl (World.shaped_of_RefB (by kernel_rfl) (by kernel_rfl)) (by kernel_rfl) (by kernel_rfl) (by kernel_rfl) (met os _)) ?_
  intro W base args ds gs before hval0 hW hSh hL
  have hval : ∀ (j : Nat) t v, Tryd.f14.params[j]? = some t → args[j]? = some v → Value.okWide Tryd.prog W .any base t v := hval0
  have hW' := hW
  obtain ⟨p, q, hA0, hV, rfl, hfz, hnd⟩ := hW
  have hA : DataW.TrodAll enc Tryd.prog W 0 (fun _ => true) true Tryd.f14.params.toList args.toList ds p := hA0
  rw [Tryd.params14] at hA hval
  obtain ⟨v0, vs0, d0, ds0, p0, q0, hargs, rfl, rfl, h0, r0⟩ := trodAll_cons hA
  obtain ⟨v1, vs1, d1, ds1, p1, q1, rfl, rfl, rfl, h1, r1⟩ := trodAll_cons r0
  obtain ⟨rfl, rfl, rfl⟩ := trodAll_nil r1
  obtain rfl : args = #[v0, v1] := by cases args; simp_all
  obtain ⟨c0, e0, y0, z0, m0, rfl, rfl, rfl, hy0, hz0⟩ := Joins.open_agg2 Tryd.underlying23 (by kernel_rfl) (show Tryd.prog.cellsOf 23 = 2 by kernel_rfl) (hval 0 23 v0 rfl rfl) h0
  obtain ⟨a0, ea0, rfl, wa0⟩ := DataW.trod_int Tryd.underlying3 hy0
  obtain ⟨f0, ef0, rfl, wf0⟩ := DataW.trod_int Tryd.underlying3 hz0
  simp at ea0 ef0
  subst ea0 ef0
  obtain ⟨s1, rfl, rfl, rfl, -⟩ := ChangeMaps.open_string Tryd.underlying9 (hval 1 9 v1 rfl rfl) h1
  obtain ⟨rfl, rfl⟩ := trodVars_none hV
  clear hA0 hval0
  have b0 := bounds_i64 wa0
  have g0 := bounds_i64 wf0
  have hLib : LibOK W := libOK_of hSh hL rfl rfl rfl
  refine (numTexts_walk a0 f0 s1 b0.1 b0.2 g0.1 g0.2  W hLib).mono fun e W' ⟨he, hb⟩ => ?_
  subst he
  exact ⟨_, rfl, post_law laidOut (by kernel_rfl) (by kernel_rfl) Tryd.underlying4 rfl rfl hW' hb⟩

theorem holds : Rows.NumTextsSaid :=
  OpenClaim.holds_of_wide 14 Tryd.f14 rfl rfl rfl rfl rfl rfl rfl ⟨rfl, rfl, rfl, rfl, rfl⟩ rfl rfl rfl rfl rfl (by kernel_rfl) Tryd.func14 (by kernel_rfl)
    (of_decide_eq_true (by kernel_rfl)) (by unfold Func.isWrapper; first | (rw [if_pos (by decide +kernel)]; kernel_rfl) | (rw [if_neg (by decide +kernel)]; exact ⟨rfl, rfl⟩))
    (fun os started H enc _ => lifted os started H enc)

theorem card_holds : Rows.NumTextsCardSaid :=
  Claim7.holds_tied_plain_at .later [] Rows.numTextsCard.laidKinds true Rows.numTextsCard.stood.harness Rows.numTextsCard.stood.looks
    holds (fun _ h => by cases h) (by kernel_rfl) (fun _ h => by cases h) numTexts_row_tie rfl ⟨rfl, rfl⟩ (by kernel_rfl) rfl
    (fun f fn hf hfn => by
      obtain rfl : f = 14 := Option.some.inj ((show Tryd.prog.funcNamed Rows.numTextsRow.func = some 14 by kernel_rfl).symm.trans hf) |>.symm
      obtain rfl : fn = Tryd.f14 := (Option.some.inj (Tryd.func14.symm.trans hfn)).symm
      exact ⟨by kernel_rfl, fun j t ht => by
        rw [Tryd.params14] at ht
        have hm : t ∈ [23, 9] := by
          have := Array.mem_of_getElem? ht
          simp at this ⊢
          omega
        have hall : ([23, 9].all fun u => !Tryd.prog.wantsStandIn u) = true := by kernel_rfl
        exact (show Tryd.prog.wantsStandIn t = false by simpa using List.all_eq_true.1 hall t hm)⟩)
    (by kernel_rfl)
end Go.Proofs.YtclbjgelefbmlaaDoor.numTextsRow
