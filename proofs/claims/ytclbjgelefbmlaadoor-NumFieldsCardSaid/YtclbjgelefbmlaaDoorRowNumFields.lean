/-
  The law NumFields returns true for every input and leaves every argument as it was: the tied card. Conditions: none but the row's own (the listed package-level variables hold what the program's text lays, which the card ties).
-/
import Derived.Test.YtclbjgelefbmlaaDoorFrame
import Derived.Test.YtclbjgelefbmlaaDoorTie
import Derived.Test.YtclbjgelefbmlaaDoorCards
import Derived.Test.YtclbjgelefbmlaaDoorNumFields
import Derived.SevenTiedAt
namespace Go.Proofs.YtclbjgelefbmlaaDoor.numFieldsRow
open Go.ChangeShapes Go.WideShapes Go.ChangeAt Go.RowKit
open Go
theorem met (os : Os) (args : Array Value) : laidMetH Tryd.prog Rows.numFieldsRow.laid ((World.doorLaid Tryd.prog 72 os).forCall (fun _ _ => 0) ⟨#[], args, []⟩).memory :=
  laidMetH_of_parts3 (fuel := 8) (laidMet_of_run' 8 (by kernel_rfl) (by kernel_rfl)) (by kernel_rfl) (by kernel_rfl)

set_option maxRecDepth 100000 in
theorem lifted (os : Os) (started : os.Started) (H : Type) (enc : TypeId × Value → H) :
    ReturnsInHanded {} Tryd.checked os 6 .any (fun w args => (Rows.numFieldsSpec.pre enc Tryd.prog Tryd.f6 [] false w args ∧ laidMetH Tryd.prog Rows.numFieldsRow.laid w) ∧ sizedMet enc Tryd.prog Tryd.f6 (OpenSpec.ofChange Rows.numFieldsSpec) false w args)
      (Rows.numFieldsSpec.post enc Tryd.prog Tryd.f6 false true false false) := by
  refine returnsInHanded_of_change_and (C := Tryd.checked) (X := fun w _ => laidMetH Tryd.prog Rows.numFieldsRow.laid w) (fun _ _ _ hh h => h.of_heap hh) own started (by kernel_rfl) Tryd.func6
    (ChangeSpec.witness_shaped (enc := enc) (C := Tryd.checked) (os := os) (X := fun w _ => laidMetH Tryd.prog Rows.numFieldsRow.laid w) false (World.doorLaid Tryd.prog 72 os) #[.agg #[.int .i64 0, .int .i64 0], .agg #[.int .i64 0, .int .i64 0], .agg #[.int .i64 0, .int .i64 0]] 8 rfl (World.shaped_of_RefB (by kernel_rfl) (by kernel_rfl)) (by kernel_rfl) (by kernel_rfl) (by kernel_rfl) (met os _)) ?_
  intro W base args ds gs before hval0 hW _ _ hL _
  have hval : ∀ (j : Nat) t v, Tryd.f6.params[j]? = some t → args[j]? = some v → Value.okWide Tryd.prog W .any base t v := hval0
  have hW' := hW
  obtain ⟨p, q, hA0, hV, rfl, hfz, hnd⟩ := hW
  have hA : DataW.TrodAll enc Tryd.prog W 0 (fun _ => true) true Tryd.f6.params.toList args.toList ds p := hA0
  rw [Tryd.params6] at hA hval
  obtain ⟨v0, vs0, d0, ds0, p0, q0, hargs, rfl, rfl, h0, r0⟩ := trodAll_cons hA
  obtain ⟨v1, vs1, d1, ds1, p1, q1, rfl, rfl, rfl, h1, r1⟩ := trodAll_cons r0
  obtain ⟨v2, vs2, d2, ds2, p2, q2, rfl, rfl, rfl, h2, r2⟩ := trodAll_cons r1
  obtain ⟨rfl, rfl, rfl⟩ := trodAll_nil r2
  obtain rfl : args = #[v0, v1, v2] := by cases args; simp_all
  obtain ⟨c0, e0, y0, z0, m0, rfl, rfl, rfl, hy0, hz0⟩ := Joins.open_agg2 Tryd.underlying23 (by kernel_rfl) (show Tryd.prog.cellsOf 23 = 2 by kernel_rfl) (hval 0 23 v0 rfl rfl) h0
  obtain ⟨a0, ea0, rfl, wa0⟩ := DataW.trod_int Tryd.underlying3 hy0
  obtain ⟨f0, ef0, rfl, wf0⟩ := DataW.trod_int Tryd.underlying3 hz0
  simp at ea0 ef0
  subst ea0 ef0
  obtain ⟨c1, e1, y1, z1, m1, rfl, rfl, rfl, hy1, hz1⟩ := Joins.open_agg2 Tryd.underlying23 (by kernel_rfl) (show Tryd.prog.cellsOf 23 = 2 by kernel_rfl) (hval 1 23 v1 rfl rfl) h1
  obtain ⟨a1, ea1, rfl, wa1⟩ := DataW.trod_int Tryd.underlying3 hy1
  obtain ⟨f1, ef1, rfl, wf1⟩ := DataW.trod_int Tryd.underlying3 hz1
  simp at ea1 ef1
  subst ea1 ef1
  obtain ⟨c2, e2, y2, z2, m2, rfl, rfl, rfl, hy2, hz2⟩ := Joins.open_agg2 Tryd.underlying23 (by kernel_rfl) (show Tryd.prog.cellsOf 23 = 2 by kernel_rfl) (hval 2 23 v2 rfl rfl) h2
  obtain ⟨a2, ea2, rfl, wa2⟩ := DataW.trod_int Tryd.underlying3 hy2
  obtain ⟨f2, ef2, rfl, wf2⟩ := DataW.trod_int Tryd.underlying3 hz2
  simp at ea2 ef2
  subst ea2 ef2
  obtain ⟨rfl, rfl⟩ := trodVars_none hV
  clear hA0 hval0
  have b0 := bounds_i64 wa0
  have g0 := bounds_i64 wf0
  have b1 := bounds_i64 wa1
  have g1 := bounds_i64 wf1
  have b2 := bounds_i64 wa2
  have g2 := bounds_i64 wf2
  refine (numFields_walk a0 f0 a1 f1 a2 f2 b0.1 b0.2 g0.1 g0.2 b1.1 b1.2 g1.1 g1.2 b2.1 b2.2 g2.1 g2.2 W).mono fun e W' ⟨he, hb⟩ => ?_
  subst he
  exact ⟨_, rfl, post_law laidOut (by kernel_rfl) (by kernel_rfl) Tryd.underlying4 rfl rfl hW' hb⟩

theorem holds : Rows.NumFieldsSaid :=
  OpenClaim.holds_of_wide 6 Tryd.f6 rfl rfl rfl rfl rfl rfl rfl ⟨rfl, rfl, rfl, rfl, rfl⟩ rfl rfl rfl rfl rfl (by kernel_rfl) Tryd.func6 (by kernel_rfl)
    (of_decide_eq_true (by kernel_rfl)) (by unfold Func.isWrapper; first | (rw [if_pos (by decide +kernel)]; kernel_rfl) | (rw [if_neg (by decide +kernel)]; exact ⟨rfl, rfl⟩))
    (fun os started H enc _ => lifted os started H enc)

theorem card_holds : Rows.NumFieldsCardSaid :=
  Claim7.holds_tied_plain_at .later [] Rows.numFieldsCard.laidKinds true Rows.numFieldsCard.stood.harness Rows.numFieldsCard.stood.looks
    holds (fun _ h => by cases h) (by kernel_rfl) (fun _ h => by cases h) numFields_row_tie rfl ⟨rfl, rfl⟩ (by kernel_rfl) rfl
    (fun f fn hf hfn => by
      obtain rfl : f = 6 := Option.some.inj ((show Tryd.prog.funcNamed Rows.numFieldsRow.func = some 6 by kernel_rfl).symm.trans hf) |>.symm
      obtain rfl : fn = Tryd.f6 := (Option.some.inj (Tryd.func6.symm.trans hfn)).symm
      exact ⟨by kernel_rfl, fun j t ht => by
        rw [Tryd.params6] at ht
        have hm : t ∈ [23] := by
          have := Array.mem_of_getElem? ht
          simp at this ⊢
          omega
        have hall : ([23].all fun u => !Tryd.prog.wantsStandIn u) = true := by kernel_rfl
        exact (show Tryd.prog.wantsStandIn t = false by simpa using List.all_eq_true.1 hall t hm)⟩)
    (by kernel_rfl)
end Go.Proofs.YtclbjgelefbmlaaDoor.numFieldsRow
