/-
  The law TopPatterns returns true for every input and leaves every argument as it was: the tied card. Conditions: none but the row's own (the listed package-level variables hold what the program's text lays, which the card ties).
-/
import Derived.Test.YtlinldbbhdpgcaaGreatDoorFrame
import Derived.Test.YtlinldbbhdpgcaaGreatDoorTie
import Derived.Test.YtlinldbbhdpgcaaGreatDoorCards
import Derived.Test.YtlinldbbhdpgcaaGreatDoorTopPatterns
import Derived.SevenTiedAt
import Derived.Test.YtlinldbbhdpgcaaGreatDoorOpen5
import Derived.Test.YtlinldbbhdpgcaaGreatDoorWrapP
namespace Go.Proofs.YtlinldbbhdpgcaaGreatDoor.topPatternsRow
open Go.ChangeShapes Go.WideShapes Go.ChangeAt Go.RowKit
open Go
/-- The table that Go's own initialiser lays. -/
def pinFirst : Array Value := (Go.Pinned.utf8FirstZ.map fun (n : Nat) => Value.int .u8 n).toArray
theorem met (os : Os) (args : Array Value) : laidMetH Tryz.prog Rows.topPatternsRow.laid ((World.setRow (World.doorLaid Tryz.prog 72 os) 2 pinFirst).forCall (fun _ _ => 0) ⟨#[], args, []⟩).memory :=
  laidMetH_of_parts3 (fuel := 8) (laidMet_of_run' 8 (by kernel_rfl) (by kernel_rfl)) (by kernel_rfl) (by kernel_rfl)

set_option maxRecDepth 100000 in
theorem lifted (os : Os) (started : os.Started) (H : Type) (enc : TypeId × Value → H) :
    ReturnsInHanded {} Tryz.checked os 3 .any (fun w args => (Rows.topPatternsSpec.pre enc Tryz.prog Tryz.f3 [] false w args ∧ laidMetH Tryz.prog Rows.topPatternsRow.laid w) ∧ sizedMet enc Tryz.prog Tryz.f3 (OpenSpec.ofChange Rows.topPatternsSpec) false w args)
      (Rows.topPatternsSpec.post enc Tryz.prog Tryz.f3 false true false false) := by
  refine change_and_shaped (C := Tryz.checked) (X := fun w _ => laidMetH Tryz.prog Rows.topPatternsRow.laid w) (fun _ _ _ hh h => h.of_heap hh) own started (by kernel_rfl) Tryz.func3
    (ChangeSpec.witness_shaped (enc := enc) (C := Tryz.checked) (os := os) (X := fun w _ => laidMetH Tryz.prog Rows.topPatternsRow.laid w) false (World.setRow (World.doorLaid Tryz.prog 72 os) 2 pinFirst) #[.agg #[.int .i64 0, .int .i64 0, .int .i64 0, .slice none 0 0], .agg #[.int .i64 0, .int .i64 0, .int .i64 0, .slice none 0 0], .agg #[.int .i64 0, .int .i64 0, .int .i64 0, .int .i64 0, .int .i64 0]] 8 rfl (World.shaped_of_RefB (by kernel_rfl) (by kernel_rfl)) (by kernel_rfl) (by kernel_rfl) (by kernel_rfl) (met os _)) ?_
  intro W base args ds gs before hval0 hW hSh hL
  have hval : ∀ (j : Nat) t v, Tryz.f3.params[j]? = some t → args[j]? = some v → Value.okWide Tryz.prog W .any base t v := hval0
  have hW' := hW
  obtain ⟨p, q, hA0, hV, rfl, hfz, hnd⟩ := hW
  have hA : DataW.TrodAll enc Tryz.prog W 0 (fun _ => true) true Tryz.f3.params.toList args.toList ds p := hA0
  rw [Tryz.params3] at hA hval
  obtain ⟨v0, vs0, d0, ds0, p0, q0, hargs, rfl, rfl, h0, r0⟩ := trodAll_cons hA
  obtain ⟨v1, vs1, d1, ds1, p1, q1, rfl, rfl, rfl, h1, r1⟩ := trodAll_cons r0
  obtain ⟨v2, vs2, d2, ds2, p2, q2, rfl, rfl, rfl, h2, r2⟩ := trodAll_cons r1
  obtain ⟨rfl, rfl, rfl⟩ := trodAll_nil r2
  obtain rfl : args = #[v0, v1, v2] := by cases args; simp_all
  obtain ⟨u00, u01, u02, u03, y00, y01, y02, y03, m0, rfl, rfl, rfl, hy00, hy01, hy02, hy03⟩ := Joins.open_agg4 Tryz.underlying24 (by kernel_rfl) (show Tryz.prog.cellsOf 24 = 4 by kernel_rfl) (hval 0 24 v0 rfl rfl) h0
  obtain ⟨a0, ea0, rfl, wa0⟩ := DataW.trod_int Tryz.underlying3 hy00
  obtain ⟨f0, ef0, rfl, wf0⟩ := DataW.trod_int Tryz.underlying3 hy01
  obtain ⟨g0, eg0, rfl, wg0⟩ := DataW.trod_int Tryz.underlying3 hy02
  obtain ⟨A0, n0, c0, xs0, eh0, L0, -, -⟩ := isL_open Tryz.underlying22 Tryz.underlying3 (by kernel_rfl) hy03
  simp at ea0 ef0 eg0 eh0
  subst ea0 ef0 eg0 eh0
  have en0 := L0.1
  subst en0
  obtain ⟨u10, u11, u12, u13, y10, y11, y12, y13, m1, rfl, rfl, rfl, hy10, hy11, hy12, hy13⟩ := Joins.open_agg4 Tryz.underlying24 (by kernel_rfl) (show Tryz.prog.cellsOf 24 = 4 by kernel_rfl) (hval 1 24 v1 rfl rfl) h1
  obtain ⟨a1, ea1, rfl, wa1⟩ := DataW.trod_int Tryz.underlying3 hy10
  obtain ⟨f1, ef1, rfl, wf1⟩ := DataW.trod_int Tryz.underlying3 hy11
  obtain ⟨g1, eg1, rfl, wg1⟩ := DataW.trod_int Tryz.underlying3 hy12
  obtain ⟨A1, n1, c1, xs1, eh1, L1, -, -⟩ := isL_open Tryz.underlying22 Tryz.underlying3 (by kernel_rfl) hy13
  simp at ea1 ef1 eg1 eh1
  subst ea1 ef1 eg1 eh1
  have en1 := L1.1
  subst en1
  obtain ⟨u20, u21, u22, u23, u24, y20, y21, y22, y23, y24, m2, rfl, rfl, rfl, hy20, hy21, hy22, hy23, hy24⟩ := open_agg5 Tryz.underlying26 (by kernel_rfl) (show Tryz.prog.cellsOf 26 = 5 by kernel_rfl) (hval 2 26 v2 rfl rfl) h2
  obtain ⟨a20, e20, rfl, w20⟩ := DataW.trod_int Tryz.underlying3 hy20
  obtain ⟨a21, e21, rfl, w21⟩ := DataW.trod_int Tryz.underlying3 hy21
  obtain ⟨a22, e22, rfl, w22⟩ := DataW.trod_int Tryz.underlying3 hy22
  obtain ⟨a23, e23, rfl, w23⟩ := DataW.trod_int Tryz.underlying3 hy23
  obtain ⟨a24, e24, rfl, w24⟩ := DataW.trod_int Tryz.underlying3 hy24
  simp at e20 e21 e22 e23 e24
  subst e20 e21 e22 e23 e24
  obtain ⟨rfl, rfl⟩ := trodVars_none hV
  clear hA0 hval0

  have hLib : LibOK W := libOK_of hSh hL rfl rfl rfl
  refine (topPatterns_walk ⟨a0, f0, g0, xs0⟩ A0 c0 ⟨a1, f1, g1, xs1⟩ A1 c1 a20 a21 a22 a23 a24  W L0 L1 hLib).mono fun e W' ⟨he, hb⟩ => ?_
  subst he
  exact ⟨_, rfl, post_law laidOut (by kernel_rfl) (by kernel_rfl) Tryz.underlying4 rfl rfl hW' hb⟩

theorem holds : Rows.TopPatternsSaid :=
  OpenClaim.holds_of_wide 3 Tryz.f3 rfl rfl rfl rfl rfl rfl rfl ⟨rfl, rfl, rfl, rfl, rfl⟩ rfl rfl rfl rfl rfl (by kernel_rfl) Tryz.func3 (by kernel_rfl)
    (of_decide_eq_true (by kernel_rfl)) (by unfold Func.isWrapper; first | (rw [if_pos (by decide +kernel)]; kernel_rfl) | (rw [if_neg (by decide +kernel)]; exact ⟨rfl, rfl⟩))
    (fun os started H enc _ => lifted os started H enc)

theorem card_holds : Rows.TopPatternsCardSaid :=
  Claim7.holds_tied_plain_at .later [] Rows.topPatternsCard.laidKinds true Rows.topPatternsCard.stood.harness Rows.topPatternsCard.stood.looks
    holds (fun _ h => by cases h) (by kernel_rfl) (fun _ h => by cases h) topPatterns_row_tie rfl ⟨rfl, rfl⟩ (by kernel_rfl) rfl
    (fun f fn hf hfn => by
      obtain rfl : f = 3 := Option.some.inj ((show Tryz.prog.funcNamed Rows.topPatternsRow.func = some 3 by kernel_rfl).symm.trans hf) |>.symm
      obtain rfl : fn = Tryz.f3 := (Option.some.inj (Tryz.func3.symm.trans hfn)).symm
      exact ⟨by kernel_rfl, fun j t ht => by
        rw [Tryz.params3] at ht
        have hm : t ∈ [24, 26] := by
          have := Array.mem_of_getElem? ht
          simp at this ⊢
          omega
        have hall : ([24, 26].all fun u => !Tryz.prog.wantsStandIn u) = true := by kernel_rfl
        exact (show Tryz.prog.wantsStandIn t = false by simpa using List.all_eq_true.1 hall t hm)⟩)
    (by kernel_rfl)
end Go.Proofs.YtlinldbbhdpgcaaGreatDoor.topPatternsRow
