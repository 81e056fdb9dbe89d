/-
  The law TopTime returns true for every input and leaves every argument as it was: the tied card. Conditions: none but the row's own (the listed package-level variables hold what the program's text lays, which the card ties).
-/
import Derived.Test.YtplgndllfkceiaaDoorFrame
import Derived.Test.YtplgndllfkceiaaDoorTie
import Derived.Test.YtplgndllfkceiaaDoorCards
import Derived.Test.YtplgndllfkceiaaDoorTopTime
import Derived.SevenTiedAt
import Derived.Test.YtplgndllfkceiaaDoorCalR
import Derived.Test.YtplgndllfkceiaaDoorOpen5
namespace Go.Proofs.YtplgndllfkceiaaDoor.topTimeRow
open Go.ChangeShapes Go.WideShapes Go.ChangeAt Go.RowKit
open Go
theorem met (os : Os) (args : Array Value) : laidMetH Tryd.prog Rows.topTimeRow.laid ((World.doorLaid Tryd.prog 24 os).forCall (fun _ _ => 0) ⟨#[], args, []⟩).memory :=
  laidMetH_of_parts3 (fuel := 8) (laidMet_of_run' 8 (by kernel_rfl) (by kernel_rfl)) (by kernel_rfl) (by kernel_rfl)

set_option maxRecDepth 100000 in
theorem lifted (os : Os) (started : os.Started) (H : Type) (enc : TypeId × Value → H) :
    ReturnsInHanded {} Tryd.checked os 3 .any (fun w args => (Rows.topTimeSpec.pre enc Tryd.prog Tryd.f3 [] false w args ∧ laidMetH Tryd.prog Rows.topTimeRow.laid w) ∧ sizedMet enc Tryd.prog Tryd.f3 (OpenSpec.ofChange Rows.topTimeSpec) false w args)
      (Rows.topTimeSpec.post enc Tryd.prog Tryd.f3 false true false false) := by
  refine returnsInHanded_of_change_and (C := Tryd.checked) (X := fun w _ => laidMetH Tryd.prog Rows.topTimeRow.laid w) (fun _ _ _ hh h => h.of_heap hh) own started (by kernel_rfl) Tryd.func3
    (ChangeSpec.witness_shaped (enc := enc) (C := Tryd.checked) (os := os) (X := fun w _ => laidMetH Tryd.prog Rows.topTimeRow.laid w) false (World.doorLaid Tryd.prog 24 os) #[.agg #[.int .i64 0, .int .i64 0, .slice none 0 0, .slice none 0 0], .agg #[.int .i64 0, .int .i64 0, .int .i64 0, .int .i64 0, .int .i64 0], .slice none 0 0] 8 rfl (World.shaped_of_RefB (by kernel_rfl) (by kernel_rfl)) (by kernel_rfl) (by kernel_rfl) (by kernel_rfl) (met os _)) ?_
  intro W base args ds gs before hval0 hW _ _ hL _
  have hval : ∀ (j : Nat) t v, Tryd.f3.params[j]? = some t → args[j]? = some v → Value.okWide Tryd.prog W .any base t v := hval0
  have hW' := hW
  obtain ⟨p, q, hA0, hV, rfl, hfz, hnd⟩ := hW
  have hA : DataW.TrodAll enc Tryd.prog W 0 (fun _ => true) true Tryd.f3.params.toList args.toList ds p := hA0
  rw [Tryd.params3] at hA hval
  obtain ⟨v0, vs0, d0, ds0, p0, q0, hargs, rfl, rfl, h0, r0⟩ := trodAll_cons hA
  obtain ⟨v1, vs1, d1, ds1, p1, q1, rfl, rfl, rfl, h1, r1⟩ := trodAll_cons r0
  obtain ⟨v2, vs2, d2, ds2, p2, q2, rfl, rfl, rfl, h2, r2⟩ := trodAll_cons r1
  obtain ⟨rfl, rfl, rfl⟩ := trodAll_nil r2
  obtain rfl : args = #[v0, v1, v2] := by cases args; simp_all
  obtain ⟨u00, u01, u02, u03, y00, y01, y02, y03, m0, rfl, rfl, rfl, hy00, hy01, hy02, hy03⟩ := Joins.open_agg4 Tryd.underlying24 (by kernel_rfl) (show Tryd.prog.cellsOf 24 = 4 by kernel_rfl) (hval 0 24 v0 rfl rfl) h0
  obtain ⟨a0, ea0, rfl, wa0⟩ := DataW.trod_int Tryd.underlying3 hy00
  obtain ⟨f0, ef0, rfl, wf0⟩ := DataW.trod_int Tryd.underlying3 hy01
  obtain ⟨A0, n0, c0, xs0, eg0, L0, -, -⟩ := isL_open Tryd.underlying22 Tryd.underlying3 (by kernel_rfl) hy02
  obtain ⟨B0, k0, i0, zs0, eh0, M0, -, -⟩ := isL_open Tryd.underlying22 Tryd.underlying3 (by kernel_rfl) hy03
  simp at ea0 ef0 eg0 eh0
  subst ea0 ef0 eg0 eh0
  obtain ⟨u10, u11, u12, u13, u14, y10, y11, y12, y13, y14, m1, rfl, rfl, rfl, hy10, hy11, hy12, hy13, hy14⟩ := open_agg5 Tryd.underlying26 (by kernel_rfl) (show Tryd.prog.cellsOf 26 = 5 by kernel_rfl) (hval 1 26 v1 rfl rfl) h1
  obtain ⟨a10, e10, rfl, w10⟩ := DataW.trod_int Tryd.underlying3 hy10
  obtain ⟨a11, e11, rfl, w11⟩ := DataW.trod_int Tryd.underlying3 hy11
  obtain ⟨a12, e12, rfl, w12⟩ := DataW.trod_int Tryd.underlying3 hy12
  obtain ⟨a13, e13, rfl, w13⟩ := DataW.trod_int Tryd.underlying3 hy13
  obtain ⟨a14, e14, rfl, w14⟩ := DataW.trod_int Tryd.underlying3 hy14
  simp at e10 e11 e12 e13 e14
  subst e10 e11 e12 e13 e14
  obtain ⟨A2, n2, c2, rfl⟩ := okWide_slice Tryd.underlying22 (hval 2 22 v2 rfl rfl)
  obtain ⟨fu2, hfu2⟩ := h2
  obtain ⟨B2, k2, i2, xs2, eg2, L2, -, -⟩ := isL_open Tryd.underlying22 Tryd.underlying3 (by kernel_rfl) hfu2
  simp [Value.cells] at eg2
  obtain ⟨rfl, rfl, rfl⟩ := eg2
  obtain ⟨rfl, rfl⟩ := trodVars_none hV
  clear hA0 hval0
  have b0 := bounds_i64 wa0
  have g0 := bounds_i64 wf0
  have b10 := bounds_i64 w10
  have b11 := bounds_i64 w11
  have b12 := bounds_i64 w12
  have b13 := bounds_i64 w13
  have b14 := bounds_i64 w14
  refine (topTime_walk ⟨a0, f0, A0, n0, c0, B0, k0, i0, xs0, zs0⟩ a10 a11 a12 a13 a14 A2 n2 c2 xs2 b13.1 b13.2 W ⟨L0, M0, b0.1, b0.2, g0.1, g0.2⟩ L2).mono fun e W' ⟨he, hb⟩ => ?_
  subst he
  exact ⟨_, rfl, post_law laidOut (by kernel_rfl) (by kernel_rfl) Tryd.underlying4 rfl rfl hW' hb⟩

theorem holds : Rows.TopTimeSaid :=
  OpenClaim.holds_of_wide 3 Tryd.f3 rfl rfl rfl rfl rfl rfl rfl ⟨rfl, rfl, rfl, rfl, rfl⟩ rfl rfl rfl rfl rfl (by kernel_rfl) Tryd.func3 (by kernel_rfl)
    (of_decide_eq_true (by kernel_rfl)) (by unfold Func.isWrapper; first | (rw [if_pos (by decide +kernel)]; kernel_rfl) | (rw [if_neg (by decide +kernel)]; exact ⟨rfl, rfl⟩))
    (fun os started H enc _ => lifted os started H enc)

theorem card_holds : Rows.TopTimeCardSaid :=
  Claim7.holds_tied_plain_at .later [] Rows.topTimeCard.laidKinds true Rows.topTimeCard.stood.harness Rows.topTimeCard.stood.looks
    holds (fun _ h => by cases h) (by kernel_rfl) (fun _ h => by cases h) topTime_row_tie rfl ⟨rfl, rfl⟩ (by kernel_rfl) rfl
    (fun f fn hf hfn => by
      obtain rfl : f = 3 := Option.some.inj ((show Tryd.prog.funcNamed Rows.topTimeRow.func = some 3 by kernel_rfl).symm.trans hf) |>.symm
      obtain rfl : fn = Tryd.f3 := (Option.some.inj (Tryd.func3.symm.trans hfn)).symm
      exact ⟨by kernel_rfl, fun j t ht => by
        rw [Tryd.params3] at ht
        have hm : t ∈ [24, 26, 22] := by
          have := Array.mem_of_getElem? ht
          simp at this ⊢
          omega
        have hall : ([24, 26, 22].all fun u => !Tryd.prog.wantsStandIn u) = true := by kernel_rfl
        exact (show Tryd.prog.wantsStandIn t = false by simpa using List.all_eq_true.1 hall t hm)⟩)
    (by kernel_rfl)
end Go.Proofs.YtplgndllfkceiaaDoor.topTimeRow
