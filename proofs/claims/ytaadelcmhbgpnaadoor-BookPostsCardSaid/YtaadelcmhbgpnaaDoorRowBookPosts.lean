/-
  The law BookPosts returns true for every input and leaves every argument as it was: the tied card. Conditions: none but the row's own (the listed package-level variables hold what the program's text lays, which the card ties).
-/
import Derived.Test.YtaadelcmhbgpnaaDoorFrame
import Derived.Test.YtaadelcmhbgpnaaDoorTie
import Derived.Test.YtaadelcmhbgpnaaDoorCards
import Derived.Test.YtaadelcmhbgpnaaDoorBookPosts
import Derived.SevenTiedAt
import Derived.Test.YtaadelcmhbgpnaaDoorOpen5
import Derived.Test.YtaadelcmhbgpnaaDoorWrap
namespace Go.Proofs.YtaadelcmhbgpnaaDoor.bookPostsRow
open Go.ChangeShapes Go.WideShapes Go.ChangeAt Go.RowKit
open Go
/-- The table that Go's own initialiser lays. -/
def pinFirst : Array Value := (Go.Pinned.utf8FirstZ.map fun (n : Nat) => Value.int .u8 n).toArray
theorem met (os : Os) (args : Array Value) : laidMetH Tryd.prog Rows.bookPostsRow.laid ((World.setRow (World.doorLaid Tryd.prog 72 os) 4 pinFirst).forCall (fun _ _ => 0) ⟨#[], args, []⟩).memory :=
  laidMetH_of_parts3 (fuel := 8) (laidMet_of_run' 8 (by kernel_rfl) (by kernel_rfl)) (by kernel_rfl) (by kernel_rfl)

set_option maxRecDepth 100000 in
theorem lifted (os : Os) (started : os.Started) (H : Type) (enc : TypeId × Value → H) :
    ReturnsInHanded {} Tryd.checked os 5 .any (fun w args => (Rows.bookPostsSpec.pre enc Tryd.prog Tryd.f5 [] false w args ∧ laidMetH Tryd.prog Rows.bookPostsRow.laid w) ∧ sizedMet enc Tryd.prog Tryd.f5 (OpenSpec.ofChange Rows.bookPostsSpec) false w args)
      (Rows.bookPostsSpec.post enc Tryd.prog Tryd.f5 false true false false) := by
  refine change_and_shaped (C := Tryd.checked) (X := fun w _ => laidMetH Tryd.prog Rows.bookPostsRow.laid w) (fun _ _ _ hh h => h.of_heap hh) own started (by kernel_rfl) Tryd.func5
    (ChangeSpec.witness_shaped (enc := enc) (C := Tryd.checked) (os := os) (X := fun w _ => laidMetH Tryd.prog Rows.bookPostsRow.laid w) false (World.setRow (World.doorLaid Tryd.prog 72 os) 4 pinFirst) #[.agg #[.string ⟨#[]⟩, .string ⟨#[]⟩, .int .i64 0], .string ⟨#[]⟩] 8 rfl (World.shaped_of_RefB (by kernel_rfl) (by kernel_rfl)) (by kernel_rfl) (by kernel_rfl) (by kernel_rfl) (met os _)) ?_
  intro W base args ds gs before hval0 hW hSh hL
  have hval : ∀ (j : Nat) t v, Tryd.f5.params[j]? = some t → args[j]? = some v → Value.okWide Tryd.prog W .any base t v := hval0
  have hW' := hW
  obtain ⟨p, q, hA0, hV, rfl, hfz, hnd⟩ := hW
  have hA : DataW.TrodAll enc Tryd.prog W 0 (fun _ => true) true Tryd.f5.params.toList args.toList ds p := hA0
  rw [Tryd.params5] at hA hval
  obtain ⟨v0, vs0, d0, ds0, p0, q0, hargs, rfl, rfl, h0, r0⟩ := trodAll_cons hA
  obtain ⟨v1, vs1, d1, ds1, p1, q1, rfl, rfl, rfl, h1, r1⟩ := trodAll_cons r0
  obtain ⟨rfl, rfl, rfl⟩ := trodAll_nil r1
  obtain rfl : args = #[v0, v1] := by cases args; simp_all
  obtain ⟨u00, u01, u02, y00, y01, y02, m0, rfl, rfl, rfl, hy00, hy01, hy02⟩ := Joins.open_agg3 Tryd.underlying31 (by kernel_rfl) (show Tryd.prog.cellsOf 31 = 3 by kernel_rfl) (hval 0 31 v0 rfl rfl) h0
  obtain ⟨a0, ea0, rfl, -⟩ := DataW.trod_string Tryd.underlying9 hy00
  obtain ⟨f0, ef0, rfl, -⟩ := DataW.trod_string Tryd.underlying9 hy01
  obtain ⟨g0, eg0, rfl, wg0⟩ := DataW.trod_int Tryd.underlying3 hy02
  simp at ea0 ef0 eg0
  subst ea0 ef0 eg0
  obtain ⟨s1, rfl, rfl, rfl, -⟩ := ChangeMaps.open_string Tryd.underlying9 (hval 1 9 v1 rfl rfl) h1
  obtain ⟨rfl, rfl⟩ := trodVars_none hV
  clear hA0 hval0
  have b0 := bounds_i64 wg0
  have hLib : LibOK W := libOK_of hSh hL rfl rfl rfl
  refine (bookPosts_walk ⟨a0, f0, g0⟩ s1 b0.1 b0.2 W hLib).mono fun e W' ⟨he, hb⟩ => ?_
  subst he
  exact ⟨_, rfl, post_law laidOut (by kernel_rfl) (by kernel_rfl) Tryd.underlying4 rfl rfl hW' hb⟩

theorem holds : Rows.BookPostsSaid :=
  OpenClaim.holds_of_wide 5 Tryd.f5 rfl rfl rfl rfl rfl rfl rfl ⟨rfl, rfl, rfl, rfl, rfl⟩ rfl rfl rfl rfl rfl (by kernel_rfl) Tryd.func5 (by kernel_rfl)
    (of_decide_eq_true (by kernel_rfl)) (by unfold Func.isWrapper; first | (rw [if_pos (by decide +kernel)]; kernel_rfl) | (rw [if_neg (by decide +kernel)]; exact ⟨rfl, rfl⟩))
    (fun os started H enc _ => lifted os started H enc)

theorem card_holds : Rows.BookPostsCardSaid :=
  Claim7.holds_tied_plain_at .later [] Rows.bookPostsCard.laidKinds true Rows.bookPostsCard.stood.harness Rows.bookPostsCard.stood.looks
    holds (fun _ h => by cases h) (by kernel_rfl) (fun _ h => by cases h) bookPosts_row_tie rfl ⟨rfl, rfl⟩ (by kernel_rfl) rfl
    (fun f fn hf hfn => by
      obtain rfl : f = 5 := Option.some.inj ((show Tryd.prog.funcNamed Rows.bookPostsRow.func = some 5 by kernel_rfl).symm.trans hf) |>.symm
      obtain rfl : fn = Tryd.f5 := (Option.some.inj (Tryd.func5.symm.trans hfn)).symm
      exact ⟨by kernel_rfl, fun j t ht => by
        rw [Tryd.params5] at ht
        have hm : t ∈ [31, 9] := by
          have := Array.mem_of_getElem? ht
          simp at this ⊢
          omega
        have hall : ([31, 9].all fun u => !Tryd.prog.wantsStandIn u) = true := by kernel_rfl
        exact (show Tryd.prog.wantsStandIn t = false by simpa using List.all_eq_true.1 hall t hm)⟩)
    (by kernel_rfl)
end Go.Proofs.YtaadelcmhbgpnaaDoor.bookPostsRow
