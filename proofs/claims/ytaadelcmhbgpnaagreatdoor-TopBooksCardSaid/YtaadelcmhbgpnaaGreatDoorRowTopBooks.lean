/-
  The law TopBooks returns true for every input and leaves every argument as it was: the tied card. Conditions: none but the row's own (the listed package-level variables hold what the program's text lays, which the card ties).
-/
import Derived.Test.YtaadelcmhbgpnaaGreatDoorFrame
import Derived.Test.YtaadelcmhbgpnaaGreatDoorTie
import Derived.Test.YtaadelcmhbgpnaaGreatDoorCards
import Derived.Test.YtaadelcmhbgpnaaGreatDoorTopBooks
import Derived.SevenTiedAt
import Derived.Test.YtaadelcmhbgpnaaGreatDoorStrs
import Derived.Test.YtaadelcmhbgpnaaGreatDoorWrap
namespace Go.Proofs.YtaadelcmhbgpnaaGreatDoor.topBooksRow
open Go.ChangeShapes Go.WideShapes Go.ChangeAt Go.RowKit
open Go
/-- The table that Go's own initialiser lays. -/
def pinFirst : Array Value := (Go.Pinned.utf8FirstZ.map fun (n : Nat) => Value.int .u8 n).toArray
theorem met (os : Os) (args : Array Value) : laidMetH Tryz.prog Rows.topBooksRow.laid ((World.setRow (World.doorLaid Tryz.prog 72 os) 4 pinFirst).forCall (fun _ _ => 0) ⟨#[], args, []⟩).memory :=
  laidMetH_of_parts3 (fuel := 8) (laidMet_of_run' 8 (by kernel_rfl) (by kernel_rfl)) (by kernel_rfl) (by kernel_rfl)

set_option maxRecDepth 100000 in
theorem lifted (os : Os) (started : os.Started) (H : Type) (enc : TypeId × Value → H) :
    ReturnsInHanded {} Tryz.checked os 7 .any (fun w args => (Rows.topBooksSpec.pre enc Tryz.prog Tryz.f7 [] false w args ∧ laidMetH Tryz.prog Rows.topBooksRow.laid w) ∧ sizedMet enc Tryz.prog Tryz.f7 (OpenSpec.ofChange Rows.topBooksSpec) false w args)
      (Rows.topBooksSpec.post enc Tryz.prog Tryz.f7 false true false false) := by
  refine change_and_shaped (C := Tryz.checked) (X := fun w _ => laidMetH Tryz.prog Rows.topBooksRow.laid w) (fun _ _ _ hh h => h.of_heap hh) own started (by kernel_rfl) Tryz.func7
    (ChangeSpec.witness_shaped (enc := enc) (C := Tryz.checked) (os := os) (X := fun w _ => laidMetH Tryz.prog Rows.topBooksRow.laid w) false (World.setRow (World.doorLaid Tryz.prog 72 os) 4 pinFirst) #[.slice none 0 0, .slice none 0 0, .int .i64 0] 8 rfl (World.shaped_of_RefB (by kernel_rfl) (by kernel_rfl)) (by kernel_rfl) (by kernel_rfl) (by kernel_rfl) (met os _)) ?_
  intro W base args ds gs before hval0 hW hSh hL
  have hval : ∀ (j : Nat) t v, Tryz.f7.params[j]? = some t → args[j]? = some v → Value.okWide Tryz.prog W .any base t v := hval0
  have hW' := hW
  obtain ⟨p, q, hA0, hV, rfl, hfz, hnd⟩ := hW
  have hA : DataW.TrodAll enc Tryz.prog W 0 (fun _ => true) true Tryz.f7.params.toList args.toList ds p := hA0
  rw [Tryz.params7] at hA hval
  obtain ⟨v0, vs0, d0, ds0, p0, q0, hargs, rfl, rfl, h0, r0⟩ := trodAll_cons hA
  obtain ⟨v1, vs1, d1, ds1, p1, q1, rfl, rfl, rfl, h1, r1⟩ := trodAll_cons r0
  obtain ⟨v2, vs2, d2, ds2, p2, q2, rfl, rfl, rfl, h2, r2⟩ := trodAll_cons r1
  obtain ⟨rfl, rfl, rfl⟩ := trodAll_nil r2
  obtain rfl : args = #[v0, v1, v2] := by cases args; simp_all
  obtain ⟨A0, n0, c0, rfl⟩ := okWide_slice Tryz.underlying22 (hval 0 22 v0 rfl rfl)
  obtain ⟨fu0, hfu0⟩ := h0
  obtain ⟨B0, i0, xs0, eg0, L0⟩ := isS_open Tryz.underlying22 Tryz.underlying9 (by kernel_rfl) hfu0
  simp [Value.cells] at eg0
  obtain ⟨rfl, rfl, rfl⟩ := eg0
  obtain ⟨A1, n1, c1, rfl⟩ := okWide_slice Tryz.underlying22 (hval 1 22 v1 rfl rfl)
  obtain ⟨fu1, hfu1⟩ := h1
  obtain ⟨B1, i1, xs1, eg1, L1⟩ := isS_open Tryz.underlying22 Tryz.underlying9 (by kernel_rfl) hfu1
  simp [Value.cells] at eg1
  obtain ⟨rfl, rfl, rfl⟩ := eg1
  obtain ⟨a2, rfl, rfl, rfl, -⟩ := open_int Tryz.underlying3 (hval 2 3 v2 rfl rfl) h2
  obtain ⟨rfl, rfl⟩ := trodVars_none hV
  clear hA0 hval0

  have hLib : LibOK W := libOK_of hSh hL rfl rfl rfl
  refine (topBooks_walk A0 c0 xs0 A1 c1 xs1 a2  W L0 L1 hLib).mono fun e W' ⟨he, hb⟩ => ?_
  subst he
  exact ⟨_, rfl, post_law laidOut (by kernel_rfl) (by kernel_rfl) Tryz.underlying4 rfl rfl hW' hb⟩

theorem holds : Rows.TopBooksSaid :=
  OpenClaim.holds_of_wide 7 Tryz.f7 rfl rfl rfl rfl rfl rfl rfl ⟨rfl, rfl, rfl, rfl, rfl⟩ rfl rfl rfl rfl rfl (by kernel_rfl) Tryz.func7 (by kernel_rfl)
    (of_decide_eq_true (by kernel_rfl)) (by unfold Func.isWrapper; first | (rw [if_pos (by decide +kernel)]; kernel_rfl) | (rw [if_neg (by decide +kernel)]; exact ⟨rfl, rfl⟩))
    (fun os started H enc _ => lifted os started H enc)

theorem card_holds : Rows.TopBooksCardSaid :=
  Claim7.holds_tied_plain_at .later [] Rows.topBooksCard.laidKinds true Rows.topBooksCard.stood.harness Rows.topBooksCard.stood.looks
    holds (fun _ h => by cases h) (by kernel_rfl) (fun _ h => by cases h) topBooks_row_tie rfl ⟨rfl, rfl⟩ (by kernel_rfl) rfl
    (fun f fn hf hfn => by
      obtain rfl : f = 7 := Option.some.inj ((show Tryz.prog.funcNamed Rows.topBooksRow.func = some 7 by kernel_rfl).symm.trans hf) |>.symm
      obtain rfl : fn = Tryz.f7 := (Option.some.inj (Tryz.func7.symm.trans hfn)).symm
      exact ⟨by kernel_rfl, fun j t ht => by
        rw [Tryz.params7] at ht
        have hm : t ∈ [22, 3] := by
          have := Array.mem_of_getElem? ht
          simp at this ⊢
          omega
        have hall : ([22, 3].all fun u => !Tryz.prog.wantsStandIn u) = true := by kernel_rfl
        exact (show Tryz.prog.wantsStandIn t = false by simpa using List.all_eq_true.1 hall t hm)⟩)
    (by kernel_rfl)
end Go.Proofs.YtaadelcmhbgpnaaGreatDoor.topBooksRow
