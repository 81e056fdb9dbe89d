/-
  The law LotOnlyKeeps returns true for every input and leaves every argument as it was. Conditions: none but the row's own.
-/
import Derived.Test.YtdgmpaijpjkeoaaFrame
import Derived.Test.YtdgmpaijpjkeoaaLotO
import Derived.Test.YtdgmpaijpjkeoaaLotOnlyKeeps
namespace Go.Proofs.Ytdgmpaijpjkeoaa.lotOnlyKeepsRow
open Go.ChangeShapes Go.WideShapes Go.ChangeAt Go.RowKit
open Go
set_option maxRecDepth 100000 in
theorem lifted (os : Os) (started : os.Started) (H : Type) (enc : TypeId × Value → H) :
    ReturnsInHanded {} Try.checked os 13 .any (Rows.lotOnlyKeepsSpec.pre6 enc Try.prog Try.f13 Rows.lotOnlyKeepsRow.domain false)
      (Rows.lotOnlyKeepsSpec.post enc Try.prog Try.f13 false true false false) := by
  refine returnsInHanded_of_change (C := Try.checked) own started (by kernel_rfl) Try.func13
    (ChangeSpec.witness6 (enc := enc) (C := Try.checked) false ⟨#[], #[.slice none 0 0, .slice none 0 0, .agg #[.int .i64 0, .int .i64 0]], []⟩ 8 (by kernel_rfl) (by kernel_rfl) (by kernel_rfl) (by kernel_rfl)) ?_
  intro W base args ds gs before hval0 hW hcnd _
  have hval : ∀ (j : Nat) t v, Try.f13.params[j]? = some t → args[j]? = some v → Value.okWide Try.prog W .any base t v := hval0
  have hW' := hW
  obtain ⟨p, q, hA0, hV, rfl, hfz, hnd⟩ := hW
  have hA : DataW.TrodAll enc Try.prog W 0 (fun _ => true) true Try.f13.params.toList args.toList ds p := hA0
  rw [Try.params13] at hA hval
  obtain ⟨v0, vs0, d0, ds0, p0, q0, hargs, rfl, rfl, h0, r0⟩ := trodAll_cons hA
  obtain ⟨v1, vs1, d1, ds1, p1, q1, rfl, rfl, rfl, h1, r1⟩ := trodAll_cons r0
  obtain ⟨v2, vs2, d2, ds2, p2, q2, rfl, rfl, rfl, h2, r2⟩ := trodAll_cons r1
  obtain ⟨rfl, rfl, rfl⟩ := trodAll_nil r2
  obtain rfl : args = #[v0, v1, v2] := by cases args; simp_all
  obtain ⟨A0, n0, c0, rfl⟩ := okWide_slice Try.underlying22 (hval 0 22 v0 rfl rfl)
  obtain ⟨fu0, hfu0⟩ := h0
  obtain ⟨B0, k0, l0, eg0, hl0, hc0, L0⟩ := lots_open hfu0
  simp [Value.cells] at eg0
  obtain ⟨rfl, rfl, rfl⟩ := eg0
  obtain ⟨A1, n1, c1, rfl⟩ := okWide_slice Try.underlying57 (hval 1 57 v1 rfl rfl)
  obtain ⟨fu1, hfu1⟩ := h1
  obtain ⟨B1, k1, l1, eg1, hl1, L1, i1⟩ := ints_open hfu1
  simp [Value.cells] at eg1
  obtain ⟨rfl, rfl, rfl⟩ := eg1
  obtain ⟨c2, e2, y2, z2, m2, rfl, rfl, rfl, hy2, hz2⟩ := Joins.open_agg2 Try.underlying24 (by kernel_rfl) (show Try.prog.cellsOf 24 = 2 by kernel_rfl) (hval 2 24 v2 rfl rfl) h2
  obtain ⟨a2, ea2, rfl, wa2⟩ := DataW.trod_int Try.underlying3 hy2
  obtain ⟨f2, ef2, rfl, wf2⟩ := DataW.trod_int Try.underlying3 hz2
  simp at ea2 ef2
  subst ea2 ef2
  obtain ⟨rfl, rfl⟩ := trodVars_none hV
  clear hA0 hval0
  have b2 := bounds_i64 wa2
  have g2 := bounds_i64 wf2
  refine (lotOnlyKeeps_walk A0 c0 l0 hc0 A1 c1 l1 a2 f2 b2.1 b2.2 g2.1 g2.2 W L0 hl0 L1 hl1 i1).mono fun e W' ⟨he, hb⟩ => ?_
  subst he
  exact ⟨_, rfl, post_law laidOut (by kernel_rfl) (by kernel_rfl) Try.underlying4 rfl rfl hW' hb⟩

theorem holds : Rows.LotOnlyKeepsSaid :=
  OpenClaim.holds_of_wide 13 Try.f13 rfl rfl rfl rfl rfl rfl rfl ⟨rfl, rfl, rfl, rfl, rfl⟩ rfl rfl rfl rfl rfl (by kernel_rfl) Try.func13 (by kernel_rfl)
    (of_decide_eq_true (by kernel_rfl)) (by unfold Func.isWrapper; first | (rw [if_pos (by decide +kernel)]; kernel_rfl) | (rw [if_neg (by decide +kernel)]; exact ⟨rfl, rfl⟩))
    (fun os started H enc _ => lifted os started H enc)
end Go.Proofs.Ytdgmpaijpjkeoaa.lotOnlyKeepsRow
