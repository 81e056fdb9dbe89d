/-
  The law LotAdds returns true for every input and leaves every argument as it was. Conditions: none but the row's own.
-/
import Derived.Test.YtdgmpaijpjkeoaaFrame
import Derived.Test.YtdgmpaijpjkeoaaLotO
import Derived.Test.YtdgmpaijpjkeoaaLotAdds
namespace Go.Proofs.Ytdgmpaijpjkeoaa.lotAddsRow
open Go.ChangeShapes Go.WideShapes Go.ChangeAt Go.RowKit
open Go
set_option maxRecDepth 100000 in
theorem lifted (os : Os) (started : os.Started) (H : Type) (enc : TypeId × Value → H) :
    ReturnsInHanded {} Try.checked os 7 .any (Rows.lotAddsSpec.pre6 enc Try.prog Try.f7 Rows.lotAddsRow.domain false)
      (Rows.lotAddsSpec.post enc Try.prog Try.f7 false true false false) := by
  refine returnsInHanded_of_change (C := Try.checked) own started (by kernel_rfl) Try.func7
    (ChangeSpec.witness6 (enc := enc) (C := Try.checked) false ⟨#[], #[.slice none 0 0, .agg #[.int .i64 0, .int .i64 0, .slice none 0 0]], []⟩ 8 (by kernel_rfl) (by kernel_rfl) (by kernel_rfl) (by kernel_rfl)) ?_
  intro W base args ds gs before hval0 hW hcnd _
  have hval : ∀ (j : Nat) t v, Try.f7.params[j]? = some t → args[j]? = some v → Value.okWide Try.prog W .any base t v := hval0
  have hW' := hW
  obtain ⟨p, q, hA0, hV, rfl, hfz, hnd⟩ := hW
  have hA : DataW.TrodAll enc Try.prog W 0 (fun _ => true) true Try.f7.params.toList args.toList ds p := hA0
  rw [Try.params7] at hA hval
  obtain ⟨v0, vs0, d0, ds0, p0, q0, hargs, rfl, rfl, h0, r0⟩ := trodAll_cons hA
  obtain ⟨v1, vs1, d1, ds1, p1, q1, rfl, rfl, rfl, h1, r1⟩ := trodAll_cons r0
  obtain ⟨rfl, rfl, rfl⟩ := trodAll_nil r1
  obtain rfl : args = #[v0, v1] := by cases args; simp_all
  obtain ⟨A0, n0, c0, rfl⟩ := okWide_slice Try.underlying22 (hval 0 22 v0 rfl rfl)
  obtain ⟨fu0, hfu0⟩ := h0
  obtain ⟨B0, k0, l0, eg0, hl0, -, L0⟩ := lots_open hfu0
  simp [Value.cells] at eg0
  obtain ⟨rfl, rfl, rfl⟩ := eg0
  obtain ⟨u10, u11, u12, y10, y11, y12, m1, rfl, rfl, rfl, hy10, hy11, hy12⟩ := Joins.open_agg3 Try.underlying37 (by kernel_rfl) (show Try.prog.cellsOf 37 = 3 by kernel_rfl) (hval 1 37 v1 rfl rfl) h1
  obtain ⟨a1, ea1, rfl, wa1⟩ := DataW.trod_int Try.underlying3 hy10
  obtain ⟨f1, ef1, rfl, wf1⟩ := DataW.trod_int Try.underlying3 hy11
  obtain ⟨B1, k1, l1, eg1, hl1, L1⟩ := parts_open hy12
  simp at ea1 ef1 eg1
  subst ea1 ef1 eg1
  obtain ⟨rfl, rfl⟩ := trodVars_none hV
  clear hA0 hval0
  have b1 := bounds_i64 wa1
  have g1 := bounds_i64 wf1
  refine (lotAdds_walk A0 c0 l0 a1 f1 l1 B1 k1 ⟨⟨b1.1, b1.2⟩, ⟨g1.1, g1.2⟩⟩ hl1  W L0 L1 hl0).mono fun e W' ⟨he, hb⟩ => ?_
  subst he
  exact ⟨_, rfl, post_law laidOut (by kernel_rfl) (by kernel_rfl) Try.underlying4 rfl rfl hW' hb⟩

theorem holds : Rows.LotAddsSaid :=
  OpenClaim.holds_of_wide 7 Try.f7 rfl rfl rfl rfl rfl rfl rfl ⟨rfl, rfl, rfl, rfl, rfl⟩ rfl rfl rfl rfl rfl (by kernel_rfl) Try.func7 (by kernel_rfl)
    (of_decide_eq_true (by kernel_rfl)) (by unfold Func.isWrapper; first | (rw [if_pos (by decide +kernel)]; kernel_rfl) | (rw [if_neg (by decide +kernel)]; exact ⟨rfl, rfl⟩))
    (fun os started H enc _ => lifted os started H enc)
end Go.Proofs.Ytdgmpaijpjkeoaa.lotAddsRow
