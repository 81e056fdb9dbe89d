/-
  A SLICE OF INTEGERS AMONG A ROW'S ARGUMENTS, OPENED AS A LIST THAT IS READ.
-/
import Derived.Test.YtplgndllfkceiaaDoorCalC
import Derived.Test.YtplgndllfkceiaaDoorFrame
import Derived.OpenShut
namespace Go.Proofs.YtplgndllfkceiaaDoor
open Go.RowKit Go.ChangeShapes
theorem isL_open {H : Type} {enc : TypeId × Value → H} {P : Program} {W : World} {t e : TypeId} {fuel : Nat} {cs : List Value} {x : DataW H × List MemPlace} (ht : P.underlying t = some (.slice e)) (he : P.underlying e = some (.int .i64)) (hc : P.cellsOf e = 1)
    (h : DataW.trod enc P W 0 (fun _ => true) true fuel t cs = some x) : ∃ A n c xs, cs = [.slice A n c] ∧ IsL W A n xs ∧ n ≤ maxLen ∧ (∀ y ∈ xs, (Lit.int .i64 y).wf = true) := by
  rcases open_ints ht he hc h with ⟨rfl, -⟩ | ⟨a, len, cap, zs, rfl, -, hl, hm, hz, -, hcell, hwf⟩
  · exact ⟨none, 0, 0, [], rfl, ⟨rfl, fun h => absurd h (by omega)⟩, by simp, by simp⟩
  · refine ⟨some a, len, cap, zs.take len, rfl, ⟨by rw [List.length_take, hz]; simp; omega, fun hn => ?_⟩, by omega, fun y hy => hwf y (List.mem_of_mem_take hy)⟩
    obtain ⟨b, off, rfl, hh⟩ := Go.ints_at hcell (by rw [hz]; simp; omega)
    refine ⟨b, off, rfl, ?_, fun i hi => ?_⟩
    · have h0 := hh 0 (by rw [hz]; simp; omega)
      by_cases hb : b < W.heap.size
      · exact hb
      · simp [World.cell?, hb] at h0
    · rw [hh i (by rw [hz]; simp; omega)]
      simp [hi]
end Go.Proofs.YtplgndllfkceiaaDoor
