/-
  A SLICE OF STRINGS AMONG A ROW'S ARGUMENTS.
-/
import Derived.Test.YtaadelcmhbgpnaaGreatDoorTxtE
import Derived.SliceStrings
import Derived.OpenShut
namespace Go.Proofs.YtaadelcmhbgpnaaGreatDoor
open Go.RowKit Go.ChangeShapes Go.WideShapes Go
theorem isS_open {H : Type} {enc : TypeId × Value → H} {P : Program} {W : World} {t e : TypeId} {fuel : Nat} {cs : List Value} {x : DataW H × List MemPlace} (ht : P.underlying t = some (.slice e)) (he : P.underlying e = some .string) (hc : P.cellsOf e = 1)
    (h : DataW.trod enc P W 0 (fun _ => true) true fuel t cs = some x) : ∃ A c xs, cs = [.slice A xs.length c] ∧ IsS W A xs.length xs := by
  rcases open_strings ht he hc h with ⟨rfl, -⟩ | ⟨a, len, cap, ss, rfl, -, hl, hm, hz, -, hcell, -⟩
  · exact ⟨none, 0, [], rfl, rfl, fun h => absurd h (by simp)⟩
  · simp only [if_true] at hz
    have hlen : (ss.take len).length = len := by rw [List.length_take, hz]; omega
    refine ⟨some a, cap, ss.take len, by rw [hlen], rfl, fun hn => ?_⟩
    rw [hlen] at hn
    obtain ⟨b, off, spot⟩ := a
    have h0 := hcell 0 (by omega)
    have hspot : spot = none := by simpa [Addr.add] using World.cell?_spot h0
    subst hspot
    refine ⟨b, off, rfl, ?_, fun i hi => ?_⟩
    · have h1 := hcell 0 (by omega)
      by_cases hb : b < W.heap.size
      · exact hb
      · simp [World.cell?, Addr.add, hb] at h1
    · rw [hlen] at hi
      have h1 := hcell i (by omega)
      rw [Go.WideShapes.add_plain] at h1
      rw [h1, List.getElem_take]
      simp [show i < ss.length by omega]
end Go.Proofs.YtaadelcmhbgpnaaGreatDoor
