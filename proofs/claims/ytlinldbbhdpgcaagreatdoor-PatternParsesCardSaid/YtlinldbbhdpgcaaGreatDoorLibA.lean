/-
  WHAT THE PROGRAM's TEXTS ASK OF GO's LIBRARY: strconv.Itoa, strconv.Atoi (for seats without the chain of TxtA).
-/
import Derived.Test.YtlinldbbhdpgcaaGreatDoorTxtM
import Derived.Test.YtlinldbbhdpgcaaGreatDoorCalA
import Derived.Test.YtlinldbbhdpgcaaGreatDoorShelf
import Derived.Lib.SmallJoins
namespace Go.Proofs.YtlinldbbhdpgcaaGreatDoor
open Go.RowKit Go.Lib
/-- What the variables of Go's library hold that the program's texts read. -/
structure LibOK (w : World) : Prop where
  tab : Lib.TabIs Tryz.prog w "internal/strconv.uint64pow10" .u64 Lib.pow10Tab
  mx : ∃ m, w.cell? ⟨1, 0, none⟩ = some (.int .i64 m)
  syn : ∃ ev, w.cell? ⟨4, 0, none⟩ = some ev ∧ (ev = .nilIface ∨ ∃ te pe, ev = .iface te pe)
  rng : ∃ ev, w.cell? ⟨5, 0, none⟩ = some ev ∧ (ev = .nilIface ∨ ∃ te pe, ev = .iface te pe)
theorem cell_below {w w' : World} {p : Addr} {v : Value} (hb : Below w.heap.size w w') (h : w.cell? p = some v) : w'.cell? p = some v :=
  (hb.cell (World.block_lt_of_cell? w p h)).trans h
theorem LibOK.below {w w' : World} (h : LibOK w) (hb : Below w.heap.size w w') : LibOK w' := by
  obtain ⟨h1, ⟨m, h2⟩, ⟨ev, h3, h4⟩, ⟨ew, h5, h6⟩⟩ := h
  exact ⟨Joins.tab_stays (P := Tryz.prog) (g := 0) (by kernel_rfl) h1 hb (Nat.le_refl _), ⟨m, cell_below hb h2⟩, ⟨ev, cell_below hb h3, h4⟩, ⟨ew, cell_below hb h5, h6⟩⟩
theorem itoa_any (n : Int) (h0 : -9223372036854775808 ≤ n) (h1 : n ≤ 9223372036854775807) (w : World) (h : LibOK w) :
    Calls Tryz.prog 27 #[.int .i64 n] w fun e w' => e = .returned (.string ⟨(itoa n).toArray⟩) ∧ Below w.heap.size w w' := by
  refine (Tryz.strconv_Itoa n h0 h1 w h.tab).mono ?_
  rintro e w' ⟨rfl, k, os, rfl⟩
  exact ⟨rfl, rfl, rfl, rfl, by show w.heap.size ≤ (w.heap ++ os).size; rw [Array.size_append]; omega, fun j hj => by show (w.heap ++ os)[j]? = _; rw [Array.getElem?_append_left hj]⟩
/-- What strconv.Atoi gives: a number that the text reads as and no error, or some number and an error. -/
def OutA (w : World) (l : List UInt8) (e : Ending) (w' : World) : Prop :=
  ∃ (v : Int) (er : Value), e = .returned (.tuple #[.int .i64 v, er]) ∧ -9223372036854775808 ≤ v ∧ v ≤ 9223372036854775807 ∧ (er = .nilIface ∧ atoiAll l = .ok v ∨ (∃ N, er = .iface 149 (.pointer (some ⟨N, 0, none⟩))) ∧ ∀ u, atoiAll l ≠ .ok u) ∧ Below w.heap.size w w'
theorem atoi_bd {l : List UInt8} {v : Int} (h : atoiAll l = .ok v) : -9223372036854775808 ≤ v ∧ v ≤ 9223372036854775807 := by
  unfold atoiAll at h
  split at h
  · cases h
  · simp only [] at h
    split at h
    · cases h
    · cases h
    · split at h
      · cases h
      · split at h
        · cases h
        · injection h with h
          split at h <;> omega
theorem atoi_any (s : ByteArray) (hs : s.size ≤ 1000000) (w : World) (h : LibOK w) :
    Calls Tryz.prog 106 #[.string s] w (OutA w s.data.toList) := by
  obtain ⟨ev, h3, h4⟩ := h.syn
  obtain ⟨ew, h5, h6⟩ := h.rng
  match ha : atoiAll s.data.toList with
  | .ok v =>
    have hb := atoi_bd ha
    refine (Tryz.strconv_Atoi_ok s (by omega) v ha w).mono ?_
    rintro e w' ⟨rfl, hw⟩
    refine ⟨v, .nilIface, rfl, hb.1, hb.2, .inl ⟨rfl, ha⟩, ?_⟩
    rcases hw with rfl | ⟨t, rfl⟩
    · exact Below.refl _ _
    · exact Lib.bytesWorld_below _ _ _
  | .syntax =>
    refine (Tryz.strconv_Atoi_syntax s (by omega) ha ev w h3 h4).mono ?_
    rintro e w' ⟨N, rfl, -, -, hb⟩
    exact ⟨0, _, rfl, by omega, by omega, .inr ⟨⟨N, rfl⟩, fun u hu => by rw [ha] at hu; cases hu⟩, hb⟩
  | .range =>
    refine (Tryz.strconv_Atoi_range s (by omega) ha ew w h5 h6).mono ?_
    rintro e w' ⟨N, rfl, -, -, hb⟩
    refine ⟨_, _, rfl, ?_, ?_, .inr ⟨⟨N, rfl⟩, fun u hu => by rw [ha] at hu; cases hu⟩, hb⟩
    · unfold atoiSat; split <;> omega
    · unfold atoiSat; split <;> omega
end Go.Proofs.YtlinldbbhdpgcaaGreatDoor
