/-
  POSTINGS AMONG A ROW'S ARGUMENTS, OPENED AS A LIST.
-/
import Derived.Test.YtaadelcmhbgpnaaGreatDoorBokN
import Derived.Test.YtaadelcmhbgpnaaGreatDoorFrame
import Derived.Deep.Slices
import Derived.Deep.Strs
import Derived.OpenShut
import Derived.DataReads
namespace Go.Proofs.YtaadelcmhbgpnaaGreatDoor
open Go.RowKit Go.ChangeShapes Go.WideShapes Go.Deep
theorem post_under : Tryz.prog.cellsOf 65 = 3 := by kernel_rfl
theorem pint_under : Tryz.prog.cellsOf 3 = 1 := by kernel_rfl
theorem pstr_under : Tryz.prog.cellsOf 9 = 1 := by kernel_rfl
theorem pcells_at {w : World} {base : Nat} {a : Addr} {n : Nat} {cs : List Value} (h : w.cells? base a n = some cs) (hn : 0 < n) : ∃ b o, a = ⟨b, o, none⟩ ∧ b < w.heap.size ∧ ∀ i (_ : i < cs.length), w.cell? ⟨b, o + i, none⟩ = some cs[i] := by
  obtain ⟨h1, h2, h3⟩ := World.cells?_some h
  obtain ⟨b, o, spot⟩ := a
  have h0 := h3 0 hn
  have hl0 : 0 < cs.length := by omega
  rw [List.getElem?_eq_getElem hl0] at h0
  have hs : spot = none := by simpa [Addr.add] using World.cell?_spot h0
  subst hs
  refine ⟨b, o, rfl, World.cells?_block h hn, fun i hi => ?_⟩
  have := h3 i (by omega)
  rw [add_plain, List.getElem?_eq_getElem hi] at this
  exact this
section
variable {H : Type} {enc : TypeId × Value → H} {W : World}
theorem post_open {fuel : Nat} {a : Addr} {cs : List Value} {x : DataW H × List MemPlace} (hc : W.cells? 0 a 3 = some cs) (h : DataW.trod enc Tryz.prog W 0 (fun _ => true) true fuel 65 cs = some x) :
    ∃ (b o : Nat) (p : Po), a = ⟨b, o, none⟩ ∧ b < W.heap.size ∧ W.cell? ⟨b, o, none⟩ = some (.string p.d) ∧ W.cell? ⟨b, o + 1, none⟩ = some (.string p.c) ∧ W.cell? ⟨b, o + 2, none⟩ = some (.int .i64 p.p) := by
  obtain ⟨b, o, rfl, hb, hcell⟩ := pcells_at hc (by omega)
  obtain ⟨y0, y1, y2, n, -, hl, h0, h1, h2⟩ := trod_struct3 Tryz.underlying65 h
  rw [post_under] at hl
  simp only [pint_under, pstr_under] at h0 h1 h2
  obtain ⟨p1, e1, -, -⟩ := DataW.trod_string Tryz.underlying9 h0
  obtain ⟨p2, e2, -, -⟩ := DataW.trod_string Tryz.underlying9 h1
  obtain ⟨p3, e3, -, -⟩ := DataW.trod_int Tryz.underlying3 h2
  match cs, hl with
  | [c0, c1, c2], _ =>
    simp at e1 e2 e3
    have q0 := hcell 0 (by simp)
    have q1 := hcell 1 (by simp)
    have q2 := hcell 2 (by simp)
    refine ⟨b, o, ⟨p1, p2, p3⟩, rfl, hb, ?_, ?_, ?_⟩
    · rw [← e1]; exact q0
    · rw [← e2]; exact q1
    · rw [← e3]; exact q2
theorem posts_open {fuel : Nat} {cs : List Value} {x : DataW H × List MemPlace} (h : DataW.trod enc Tryz.prog W 0 (fun _ => true) true fuel 26 cs = some x) :
    ∃ (A : Option Addr) (c : Nat) (l : List Po), cs = [.slice A l.length c] ∧ l.length ≤ maxLen ∧ IsPo W A l := by
  rcases open_slice Tryz.underlying26 h with ⟨rfl, -⟩ | ⟨a, len, cap, m, n, D, Pl, rfl, -, hl, hmx, hm, -, hx⟩
  · exact ⟨none, 0, [], rfl, by simp, fun h => absurd h (by simp)⟩
  · simp only [if_true] at hm
    subst hm
    rw [post_under] at hx
    have key : ∀ i, i < len → ∃ (b o : Nat) (p : Po), a.add (i * 3) = ⟨b, o, none⟩ ∧ b < W.heap.size ∧ W.cell? ⟨b, o, none⟩ = some (.string p.d) ∧ W.cell? ⟨b, o + 1, none⟩ = some (.string p.c) ∧ W.cell? ⟨b, o + 2, none⟩ = some (.int .i64 p.p) := fun i hi => by
      obtain ⟨cs', h1, h2⟩ := hx i (by omega)
      exact post_open h1 h2
    rcases Nat.eq_zero_or_pos len with h0 | h0
    · subst h0
      exact ⟨some a, m, [], rfl, by simp, fun h => absurd h (by simp)⟩
    · obtain ⟨b, o, p0, ha, hb, -⟩ := key 0 h0
      have ha' : a = ⟨b, o, none⟩ := by simpa [Addr.add] using ha
      subst ha'
      have key2 : ∀ i, i < len → ∃ p : Po, W.cell? ⟨b, o + i * 3, none⟩ = some (.string p.d) ∧ W.cell? ⟨b, o + i * 3 + 1, none⟩ = some (.string p.c) ∧ W.cell? ⟨b, o + i * 3 + 2, none⟩ = some (.int .i64 p.p) := fun i hi => by
        obtain ⟨b', o', p, h1, h2, h3⟩ := key i hi
        rw [add_plain] at h1
        cases h1
        exact ⟨p, h3⟩
      obtain ⟨F, hF⟩ : ∃ F : Nat → Po, ∀ i, i < len → W.cell? ⟨b, o + i * 3, none⟩ = some (.string (F i).d) ∧ W.cell? ⟨b, o + i * 3 + 1, none⟩ = some (.string (F i).c) ∧ W.cell? ⟨b, o + i * 3 + 2, none⟩ = some (.int .i64 (F i).p) :=
        ⟨fun i => if hi : i < len then (key2 i hi).choose else ⟨⟨#[]⟩, ⟨#[]⟩, 0⟩, fun i hi => by
          simp only [dif_pos hi]
          exact (key2 i hi).choose_spec⟩
      refine ⟨some ⟨b, o, none⟩, m, (List.range len).map F, by simp, by simp; omega, fun _ => ⟨b, o, rfl, hb, fun k hk => ?_⟩⟩
      have := hF k (by simpa using hk)
      simp only [List.getElem_map, List.getElem_range]
      exact this
end
end Go.Proofs.YtaadelcmhbgpnaaGreatDoor
