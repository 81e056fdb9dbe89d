/-
  A GENEALOGY AMONG A ROW'S ARGUMENTS, OPENED AS A LIST OF LOTS THAT IS READ.
-/
import Derived.Test.YtdgmpaijpjkeoaaLotA
import Derived.Test.YtdgmpaijpjkeoaaFrame
import Derived.Deep.Slices
import Derived.Deep.Strs
import Derived.OpenShut
import Derived.DataReads
namespace Go.Proofs.Ytdgmpaijpjkeoaa
open Go.RowKit Go.ChangeShapes Go.WideShapes Go.Deep
theorem lot_under : Try.prog.cellsOf 37 = 3 := by kernel_rfl
theorem part_under : Try.prog.cellsOf 39 = 2 := by kernel_rfl
theorem int_under : Try.prog.cellsOf 3 = 1 := by kernel_rfl
theorem parts_under : Try.prog.cellsOf 35 = 1 := by kernel_rfl
theorem cells_at {w : World} {base : Nat} {a : Addr} {n : Nat} {cs : List Value} (h : w.cells? base a n = some cs) (hn : 0 < n) : ∃ b o, a = ⟨b, o, none⟩ ∧ b < w.heap.size ∧ ∀ i (_ : i < cs.length), w.cell? ⟨b, o + i, none⟩ = some cs[i] := by
  obtain ⟨h1, h2, h3⟩ := World.cells?_some h
  obtain ⟨b, o, spot⟩ := a
  have h0 := h3 0 hn
  have hl0 : 0 < cs.length := by omega
  rw [List.getElem?_eq_getElem hl0] at h0
  have hs : spot = none := by simpa [Addr.add] using World.cell?_spot h0
  subst hs
  refine ⟨b, o, rfl, World.cells?_block h hn, fun i hi => ?_⟩
  have := h3 i (by omega)
  rw [add_plain, List.getElem?_eq_getElem hi] at this
  exact this
section
variable {H : Type} {enc : TypeId × Value → H} {W : World}
theorem part_open {fuel : Nat} {a : Addr} {cs : List Value} {x : DataW H × List MemPlace} (hc : W.cells? 0 a 2 = some cs) (h : DataW.trod enc Try.prog W 0 (fun _ => true) true fuel 39 cs = some x) :
    ∃ (b o : Nat) (p : Int × Int), a = ⟨b, o, none⟩ ∧ b < W.heap.size ∧ I64 p.1 ∧ I64 p.2 ∧ W.cell? ⟨b, o, none⟩ = some (.int .i64 p.1) ∧ W.cell? ⟨b, o + 1, none⟩ = some (.int .i64 p.2) := by
  obtain ⟨b, o, rfl, hb, hcell⟩ := cells_at hc (by omega)
  obtain ⟨y0, y1, n, -, hl, h0, h1⟩ := trod_struct2 Try.underlying39 h
  rw [part_under] at hl
  simp only [int_under] at h0 h1
  obtain ⟨p1, e1, -, w1⟩ := DataW.trod_int Try.underlying3 h0
  obtain ⟨p2, e2, -, w2⟩ := DataW.trod_int Try.underlying3 h1
  match cs, hl with
  | [c0, c1], _ =>
    simp at e1 e2
    have b1 := bounds_i64 w1
    have b2 := bounds_i64 w2
    have q0 := hcell 0 (by simp)
    have q1 := hcell 1 (by simp)
    refine ⟨b, o, (p1, p2), rfl, hb, ⟨b1.1, b1.2⟩, ⟨b2.1, b2.2⟩, ?_, ?_⟩
    · rw [← e1]; exact q0
    · rw [← e2]; exact q1
theorem parts_open {fuel : Nat} {cs : List Value} {x : DataW H × List MemPlace} (h : DataW.trod enc Try.prog W 0 (fun _ => true) true fuel 35 cs = some x) :
    ∃ (A : Option Addr) (c : Nat) (ps : List (Int × Int)), cs = [.slice A ps.length c] ∧ ps.length ≤ c ∧ PartsIn W A ps := by
  rcases open_slice Try.underlying35 h with ⟨rfl, -⟩ | ⟨a, len, cap, m, n, D, Pl, rfl, -, hl, -, hm, -, hx⟩
  · exact ⟨none, 0, [], rfl, Nat.le_refl _, by simp, fun h => absurd h (by simp)⟩
  · simp only [if_true] at hm
    subst hm
    rw [part_under] at hx
    have key : ∀ i, i < len → ∃ (b o : Nat) (p : Int × Int), a.add (i * 2) = ⟨b, o, none⟩ ∧ b < W.heap.size ∧ I64 p.1 ∧ I64 p.2 ∧ W.cell? ⟨b, o, none⟩ = some (.int .i64 p.1) ∧ W.cell? ⟨b, o + 1, none⟩ = some (.int .i64 p.2) := fun i hi => by
      obtain ⟨cs', h1, h2⟩ := hx i (by omega)
      exact part_open h1 h2
    rcases Nat.eq_zero_or_pos len with h0 | h0
    · subst h0
      exact ⟨some a, m, [], rfl, hl, by simp, fun h => absurd h (by simp)⟩
    · obtain ⟨b, o, p0, ha, hb, -⟩ := key 0 h0
      have ha' : a = ⟨b, o, none⟩ := by simpa [Addr.add] using ha
      subst ha'
      have key2 : ∀ i, i < len → ∃ p : Int × Int, I64 p.1 ∧ I64 p.2 ∧ W.cell? ⟨b, o + i * 2, none⟩ = some (.int .i64 p.1) ∧ W.cell? ⟨b, o + i * 2 + 1, none⟩ = some (.int .i64 p.2) := fun i hi => by
        obtain ⟨b', o', p, h1, h2, h3, h4, h5, h6⟩ := key i hi
        rw [add_plain] at h1
        cases h1
        exact ⟨p, h3, h4, h5, h6⟩
      obtain ⟨F, hF⟩ : ∃ F : Nat → Int × Int, ∀ i, i < len → I64 (F i).1 ∧ I64 (F i).2 ∧ W.cell? ⟨b, o + i * 2, none⟩ = some (.int .i64 (F i).1) ∧ W.cell? ⟨b, o + i * 2 + 1, none⟩ = some (.int .i64 (F i).2) :=
        ⟨fun i => if hi : i < len then (key2 i hi).choose else default, fun i hi => by
          simp only [dif_pos hi]
          exact (key2 i hi).choose_spec⟩
      refine ⟨some ⟨b, o, none⟩, m, (List.range len).map F, by simp, by simpa using hl, fun p hp => ?_, fun _ => ⟨b, o, rfl, hb, fun k hk => ?_⟩⟩
      · obtain ⟨i, hi, rfl⟩ := List.mem_map.1 hp
        have := hF i (by simpa using hi)
        exact ⟨this.1, this.2.1⟩
      · have := hF k (by simpa using hk)
        simp only [List.getElem_map, List.getElem_range]
        exact ⟨this.2.2.1, this.2.2.2⟩
theorem lot_open {fuel : Nat} {a : Addr} {cs : List Value} {x : DataW H × List MemPlace} (hc : W.cells? 0 a 3 = some cs) (h : DataW.trod enc Try.prog W 0 (fun _ => true) true fuel 37 cs = some x) :
    ∃ (b o : Nat) (y : LotD), a = ⟨b, o, none⟩ ∧ LotAt W b o y := by
  obtain ⟨b, o, rfl, hb, hcell⟩ := cells_at hc (by omega)
  obtain ⟨y0, y1, y2, n, -, hl, h0, h1, h2⟩ := trod_struct3 Try.underlying37 h
  rw [lot_under] at hl
  simp only [int_under, parts_under] at h0 h1 h2
  obtain ⟨p1, e1, -, w1⟩ := DataW.trod_int Try.underlying3 h0
  obtain ⟨p2, e2, -, w2⟩ := DataW.trod_int Try.underlying3 h1
  obtain ⟨A, c, ps, e3, hcap, hps⟩ := parts_open h2
  match cs, hl with
  | [c0, c1, c2], _ =>
    simp at e1 e2 e3
    have b1 := bounds_i64 w1
    have b2 := bounds_i64 w2
    have q0 := hcell 0 (by simp)
    have q1 := hcell 1 (by simp)
    have q2 := hcell 2 (by simp)
    refine ⟨b, o, ⟨p1, p2, ps⟩, rfl, ⟨b1.1, b1.2⟩, ⟨b2.1, b2.2⟩, hb, ?_, ?_, A, c, ?_, hcap, hps⟩
    · rw [← e1]; exact q0
    · rw [← e2]; exact q1
    · rw [← e3]; exact q2
theorem lots_open {fuel : Nat} {cs : List Value} {x : DataW H × List MemPlace} (h : DataW.trod enc Try.prog W 0 (fun _ => true) true fuel 22 cs = some x) :
    ∃ (A : Option Addr) (c : Nat) (l : List LotD), cs = [.slice A l.length c] ∧ l.length ≤ maxLen ∧ l.length ≤ c ∧ LotsIn W A l := by
  rcases open_slice Try.underlying22 h with ⟨rfl, -⟩ | ⟨a, len, cap, m, n, D, Pl, rfl, -, hl, hmx, hm, -, hx⟩
  · exact ⟨none, 0, [], rfl, by simp, Nat.le_refl _, fun h => absurd h (by simp)⟩
  · simp only [if_true] at hm
    subst hm
    rw [lot_under] at hx
    have key : ∀ i, i < len → ∃ (b o : Nat) (y : LotD), a.add (i * 3) = ⟨b, o, none⟩ ∧ LotAt W b o y := fun i hi => by
      obtain ⟨cs', h1, h2⟩ := hx i (by omega)
      exact lot_open h1 h2
    rcases Nat.eq_zero_or_pos len with h0 | h0
    · subst h0
      exact ⟨some a, m, [], rfl, by simp, hl, fun h => absurd h (by simp)⟩
    · obtain ⟨b, o, p0, ha, -⟩ := key 0 h0
      have ha' : a = ⟨b, o, none⟩ := by simpa [Addr.add] using ha
      subst ha'
      have key2 : ∀ i, i < len → ∃ y, LotAt W b (o + i * 3) y := fun i hi => by
        obtain ⟨b', o', y, h1, h2⟩ := key i hi
        rw [add_plain] at h1
        cases h1
        exact ⟨y, h2⟩
      obtain ⟨F, hF⟩ : ∃ F : Nat → LotD, ∀ i, i < len → LotAt W b (o + i * 3) (F i) :=
        ⟨fun i => if hi : i < len then (key2 i hi).choose else default, fun i hi => by
          simp only [dif_pos hi]
          exact (key2 i hi).choose_spec⟩
      refine ⟨some ⟨b, o, none⟩, m, (List.range len).map F, by simp, by simp; omega, by simpa using hl, fun _ => ⟨b, o, rfl, fun k hk => ?_⟩⟩
      simp only [List.getElem_map, List.getElem_range]
      exact hF k (by simpa using hk)
end
end Go.Proofs.Ytdgmpaijpjkeoaa
