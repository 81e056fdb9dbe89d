/-
  THE REFERENCE: least.
-/
import Derived.Test.YtgmokojdlbdjeaaDoorPrfB
namespace Go.Proofs.YtgmokojdlbdjeaaDoor
open Go.RowKit
attribute [local go_sem] sub_cell sub_frozen
def cellI (w : World) (b i : Nat) : Int := match w.cell? ⟨b, i, none⟩ with | some (.int _ z) => z | _ => 0
/-- The world in the loops of the reference's least: the boxes of the pattern, of the result, of the new pattern. -/
structure RW (w wr : World) (B pb rb ob : Nat) (a b c : Int) (s : Value) (x y z : Int) (v : Value) (zs : List Int) : Prop where
  p : PBox wr pb a b c s
  r : PBox wr rb 0 0 0 (.slice none 0 0)
  o : PBox wr ob x y z v
  own : OwnI wr B v zs
  below : Below w.heap.size w wr
  pB : pb < B
  rB : rb < B
  oB : ob < B
  po : pb ≠ ob
  ro : rb ≠ ob
  wo : w.heap.size ≤ ob
  wr' : w.heap.size ≤ rb
  sz : B ≤ wr.heap.size
  wB : w.heap.size ≤ B
section
variable {w wr w' : World} {B pb rb ob : Nat} {a b c x y z : Int} {s v v' : Value} {zs zs' : List Int}
theorem RW.start (w : World) (a b c : Int) (s : Value) :
    RW w (((w.alloc (.cells #[.int .i64 a, .int .i64 b, .int .i64 c, s] 24)).alloc (.cells #[.int .i64 0, .int .i64 0, .int .i64 0, .slice none 0 0] 24)).alloc (.cells #[.int .i64 1, .int .i64 0, .int .i64 1, .slice none 0 0] 24))
      (w.heap.size + 1 + 1 + 1) w.heap.size (w.heap.size + 1) (w.heap.size + 1 + 1) a b c s 1 0 1 (.slice none 0 0) [] := by
  refine ⟨?_, ?_, ?_, OwnI.nil _ _, (by repeat' (first | (with_reducible exact Below.refl _ _) | (with_reducible assumption) | (with_reducible refine below_drewN ?_ _) | (with_reducible refine below_step (by assumption) ?_ ?_) | (with_reducible refine Below.alloc ?_ ?_ _) | (with_reducible refine Below.setCell ?_ ?_ _) | (with_reducible refine Below.drew ?_) | go_size | (exact Below.size (by assumption)) | (refine Nat.le_trans (Below.size (by assumption)) ?_))), by omega, by omega, by omega, by omega, by omega, by omega, by omega, by simp, by omega⟩
  · exact (heap_alloc_old _ _ (by simp; omega)).trans ((heap_alloc_old _ _ (by simp)).trans (heap_alloc_new w _))
  · have := heap_alloc_new (w.alloc (.cells #[.int .i64 a, .int .i64 b, .int .i64 c, s] 24)) (.cells #[.int .i64 0, .int .i64 0, .int .i64 0, .slice none 0 0] 24)
    exact (heap_alloc_old _ _ (by simp)).trans (by simpa using this)
  · have := heap_alloc_new ((w.alloc (.cells #[.int .i64 a, .int .i64 b, .int .i64 c, s] 24)).alloc (.cells #[.int .i64 0, .int .i64 0, .int .i64 0, .slice none 0 0] 24)) (.cells #[.int .i64 1, .int .i64 0, .int .i64 1, .slice none 0 0] 24)
    unfold PBox
    simpa using this
theorem RW.keep (h : RW w wr B pb rb ob a b c s x y z v zs) (hb : Below wr.heap.size wr w') : RW w w' B pb rb ob a b c s x y z v zs :=
  ⟨h.p.keep hb, h.r.keep hb, h.o.keep hb, OwnI.keep hb h.own, h.below.trans (hb.mono h.below.size), h.pB, h.rB, h.oB, h.po, h.ro, h.wo, h.wr', Nat.le_trans h.sz hb.size, h.wB⟩
theorem RW.put (h : RW w wr B pb rb ob a b c s x y z v zs) (i : Nat) (u : Value) {x' y' z' : Int} {v' : Value} (ho : PBox (wr.setCell ⟨ob, i, none⟩ u) ob x' y' z' v') (hv : v' = v) : RW w (wr.setCell ⟨ob, i, none⟩ u) B pb rb ob a b c s x' y' z' v' zs := by
  subst hv
  have hgr : wr.grownBy (wr.setCell ⟨ob, i, none⟩ u) (some ob) := ⟨rfl, rfl, rfl, by simp [World.setCell], fun q _ hne => Below.heap_setCell wr ⟨ob, i, none⟩ _ q (fun e => hne (by rw [e]))⟩
  refine ⟨h.p.other (p := ⟨ob, i, none⟩) h.po _, h.r.other (p := ⟨ob, i, none⟩) h.ro _, ho, h.own.grown hgr ?_, h.below.setCell h.wo _, h.pB, h.rB, h.oB, h.po, h.ro, h.wo, h.wr', by simpa [World.setCell] using h.sz, h.wB⟩
  rcases hv : v'.ownBlock with _ | g
  · exact .inl rfl
  · exact .inr (fun e => by have := h.own.lt' g hv; have := h.oB; cases e; omega)
theorem PBox.set0 (h : PBox w ob x y z v) (u : Int) : PBox (w.setCell ⟨ob, 0, none⟩ (.int .i64 u)) ob u y z v := by
  obtain ⟨hg, he⟩ := Array.getElem?_eq_some_iff.1 h
  unfold PBox
  simp [World.setCell, hg, Array.getElem_modify, he]
theorem PBox.set1 (h : PBox w ob x y z v) (u : Int) : PBox (w.setCell ⟨ob, 1, none⟩ (.int .i64 u)) ob x u z v := by
  obtain ⟨hg, he⟩ := Array.getElem?_eq_some_iff.1 h
  unfold PBox
  simp [World.setCell, hg, Array.getElem_modify, he]
theorem PBox.set2 (h : PBox w ob x y z v) (u : Int) : PBox (w.setCell ⟨ob, 2, none⟩ (.int .i64 u)) ob x y u v := by
  obtain ⟨hg, he⟩ := Array.getElem?_eq_some_iff.1 h
  unfold PBox
  simp [World.setCell, hg, Array.getElem_modify, he]
theorem RW.set0 (h : RW w wr B pb rb ob a b c s x y z v zs) (u : Int) : RW w (wr.setCell ⟨ob, 0, none⟩ (.int .i64 u)) B pb rb ob a b c s u y z v zs := h.put 0 _ (h.o.set0 u) rfl
theorem RW.set1 (h : RW w wr B pb rb ob a b c s x y z v zs) (u : Int) : RW w (wr.setCell ⟨ob, 1, none⟩ (.int .i64 u)) B pb rb ob a b c s x u z v zs := h.put 1 _ (h.o.set1 u) rfl
theorem RW.set2 (h : RW w wr B pb rb ob a b c s x y z v zs) (u : Int) : RW w (wr.setCell ⟨ob, 2, none⟩ (.int .i64 u)) B pb rb ob a b c s x y u v zs := h.put 2 _ (h.o.set2 u) rfl
theorem RW.step (h : RW w wr B pb rb ob a b c s x y z v zs) (hb : Below B wr w') (ho : OwnI w' B v' zs') : RW w (w'.setCell ⟨ob, 3, none⟩ v') B pb rb ob a b c s x y z v' zs' := by
  have hgr : w'.grownBy (w'.setCell ⟨ob, 3, none⟩ v') (some ob) := ⟨rfl, rfl, rfl, by simp [World.setCell], fun q _ hne => Below.heap_setCell w' ⟨ob, 3, none⟩ _ q (fun e => hne (by rw [e]))⟩
  refine ⟨PBox.other (w := w') ((hb.block _ h.pB).trans h.p) (p := ⟨ob, 3, none⟩) h.po _, PBox.other (w := w') ((hb.block _ h.rB).trans h.r) (p := ⟨ob, 3, none⟩) h.ro _, PBox.set (w := w') ((hb.block _ h.oB).trans h.o) _, ho.grown hgr ?_, (h.below.trans (hb.mono h.wB)).setCell h.wo _, h.pB, h.rB, h.oB, h.po, h.ro, h.wo, h.wr', by simpa [World.setCell] using Nat.le_trans h.sz hb.size, h.wB⟩
  rcases hv : v'.ownBlock with _ | g
  · exact .inl rfl
  · exact .inr (fun e => by have := ho.lt' g hv; have := h.oB; cases e; omega)
theorem RW.of (h : RW w wr B pb rb ob a b c s x y z v zs) (i : Nat) : wr.frozen? ⟨ob, i, none⟩ = false := frozen_of_row wr ob i _ _ h.o
theorem RW.rf (h : RW w wr B pb rb ob a b c s x y z v zs) (i : Nat) : wr.frozen? ⟨rb, i, none⟩ = false := frozen_of_row wr rb i _ _ h.r
theorem RW.x0 (h : RW w wr B pb rb ob a b c s x y z v zs) : cellI wr ob 0 = x ∧ cellI wr ob 1 = y ∧ cellI wr ob 2 = z := by
  obtain ⟨o0, o1, o2, -⟩ := h.o.cells
  unfold cellI
  rw [o0, o1, o2]
  exact ⟨rfl, rfl, rfl⟩
end
def msB (t : Value) (n : Nat) : Nat := match t with | .bool true => 0 | _ => n + 1
attribute [local irreducible] plainUpon stepC
end Go.Proofs.YtgmokojdlbdjeaaDoor
