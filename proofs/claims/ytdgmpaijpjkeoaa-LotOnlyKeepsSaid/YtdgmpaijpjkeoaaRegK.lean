/-
  The steps of a region with a floating box: calls, extracts; the box of a fraction.
-/
import Derived.Test.YtdgmpaijpjkeoaaRegJ
import Derived.Test.YtdgmpaijpjkeoaaRegF
namespace Go.Proofs.Ytdgmpaijpjkeoaa
open Go.RowKit
open Go
theorem grow_refl (w : World) : ∃ y, w = grow w y := ⟨⟨#[], w.drawn⟩, by simp [grow]⟩
theorem grow_trans {w : World} : ∀ w' y, (∃ x, w' = grow w x) → ∃ x, grow w' y = grow w x := by
  rintro w' y ⟨x, rfl⟩
  exact grow_of_below ((below_grow w x).trans ((below_grow (grow w x) y).mono (below_grow w x).size))
section
variable {P : Program} {C : World → Prop} {a : Act} {o : Oper} {v : Value} {w : World} {R : Prop}
theorem flo_call (f : FuncId) (args : Array Value) (he : ∀ w, (execOp a.eval o).run P w = .ok (.enter f args) w) (hc : ∀ w, C w → Calls P f args w fun e w' => e = .returned v ∧ Below w.heap.size w w') (h : R) :
    (∀ w, C w → GrowsTo P v w ((execOp a.eval o).run P w)) ∧ R :=
  ⟨fun w hw => by rw [he w]; exact (hc w hw).mono fun e w' ⟨h1, h2⟩ => ⟨h1, grow_of_below h2⟩, h⟩
theorem flo_val (v : Value) (he : ∀ w, (execOp a.eval o).run P w = .ok (.value v) w) (h : R) : (∀ w, C w → GrowsTo P v w ((execOp a.eval o).run P w)) ∧ R :=
  ⟨fun w _ => by rw [he w]; exact ⟨rfl, grow_refl w⟩, h⟩
end
/-- A new block that holds some cells of a type. -/
def Fresh (base : Nat) (t : TypeId) (cells : Array Value) (u : Value) (w : World) : Prop := ∃ nb, u = .pointer (some ⟨nb, 0, none⟩) ∧ base ≤ nb ∧ w.heap[nb]? = some (.cells cells t (0, 0))
theorem Fresh.grow {base : Nat} {t : TypeId} {cells : Array Value} : ∀ u w y, Fresh base t cells u w → Fresh base t cells u (grow w y) := by
  rintro u w y ⟨nb, rfl, h1, h2⟩
  exact ⟨nb, rfl, h1, (grow_block (Array.getElem?_eq_some_iff.1 h2).1).trans h2⟩
theorem fresh_alloc {P : Program} {o : Oper} {wr : World} (t : TypeId) (cells : Array Value) (ho : o.op = .alloc t) (hz : ∀ w, (zeroValue t).run P w = .ok (.agg cells) w) :
    (∀ (a : Act) w, (∃ x, w = Proofs.Ytdgmpaijpjkeoaa.grow wr x) → ∃ u w', (execOp a.eval o).run P w = .ok (.value u) w' ∧ (∃ y, w' = Proofs.Ytdgmpaijpjkeoaa.grow w y) ∧ Fresh wr.heap.size t cells u w') ∧ (∀ (a : Act) d v, (execOp (Act.put a d v).eval o) = execOp a.eval o) := by
  refine ⟨?_, fun a d v => ?_⟩
  · rintro a w ⟨x, rfl⟩
    refine ⟨.pointer (some ⟨(Proofs.Ytdgmpaijpjkeoaa.grow wr x).heap.size, 0, none⟩), (Proofs.Ytdgmpaijpjkeoaa.grow wr x).alloc (.cells cells t), ?_, grow_of_below ((Below.refl _ _).alloc (Nat.le_refl _) _), _, rfl, (below_grow wr x).size, push_last _ _ _ rfl⟩
    unfold execOp
    simp only [ho]
    simp only [Instr.alloc, Sem.run_bind, Sem.run_pure, hz, Result.andThen_ok]
    go_simp
  · unfold execOp
    simp only [ho]
section
variable {P : Program} {K : Act → World → Prop} {a : Act} {o : Oper} {w wr : World}
theorem tail_store (ty : TypeId) (x y : Operand) (ho : o.op = .store ty x y) (old cells : Array Value) (u : Value) (hx : a.eval x = u) (hg : Fresh wr.heap.size ty old u w) (hy : a.eval y = .agg cells) (hw : ∃ x, w = Proofs.Ytdgmpaijpjkeoaa.grow wr x)
    (hi : (P.info? ty).map (·.size) = some cells.size) (hold : old.size = cells.size) (h1 : cells.all (·.oneCell') = true)
    (h : ∀ w', (∃ x, w' = Proofs.Ytdgmpaijpjkeoaa.grow wr x) → Fresh wr.heap.size ty cells u w' → K (a.put o.dst undef) w') : plainUpon P o a K ((execOp a.eval o).run P w) := by
  obtain ⟨nb, rfl, hb, hc⟩ := hg
  obtain ⟨xg, rfl⟩ := hw
  obtain ⟨hg, he⟩ := Array.getElem?_eq_some_iff.1 hc
  refine g_store_row ty x y ho nb cells hx hy ty old hc hi hold h1 (h _ (grow_of_below (below_grown (below_grow wr xg) (grown_setRow _ _ _) hb (below_grow wr xg).size)) ⟨nb, rfl, hb, ?_⟩)
  simp [World.setRow, hg, Array.getElem_modify, he]
end
/-- A fraction's box. -/
theorem Fresh.rat {base : Nat} {x y : Int} {u : Value} {w : World} (h : Fresh base 28 (ratC x y) u w) : ∃ nb, u = .pointer (some ⟨nb, 0, none⟩) ∧ base ≤ nb ∧ RatB w nb x y := h
/- A walk over region_float says 'attribute [local irreducible] plainUpon GrowsTo': else 'refine' opens the goal to look for a binder. -/
end Go.Proofs.Ytdgmpaijpjkeoaa
