/-
  A fraction's box in a region's script.
-/
import Derived.Test.YtdgmpaijpjkeoaaRegE
import Derived.Test.YtdgmpaijpjkeoaaNat
namespace Go.Proofs.Ytdgmpaijpjkeoaa
open Go.RowKit
def ratC (x y : Int) : Array Value := #[.int .i64 x, .int .i64 y]
/-- Block b holds a fraction. -/
def RatB (w : World) (b : Nat) (x y : Int) : Prop := w.heap[b]? = some (.cells (ratC x y) 28 (0, 0))
theorem ratInfo (x y : Int) : (Try.prog.info? 28).map (·.size) = some (ratC x y).size := by kernel_rfl
theorem ratZero (w : World) : (zeroValue 28).run Try.prog w = .ok (.agg (ratC 0 0)) w :=
  (zero_of_info (P := Try.prog) (t := 28) (v := .agg (ratC 0 0)) (n := 2) (by kernel_rfl)).1 w
section
variable {w w' : World} {b : Nat} {x y : Int}
theorem RatB.lt (h : RatB w b x y) : b < w.heap.size := (Array.getElem?_eq_some_iff.1 h).1
theorem RatB.of_block (h : RatB w b x y) (hb : w'.heap[b]? = w.heap[b]?) : RatB w' b x y := hb.trans h
theorem RatB.keep (h : RatB w b x y) (hb : Below w.heap.size w w') : RatB w' b x y := h.of_block (hb.block b h.lt)
theorem RatB.new (w : World) (x y : Int) : RatB (w.alloc (.cells (ratC x y) 28)) w.heap.size x y := push_last w.heap _ _ rfl
theorem RatB.box (h : RatB w b x y) : Box2 w b (.int .i64 x) (.int .i64 y) :=
  ⟨(cell_of_row w b 0 _ _ (0, 0) h).trans rfl, (cell_of_row w b 1 _ _ (0, 0) h).trans rfl, frozen_of_row w b 0 _ _ h, frozen_of_row w b 1 _ _ h, h.lt⟩
theorem RatB.row (h : RatB w b x y) (x' y' : Int) : RatB (w.setRow b (ratC x' y')) b x' y' := by
  obtain ⟨hg, he⟩ := Array.getElem?_eq_some_iff.1 h
  unfold RatB
  simp [World.setRow, hg, Array.getElem_modify, he]
end
section
variable {a : Act} {w : World} {K : Act → World → Prop} {o : Oper}
theorem g_alloc_rat (ho : o.op = .alloc 28) (h : ∀ w', RatB w' w.heap.size 0 0 → Below w.heap.size w w' → K (a.put o.dst (.pointer (some ⟨w.heap.size, 0, none⟩))) w') : plainUpon Try.prog o a K ((execOp a.eval o).run Try.prog w) := by
  refine g_val _ (w.alloc (.cells (ratC 0 0) 28)) ?_ (h _ (RatB.new _ _ _) ((Below.refl _ _).alloc (Nat.le_refl _) _))
  unfold execOp
  simp only [ho]
  simp only [Instr.alloc, Sem.run_bind, Sem.run_pure, ratZero, Result.andThen_ok]
  go_simp
theorem g_store_rat (x y : Operand) (ho : o.op = .store 28 x y) (b : Nat) (p q x0 y0 : Int) (hx : a.eval x = .pointer (some ⟨b, 0, none⟩)) (hy : a.eval y = .agg (ratC p q)) (hb : RatB w b x0 y0)
    (h : ∀ w', RatB w' b p q → w.grownBy w' (some b) → K (a.put o.dst undef) w') : plainUpon Try.prog o a K ((execOp a.eval o).run Try.prog w) :=
  g_store_row 28 x y ho b (ratC p q) hx hy 28 (ratC x0 y0) hb (ratInfo p q) rfl (by simp [ratC, Value.oneCell']) (h _ (hb.row p q) (grown_setRow _ _ _))
end
end Go.Proofs.Ytdgmpaijpjkeoaa
