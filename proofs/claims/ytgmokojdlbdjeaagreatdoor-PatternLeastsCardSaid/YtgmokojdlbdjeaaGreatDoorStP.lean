/-
  STORES OF WHOLE STRUCTS, RUN IN THE MIDST OF A REGION: patterns.
-/
import Derived.Test.YtgmokojdlbdjeaaGreatDoorPatG
namespace Go.Proofs.YtgmokojdlbdjeaaGreatDoor
open Go.RowKit
open Go
theorem st_row_run {P : Program} {o : Oper} {a : Act} {w : World} (ty : TypeId) (x y : Operand) (ho : o.op = .store ty x y) (g : Nat) (cells : Array Value) (hx : a.eval x = .pointer (some ⟨g, 0, none⟩)) (hy : a.eval y = .agg cells)
    (t : TypeId) (old : Array Value) (hg : w.heap[g]? = some (.cells old t (0, 0))) (hi : (P.info? ty).map (·.size) = some cells.size) (hold : old.size = cells.size) (h1 : cells.all (·.oneCell') = true) : (execOp a.eval o).run P w = .ok .skip (w.setRow g cells) := by
  unfold execOp
  simp only [ho, hx, hy, Instr.storeAt, Instr.sureAddr, Sem.run_bind, Sem.run_pure, Result.andThen_ok, run_storeVar_row w g t ty old cells hg hi hold h1]
theorem row_grown (w : World) (b : Nat) (c : Array Value) : w.grownBy (w.setRow b c) (some b) :=
  ⟨rfl, rfl, rfl, by simp [World.setRow], fun i _ hne => by
    have hib : b ≠ i := fun e => hne (by rw [e])
    simp [World.setRow, Array.getElem?_modify, hib]⟩
theorem PBox.row {w : World} {bx : Nat} {a b c : Int} {s : Value} (h : PBox w bx a b c s) (a' b' c' : Int) (s' : Value) : PBox (w.setRow bx #[.int .i64 a', .int .i64 b', .int .i64 c', s']) bx a' b' c' s' := by
  obtain ⟨hg, he⟩ := Array.getElem?_eq_some_iff.1 h
  unfold PBox
  simp [World.setRow, hg, Array.getElem_modify, he]
/-- A pattern's value is put into the box of the result. -/
theorem st_pat_run {o : Oper} {a : Act} {w : World} (x y : Operand) (ho : o.op = .store 24 x y) {bx : Nat} {a0 b0 c0 : Int} {s0 : Value} (hb : PBox w bx a0 b0 c0 s0) (a' b' c' : Int) (A : Option Addr) (l k : Nat) (hx : a.eval x = .pointer (some ⟨bx, 0, none⟩)) (hy : a.eval y = .agg #[.int .i64 a', .int .i64 b', .int .i64 c', .slice A l k]) :
    (execOp a.eval o).run Tryz.prog w = .ok .skip (w.setRow bx #[.int .i64 a', .int .i64 b', .int .i64 c', .slice A l k]) :=
  st_row_run 24 x y ho bx _ hx hy 24 _ hb (patSz a' b' c' _) rfl (by simp [Value.oneCell'])
/-- The result's box behind the store, and the answer. -/
theorem put_row {w wr : World} {rb B : Nat} {a b c : Int} {s : Value} (hr : PBox wr rb a b c s) (hb : Below w.heap.size w wr) (hw : w.heap.size ≤ rb) (p : PatD) (A : Option Addr) (k : Nat) (z : Value) (ho : OwnI wr B (.slice A p.xs.length k) p.xs) (hB : w.heap.size ≤ B) (hrB : rb < B) :
    PBox (wr.setRow rb #[.int .i64 p.a, .int .i64 p.b, .int .i64 p.c, .slice A p.xs.length k]) rb p.a p.b p.c (.slice A p.xs.length k) ∧ OutP w p z (.returned (.tuple #[.agg #[.int .i64 p.a, .int .i64 p.b, .int .i64 p.c, .slice A p.xs.length k], z])) (wr.setRow rb #[.int .i64 p.a, .int .i64 p.b, .int .i64 p.c, .slice A p.xs.length k]) := by
  have hgr := row_grown wr rb #[.int .i64 p.a, .int .i64 p.b, .int .i64 p.c, .slice A p.xs.length k]
  refine ⟨hr.row _ _ _ _, _, rfl, OwnI.down (OwnI.grown ho hgr ?_) hB, Below.grown hb hgr hb.size (fun g e => by cases e; exact hw)⟩
  rcases hv : (Value.slice A p.xs.length k).ownBlock with _ | g
  · exact .inl rfl
  · exact .inr (fun e => by have := ho.lt' g hv; cases e; omega)
end Go.Proofs.YtgmokojdlbdjeaaGreatDoor
