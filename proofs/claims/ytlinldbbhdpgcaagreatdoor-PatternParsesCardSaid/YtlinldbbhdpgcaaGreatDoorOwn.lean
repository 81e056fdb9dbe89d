/-
  ROWS OF CELLS THAT A CALL MADE ITSELF: what they hold, what a store, a call and new memory do to them. Slices of integers that grow by append.
-/
import Derived.Test.YtlinldbbhdpgcaaGreatDoorCalA
import Derived.Deep.AppendLies
import Derived.OwnWalk
namespace Go.Proofs.YtlinldbbhdpgcaaGreatDoor
open Go.RowKit
/-- Block g holds the cells xs first, and may be written. -/
def Row (w : World) (g : Nat) (xs : List Value) : Prop := ∃ cur E, w.heap[g]? = some (.cells cur E (0, 0)) ∧ xs.length ≤ cur.size ∧ cur.toList.take xs.length = xs
theorem Row.lt {w : World} {g : Nat} {xs : List Value} (h : Row w g xs) : g < w.heap.size := by
  obtain ⟨cur, E, h1, -, -⟩ := h
  exact (Array.getElem?_eq_some_iff.1 h1).1
theorem Row.get {w : World} {g : Nat} {xs : List Value} (h : Row w g xs) (i : Nat) (hi : i < xs.length) : w.cell? ⟨g, i, none⟩ = some xs[i] := by
  obtain ⟨cur, E, h1, h2, h3⟩ := h
  rw [cell_of_row w g i cur E (0, 0) h1]
  have : (cur.toList.take xs.length)[i]? = some xs[i] := by rw [h3]; exact List.getElem?_eq_getElem hi
  rw [List.getElem?_take, if_pos hi] at this
  simpa using this
theorem Row.free {w : World} {g : Nat} {xs : List Value} (h : Row w g xs) (i : Nat) : w.frozen? ⟨g, i, none⟩ = false := by
  obtain ⟨cur, E, h1, -, -⟩ := h
  exact frozen_of_row w g i cur E h1
theorem Row.of_block {w w' : World} {g : Nat} {xs : List Value} (h : Row w g xs) (hb : w'.heap[g]? = w.heap[g]?) : Row w' g xs := by
  obtain ⟨cur, E, h1, h2⟩ := h
  exact ⟨cur, E, hb.trans h1, h2⟩
theorem Row.below {B g : Nat} {w w' : World} {xs : List Value} (hb : Below B w w') (hg : g < B) (h : Row w g xs) : Row w' g xs := h.of_block (hb.block g hg)
theorem Row.keep {g : Nat} {w w' : World} {xs : List Value} (hb : Below w.heap.size w w') (h : Row w g xs) : Row w' g xs := h.below hb h.lt
theorem Row.alloc {g : Nat} {w : World} {xs : List Value} (h : Row w g xs) (o : Obj) : Row (w.alloc o) g xs := h.keep ((Below.refl _ _).alloc (Nat.le_refl _) o)
theorem Row.drewN {g : Nat} {w : World} {xs : List Value} (h : Row w g xs) (m : Nat) : Row (w.drewN m) g xs := h
theorem Row.drew {g : Nat} {w : World} {xs : List Value} (h : Row w g xs) : Row w.drew g xs := h
theorem Row.other {g : Nat} {w : World} {xs : List Value} (h : Row w g xs) {p : Addr} (hp : g ≠ p.block) (u : Value) : Row (w.setCell p u) g xs := h.of_block (Below.heap_setCell w p u g hp)
theorem Row.grown {g : Nat} {w w' : World} {xs : List Value} {row : Option Nat} (h : Row w g xs) (hg : w.grownBy w' row) (hne : some g ≠ row) : Row w' g xs := h.of_block (hg.block g h.lt hne)
theorem Row.set {g : Nat} {w : World} {xs : List Value} (h : Row w g xs) (i : Nat) (u : Value) : Row (w.setCell ⟨g, i, none⟩ u) g (xs.set i u) := by
  obtain ⟨cur, E, h1, h2, h3⟩ := h
  obtain ⟨hg, he⟩ := Array.getElem?_eq_some_iff.1 h1
  refine ⟨cur.setIfInBounds i u, E, ?_, by simpa using h2, ?_⟩
  · simp [World.setCell, hg, Array.getElem_modify, he]
  · rw [Array.toList_setIfInBounds, List.length_set, List.take_set, h3]
theorem Row.new (w : World) (cur : Array Value) (E : TypeId) : Row (w.alloc (.cells cur E)) w.heap.size cur.toList :=
  ⟨cur, E, heap_alloc_new w _, by simp, List.take_length⟩
theorem Row.of_own {w : World} {B E s g n c : Nat} {o : Nat} {xs : List Value} (h : w.ownsRow B E s (.slice (some ⟨g, o, none⟩) n c) n xs) : Row w g xs ∧ o = 0 ∧ B ≤ g := by
  rcases h.2 with ⟨hv, -⟩ | ⟨g', cap, cur, hv, hb, hg, hn, -, hs, ht⟩
  · cases hv
  · cases hv
    refine ⟨⟨cur, E, hg, ?_, ?_⟩, rfl, hb⟩
    · rw [h.1, hs]; exact Nat.mul_le_mul_right _ hn
    · rw [h.1]; exact ht
/-- .. of integers. -/
def RowI (w : World) (g : Nat) (zs : List Int) : Prop := Row w g (zs.map (Value.int .i64))
theorem RowI.get {w : World} {g : Nat} {zs : List Int} (h : RowI w g zs) (i : Nat) (hi : i < zs.length) : w.cell? ⟨g, i, none⟩ = some (.int .i64 (zs.getD i 0)) := by
  have := Row.get h i (by simpa using hi)
  rw [this]
  simp [hi]
theorem RowI.set {g : Nat} {w : World} {zs : List Int} (h : RowI w g zs) (i : Nat) (x : Int) : RowI (w.setCell ⟨g, i, none⟩ (.int .i64 x)) g (zs.set i x) := by
  have := Row.set h i (.int .i64 x)
  rwa [← List.map_set] at this
theorem RowI.isL {w : World} {g : Nat} {zs : List Int} (h : RowI w g zs) : IsL w (some ⟨g, 0, none⟩) zs.length zs :=
  ⟨rfl, fun _ => ⟨g, 0, rfl, Row.lt h, fun i hi => by rw [Nat.zero_add]; exact h.get i hi⟩⟩
/-- The slice value v holds the integers zs in memory from block B on, and may be appended to. -/
def OwnI (w : World) (B : Nat) (v : Value) (zs : List Int) : Prop := w.ownsRow B 3 1 v zs.length (zs.map (Value.int .i64))
theorem OwnI.nil (w : World) (B : Nat) : OwnI w B (.slice none 0 0) [] := World.ownsRow_nil _ _ _ _
theorem OwnI.isL {w : World} {B : Nat} {v : Value} {zs : List Int} (h : OwnI w B v zs) : ∃ A c, v = .slice A zs.length c ∧ IsL w A zs.length zs := by
  rcases h.2 with ⟨hv, h0⟩ | ⟨g, cap, cur, hv, hb, hg, hn, -, hs, ht⟩
  · exact ⟨none, 0, by rw [hv, h0], rfl, fun hp => by omega⟩
  · subst hv
    exact ⟨some ⟨g, 0, none⟩, cap, rfl, (show RowI w g zs from (Row.of_own h).1).isL⟩
theorem OwnI.keep {w w' : World} {B : Nat} {v : Value} {zs : List Int} (hb : Below w.heap.size w w') (h : OwnI w B v zs) : OwnI w' B v zs :=
  World.ownsRow.kept h (row := none) ⟨hb.os, hb.tape, hb.output, hb.size, fun k hk _ => hb.block k hk⟩ (by cases v.ownBlock <;> simp)
theorem OwnI.alloc {w : World} {B : Nat} {v : Value} {zs : List Int} (h : OwnI w B v zs) (o : Obj) : OwnI (w.alloc o) B v zs := World.ownsRow.alloc h o
theorem OwnI.drewN {w : World} {B : Nat} {v : Value} {zs : List Int} (h : OwnI w B v zs) (m : Nat) : OwnI (w.drewN m) B v zs := h
theorem OwnI.grown {w w' : World} {B : Nat} {v : Value} {zs : List Int} {row : Option Nat} (h : OwnI w B v zs) (hg : w.grownBy w' row) (hne : v.ownBlock = none ∨ v.ownBlock ≠ row) : OwnI w' B v zs := World.ownsRow.kept h hg hne
theorem intInfo : (Tryz.prog.info? 3).map (fun i => (i.zero, i.size, i.bytes)) = some (some (.int .i64 0), 1, 8) := by kernel_rfl
/-- append(s, x) of one integer: the cell of x lies in the block that was made last. -/
theorem append_i64 {w : World} {ops : Array Oper} {rest : List Oper} {o : Oper} {a : Act} {Q : Exit → Act → World → Prop} (s x : Operand)
    (ho : o.op = .call { callee := .builtin .append, args := #[s, x], argTypes := #[22, 22] }) (hgd : o.guard = none)
    (B : Nat) (v : Value) (zs : List Int) (k : Int) (W : World) (hW : w = W.alloc (.cells #[.int .i64 k] 3)) (hs : a.eval s = v) (hown : OwnI W B v zs) (hx : a.eval x = .slice (some ⟨W.heap.size, 0, none⟩) 1 1)
    (hn : zs.length ≤ 1000000) (hB : B ≤ W.heap.size)
    (h : ∀ v' w', OwnI w' B v' (zs ++ [k]) → W.grownBy w' v.ownBlock → (v'.ownBlock = v.ownBlock ∨ v'.ownBlock = some (W.heap.size + 1)) → wpList Tryz.prog ops Q rest (a.put o.dst v') w') : wpList Tryz.prog ops Q (o :: rest) a w := by
  subst hW
  obtain ⟨i0, hi, hz0, hz1, hz2⟩ := info_parts intInfo
  refine wpList_append_lies (P := Tryz.prog) (w := W.alloc (.cells #[.int .i64 k] 3)) hgd s x 22 ho B 3 i0 (.int .i64 0) 1 8 Tryz.underlying22 hi hz0 hz1 hz2 rfl (by decide) v zs.length _ hs (hown.alloc _) ⟨W.heap.size, 0, none⟩ 1 1 [.int .i64 k] hx rfl
    (by intro j u hu; match j, hu with | 0, hu => simp at hu; subst hu; simp [Addr.add]) (by intro u hu; simp at hu; subst hu; rfl) (by omega) (by unfold maxLen; omega) (by omega) (by simp; omega) (W.heap.size + 1) (by simp) ?_
  intro g cap w' h1 h2 h3 h4
  refine h _ w' ?_ ?_ ?_
  · unfold OwnI
    rw [List.length_append, List.map_append]
    exact h1
  · exact ⟨h2.os, h2.tape, h2.output, by have := h2.size; simp at this; omega, fun k hk hne => (h2.block k (by simp; omega) hne).trans (heap_alloc_old W _ hk)⟩
  · rcases h3 with h3 | h3
    · exact .inl h3.symm
    · subst h3; exact .inr rfl
/-- n zeros. -/
def zcells (n : Nat) : Array Value := (List.replicate n (Value.int .i64 0)).toArray
theorem zcells_made (n : Nat) : madeCells (Value.int .i64 0).cells (n * 1) = zcells n := by
  apply Array.ext
  · simp [madeCells, zcells]
  · intro i h1 h2
    simp [madeCells, zcells, Value.cells, Nat.mod_one]
theorem make_i64 (n : Nat) (hn : n ≤ 1000000) (w : World) : (Instr.makeSlice 22 (.int .i64 (n : Int)) (.int .i64 (n : Int))).run Tryz.prog w = .ok (.slice (some ⟨w.heap.size, 0, none⟩) n n) (w.alloc (.cells (zcells n) 3)) := by
  obtain ⟨i0, hi, hz0, hz1, hz2⟩ := info_parts intInfo
  have hr := run_make (P := Tryz.prog) w 22 3 i0 (.int .i64 0) Tryz.underlying22 hi hz0 .i64 .i64 n n (by omega) (Int.le_refl _) (by rw [hz2]; omega) (by omega)
  rw [hz1] at hr
  simp only [Int.toNat_natCast, zcells_made] at hr
  exact hr
theorem RowI.zeros (w : World) (n : Nat) : RowI (w.alloc (.cells (zcells n) 3)) w.heap.size (List.replicate n 0) := by
  have := Row.new w (zcells n) 3
  unfold RowI
  rw [List.map_replicate]
  exact this
end Go.Proofs.YtlinldbbhdpgcaaGreatDoor
/-
  append, run as an equation: integers in new memory; a run in the midst of a region.
-/
namespace Go.Proofs.YtlinldbbhdpgcaaGreatDoor
open Go.RowKit
section
variable {P : Program} {w : World} {o : Oper} {a : Act}
theorem ap_exec (s x : Operand) (t : TypeId) (ho : o.op = .call { callee := .builtin .append, args := #[s, x], argTypes := #[t, t] }) (v y v' : Value) (w' : World) (hs : a.eval s = v) (hx : a.eval x = y)
    (hr : (Builtin.append_ #[t, t] o.type #[v, y]).run P w = .ok v' w') : (execOp a.eval o).run P w = .ok (.value v') w' := by
  unfold execOp
  simp only [ho, resolve, invoke, builtin, Sem.run_bind, Sem.run_pure, Result.andThen_ok, List.map_toArray, List.map_cons, List.map_nil, hs, hx, hr]
theorem quiet_run {C : World → Prop} {K : Act → Prop} (v : Value) (h : ∀ w, C w → (execOp a.eval o).run P w = .ok (.value v) w) (hK : K (a.put o.dst v)) : o.quiet P a C K :=
  ⟨v, fun w hw => by unfold Oper.quietAt; rw [h w hw]; exact ⟨rfl, rfl⟩, hK⟩
end
/-- append(s, k) of one integer, whose cell lies in the block that was made last. -/
theorem ap_i64 (w : World) (ty : TypeId) (B : Nat) (v : Value) (zs : List Int) (k : Int) (hown : OwnI w B v zs) (hn : zs.length ≤ 1000000000) (hB : B ≤ w.heap.size) :
    ∃ v' w', (Builtin.append_ #[22, 22] ty #[v, .slice (some ⟨w.heap.size, 0, none⟩) 1 1]).run Tryz.prog (w.alloc (.cells #[.int .i64 k] 3)) = .ok v' w' ∧ OwnI w' B v' (zs ++ [k]) ∧ w.grownBy w' v.ownBlock ∧ (v'.ownBlock = v.ownBlock ∨ v'.ownBlock = some (w.heap.size + 1)) := by
  obtain ⟨i0, hi, hz0, hz1, hz2⟩ := info_parts intInfo
  obtain ⟨v', w', hr, h2, h3, h4, h5⟩ := run_append_own_at (P := Tryz.prog) (w.alloc (.cells #[.int .i64 k] 3)) B 22 ty 3 i0 (.int .i64 0) 1 8 Tryz.underlying22 hi hz0 hz1 hz2 rfl (by decide) v zs.length _ (hown.alloc _) ⟨w.heap.size, 0, none⟩ 1 1 [.int .i64 k] rfl
    (by intro j u hu; match j, hu with | 0, hu => simp at hu; subst hu; simp [Addr.add]) (by intro u hu; simp at hu; subst hu; rfl) (by unfold maxLen; omega) (by omega) (by simp; omega)
  refine ⟨v', w', hr, ?_, ⟨h3.os, h3.tape, h3.output, by have := h3.size; simp at this; omega, fun k hk hne => (h3.block k (by simp; omega) hne).trans (heap_alloc_old w _ hk)⟩, ?_⟩
  · unfold OwnI
    rw [List.length_append, List.map_append]
    exact h2
  · rcases h5 with h5 | h5
    · exact .inl h5
    · rw [h5]; exact .inr (by simp)
theorem OwnI.lt' {w : World} {B : Nat} {v : Value} {zs : List Int} (h : OwnI w B v zs) : ∀ g, v.ownBlock = some g → B ≤ g ∧ g < w.heap.size := World.ownsRow.lt h
theorem OwnI.down {w : World} {B B' : Nat} {v : Value} {zs : List Int} (h : OwnI w B v zs) (hB : B' ≤ B) : OwnI w B' v zs := by
  refine ⟨h.1, ?_⟩
  rcases h.2 with h | ⟨g, cap, cur, e, h1, h2⟩
  · exact .inl h
  · exact .inr ⟨g, cap, cur, e, Nat.le_trans hB h1, h2⟩
/-- A world in which the blocks below B are as they were: for regions that write to blocks from B on. -/
structure SubW (B : Nat) (w : World) where
  val : World
  prop : Below B w val
instance sub_inh {B : Nat} {w : World} : Nonempty (SubW B w) := ⟨⟨w, Below.refl B w⟩⟩
theorem sub_cell {B b i : Nat} {w : World} (x : SubW B w) (h : b < B) : x.val.cell? ⟨b, i, none⟩ = w.cell? ⟨b, i, none⟩ := x.prop.cell (p := ⟨b, i, none⟩) h
theorem sub_frozen {B b i : Nat} {w : World} (x : SubW B w) (h : b < B) : x.val.frozen? ⟨b, i, none⟩ = w.frozen? ⟨b, i, none⟩ := x.prop.frozen (p := ⟨b, i, none⟩) h
theorem sub_start (B : Nat) (w : World) : ∃ x : SubW B w, { w with drawn := w.drawn + 1 } = x.val := ⟨⟨_, (Below.refl B w).drew⟩, rfl⟩
theorem sub_of {B : Nat} {w w' : World} (h : Below B w w') : ∃ x : SubW B w, w' = x.val := ⟨⟨w', h⟩, rfl⟩
end Go.Proofs.YtlinldbbhdpgcaaGreatDoor
