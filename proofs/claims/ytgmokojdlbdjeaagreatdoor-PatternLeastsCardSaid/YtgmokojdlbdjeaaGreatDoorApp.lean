/-
  append, run as an equation: integers in new memory; a run in the midst of a region.
-/
import Derived.Test.YtgmokojdlbdjeaaGreatDoorOwn
namespace Go.Proofs.YtgmokojdlbdjeaaGreatDoor
open Go.RowKit
section
variable {P : Program} {w : World} {o : Oper} {a : Act}
theorem ap_exec (s x : Operand) (t : TypeId) (ho : o.op = .call { callee := .builtin .append, args := #[s, x], argTypes := #[t, t] }) (v y v' : Value) (w' : World) (hs : a.eval s = v) (hx : a.eval x = y)
    (hr : (Builtin.append_ #[t, t] o.type #[v, y]).run P w = .ok v' w') : (execOp a.eval o).run P w = .ok (.value v') w' := by
  unfold execOp
  simp only [ho, resolve, invoke, builtin, Sem.run_bind, Sem.run_pure, Result.andThen_ok, List.map_toArray, List.map_cons, List.map_nil, hs, hx, hr]
theorem quiet_run {C : World → Prop} {K : Act → Prop} (v : Value) (h : ∀ w, C w → (execOp a.eval o).run P w = .ok (.value v) w) (hK : K (a.put o.dst v)) : o.quiet P a C K :=
  ⟨v, fun w hw => by unfold Oper.quietAt; rw [h w hw]; exact ⟨rfl, rfl⟩, hK⟩
end
/-- append(s, k) of one integer, whose cell lies in the block that was made last. -/
theorem ap_i64 (w : World) (ty : TypeId) (B : Nat) (v : Value) (zs : List Int) (k : Int) (hown : OwnI w B v zs) (hn : zs.length ≤ 1000000000) (hB : B ≤ w.heap.size) :
    ∃ v' w', (Builtin.append_ #[22, 22] ty #[v, .slice (some ⟨w.heap.size, 0, none⟩) 1 1]).run Tryz.prog (w.alloc (.cells #[.int .i64 k] 3)) = .ok v' w' ∧ OwnI w' B v' (zs ++ [k]) ∧ w.grownBy w' v.ownBlock ∧ (v'.ownBlock = v.ownBlock ∨ v'.ownBlock = some (w.heap.size + 1)) := by
  obtain ⟨i0, hi, hz0, hz1, hz2⟩ := info_parts intInfo
  obtain ⟨v', w', hr, h2, h3, h4, h5⟩ := run_append_own_at (P := Tryz.prog) (w.alloc (.cells #[.int .i64 k] 3)) B 22 ty 3 i0 (.int .i64 0) 1 8 Tryz.underlying22 hi hz0 hz1 hz2 rfl (by decide) v zs.length _ (hown.alloc _) ⟨w.heap.size, 0, none⟩ 1 1 [.int .i64 k] rfl
    (by intro j u hu; match j, hu with | 0, hu => simp at hu; subst hu; simp [Addr.add]) (by intro u hu; simp at hu; subst hu; rfl) (by unfold maxLen; omega) (by omega) (by simp; omega)
  refine ⟨v', w', hr, ?_, ⟨h3.os, h3.tape, h3.output, by have := h3.size; simp at this; omega, fun k hk hne => (h3.block k (by simp; omega) hne).trans (heap_alloc_old w _ hk)⟩, ?_⟩
  · unfold OwnI
    rw [List.length_append, List.map_append]
    exact h2
  · rcases h5 with h5 | h5
    · exact .inl h5
    · rw [h5]; exact .inr (by simp)
theorem OwnI.lt' {w : World} {B : Nat} {v : Value} {zs : List Int} (h : OwnI w B v zs) : ∀ g, v.ownBlock = some g → B ≤ g ∧ g < w.heap.size := World.ownsRow.lt h
theorem OwnI.down {w : World} {B B' : Nat} {v : Value} {zs : List Int} (h : OwnI w B v zs) (hB : B' ≤ B) : OwnI w B' v zs := by
  refine ⟨h.1, ?_⟩
  rcases h.2 with h | ⟨g, cap, cur, e, h1, h2⟩
  · exact .inl h
  · exact .inr ⟨g, cap, cur, e, Nat.le_trans hB h1, h2⟩
/-- A world in which the blocks below B are as they were: for regions that write to blocks from B on. -/
structure SubW (B : Nat) (w : World) where
  val : World
  prop : Below B w val
instance sub_inh {B : Nat} {w : World} : Nonempty (SubW B w) := ⟨⟨w, Below.refl B w⟩⟩
theorem sub_cell {B b i : Nat} {w : World} (x : SubW B w) (h : b < B) : x.val.cell? ⟨b, i, none⟩ = w.cell? ⟨b, i, none⟩ := x.prop.cell (p := ⟨b, i, none⟩) h
theorem sub_frozen {B b i : Nat} {w : World} (x : SubW B w) (h : b < B) : x.val.frozen? ⟨b, i, none⟩ = w.frozen? ⟨b, i, none⟩ := x.prop.frozen (p := ⟨b, i, none⟩) h
theorem sub_start (B : Nat) (w : World) : ∃ x : SubW B w, { w with drawn := w.drawn + 1 } = x.val := ⟨⟨_, (Below.refl B w).drew⟩, rfl⟩
theorem sub_of {B : Nat} {w w' : World} (h : Below B w w') : ∃ x : SubW B w, w' = x.val := ⟨⟨w', h⟩, rfl⟩
end Go.Proofs.YtgmokojdlbdjeaaGreatDoor
