/-
  THE SCRIPT OF A REGION WITHOUT GUARDS; a box of two cells, made and written.
-/
import Derived.Test.YtgmokojdlbdjeaaGreatDoorRegD
import Derived.Test.YtgmokojdlbdjeaaGreatDoorNumB
import Derived.Laws.Tables
namespace Go.Proofs.YtgmokojdlbdjeaaGreatDoor
open Go.RowKit
open Go
section
variable {P : Program} {C : World → Prop} {L : Act → World → Prop}
def gS (P : Program) (l : List Oper) (C : World → Prop) (L : Act → World → Prop) : Scr → Act → World → Prop
  | .fin, a, w => C w ∧ L a w
  | .read k s, a, w => atOp l k fun o => ∃ v, (∀ w, (execOp a.eval o).run P w = .ok (.value v) w) ∧ gS P l C L s (a.put o.dst v) w
  | .op k s, a, w => C w ∧ atOp l k fun o => plainUpon P o a (gS P l C L s) ((execOp a.eval o).run P w)
  | .both i s j t, a, w => C w ∧ (atOp l i fun o => plainUpon P o a (gS P l C L s) ((execOp a.eval o).run P w)) ∧ (atOp l j fun o => plainUpon P o a (gS P l C L t) ((execOp a.eval o).run P w))
def unguarded (l : List Oper) : Bool := l.all fun o => o.guard.isNone
theorem atOp_mono {l : List Oper} (hu : unguarded l = true) {k : Nat} {p q : Oper → Prop} (h : ∀ o : Oper, o.guard = none → p o → q o) (hp : atOp l k p) : atOp l k q := by
  unfold atOp at *
  split
  · rename_i o ho
    rw [ho] at hp
    have hg := List.all_eq_true.1 hu o (List.mem_of_getElem? ho)
    exact h o (by simpa using hg) hp
  · rename_i ho
    rw [ho] at hp
    exact hp
theorem step_of {ops : Array Oper} {o : Oper} {a : Act} {w : World} {K K' : Act → World → Prop} (hg : o.guard = none) (h : plainUpon P o a K ((execOp a.eval o).run P w)) (hk : ∀ a w, K a w → K' a w) : stepC P ops o a K' w := by
  unfold stepC
  rw [if_pos (by unfold Region.wanted; rw [hg])]
  exact plainUpon_mono hk h
theorem gS_scrS {l : List Oper} (hu : unguarded l = true) : ∀ (s : Scr) (a : Act) (w : World), gS P l C L s a w → scrS P l C L s a w
  | .fin, _, _, h => h
  | .read _ s, _, w, h => atOp_mono hu (fun o hg ⟨v, hv, hs⟩ => ⟨v, .inl ⟨by unfold Region.wanted; rw [hg], fun w _ => .inl (hv w)⟩, gS_scrS hu s _ w hs⟩) h
  | .op _ s, _, _, h => ⟨h.1, atOp_mono hu (fun _ hg hp => step_of hg hp (gS_scrS hu s)) h.2⟩
  | .both _ s _ t, _, _, h => ⟨h.1, atOp_mono hu (fun _ hg hp => step_of hg hp (gS_scrS hu s)) h.2.1, atOp_mono hu (fun _ hg hp => step_of hg hp (gS_scrS hu t)) h.2.2⟩
theorem wpQuiet_mono' {ops : Array Oper} {K K' : Act → Prop} (h : ∀ a, K a → K' a) : ∀ (l : List Oper) (a : Act), wpQuiet P ops C K l a → wpQuiet P ops C K' l a := by
  intro l
  induction l with
  | nil => exact fun a hq => h a hq
  | cons o r ih =>
    intro a hq
    unfold wpQuiet at hq ⊢
    split
    · rename_i hw
      rw [if_pos hw] at hq
      obtain ⟨v, h1, h2⟩ := hq
      exact ⟨v, h1, ih _ h2⟩
    · rename_i hw
      rw [if_neg hw] at hq
      exact ih _ hq
theorem region_gscript {id : Nat} {Q : Exit → Act → World → Prop} {a : Act} {w : World} {l : List Oper} (is : List Nat) (s : Scr) (hm : P.follows .mixedOrders = true) (hu : unguarded l = true) (hB : lexSB .any l.toArray is s = true) (hC : C { w with drawn := w.drawn + 1 })
    (h : wpQuiet P l.toArray C (fun a' => ∀ w', C w' → gS P l C (fun a w => Q .normal a w) s a' w') (pickL l is) a) : (Code.region id l.toArray true).wp P Q a w :=
  region_script is s hm hB hC (wpQuiet_mono' (fun a' h' w' hw => gS_scrS hu s a' w' (h' w' hw)) _ _ h)
/- What an operation does. -/
section
variable {a : Act} {w : World} {K : Act → World → Prop} {o : Oper}
theorem g_call (f : FuncId) (args : Array Value) (he : (execOp a.eval o).run P w = .ok (.enter f args) w)
    (h : Calls P f args w fun e w'' => ∃ v, e = .returned v ∧ K (a.put o.dst v) w'') : plainUpon P o a K ((execOp a.eval o).run P w) := by
  rw [he]; exact h
theorem g_val (v : Value) (w' : World) (he : (execOp a.eval o).run P w = .ok (.value v) w') (h : K (a.put o.dst v) w') : plainUpon P o a K ((execOp a.eval o).run P w) := by
  rw [he]; exact h
theorem g_skip (w' : World) (he : (execOp a.eval o).run P w = .ok .skip w') (h : K (a.put o.dst undef) w') : plainUpon P o a K ((execOp a.eval o).run P w) := by
  rw [he]; exact h
theorem g_assign (x : Operand) (ho : o.op = .assign x) (h : K (a.put o.dst (a.eval x)) w) : plainUpon P o a K ((execOp a.eval o).run P w) := by
  refine g_val (a.eval x) w ?_ h
  unfold execOp
  simp only [ho, Sem.run_pure]
/-- A row is written whole. -/
theorem g_store_row (ty : TypeId) (x y : Operand) (ho : o.op = .store ty x y) (g : Nat) (cells : Array Value) (hx : a.eval x = .pointer (some ⟨g, 0, none⟩)) (hy : a.eval y = .agg cells)
    (t : TypeId) (old : Array Value) (hg : w.heap[g]? = some (.cells old t (0, 0))) (hi : (P.info? ty).map (·.size) = some cells.size) (hold : old.size = cells.size) (h1 : cells.all (·.oneCell') = true)
    (h : K (a.put o.dst undef) (w.setRow g cells)) : plainUpon P o a K ((execOp a.eval o).run P w) := by
  refine g_skip (w.setRow g cells) ?_ h
  unfold execOp
  simp only [ho, hx, hy, Instr.storeAt, Instr.sureAddr, Sem.run_bind, Sem.run_pure, Result.andThen_ok, run_storeVar_row w g t ty old cells hg hi hold h1]
end
end
end Go.Proofs.YtgmokojdlbdjeaaGreatDoor
