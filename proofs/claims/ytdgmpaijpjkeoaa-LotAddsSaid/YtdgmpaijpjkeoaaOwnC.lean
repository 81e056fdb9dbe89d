/-
  slices.Clone OF LOTS AND OF PARTS; copied (the program's).
-/
import Derived.Test.YtdgmpaijpjkeoaaOwnL
import Derived.Deep.AppendLies
namespace Go.Proofs.Ytdgmpaijpjkeoaa
open Go.RowKit
section
variable {P : Program} {w : World} {ops : Array Oper} {rest : List Oper} {o : Oper} {a : Act} {Q : Exit → Act → World → Prop}
theorem exec_append (s x : Operand) (t : TypeId) (ho : o.op = .call { callee := .builtin .append, args := #[s, x], argTypes := #[t, t] }) (v y v' : Value) (w' : World) (hs : a.eval s = v) (hx : a.eval x = y)
    (hr : (Builtin.append_ #[t, t] o.type #[v, y]).run P w = .ok v' w') : (execOp a.eval o).run P w = .ok (.value v') w' := by
  unfold execOp
  simp only [ho, resolve, invoke, builtin, Sem.run_bind, Sem.run_pure, Result.andThen_ok, List.map_toArray, List.map_cons, List.map_nil, hs, hx, hr]
theorem wpList_app (hgd : o.guard = none) (s x : Operand) (t : TypeId) (ho : o.op = .call { callee := .builtin .append, args := #[s, x], argTypes := #[t, t] }) (v y v' : Value) (w' : World) (hs : a.eval s = v) (hx : a.eval x = y)
    (hr : (Builtin.append_ #[t, t] o.type #[v, y]).run P w = .ok v' w') (h : wpList P ops Q rest (a.put o.dst v') w') : wpList P ops Q (o :: rest) a w := by
  refine wpList_plain hgd fun K hK => ?_
  unfold Oper.wp
  rw [exec_append s x t ho v y v' w' hs hx hr]
  exact hK _ _ h
end
theorem lotInfo3 : (Try.prog.info? 37).map (fun i => (i.zero, i.size, i.bytes)) = some (some (.agg #[.int .i64 0, .int .i64 0, .slice none 0 0]), 3, 40) := by kernel_rfl
theorem partInfo3 : (Try.prog.info? 39).map (fun i => (i.zero, i.size, i.bytes)) = some (some (.agg #[.int .i64 0, .int .i64 0]), 2, 16) := by kernel_rfl
theorem empty_own (w : World) (e : TypeId) (size : Nat) : (w.alloc (.cells #[] e)).ownsRow w.heap.size e size (.slice (some ⟨w.heap.size, 0, none⟩) 0 0) 0 [] :=
  ⟨by simp, .inr ⟨w.heap.size, 0, #[], rfl, Nat.le_refl _, heap_alloc_new w _, Nat.le_refl _, Nat.zero_le _, by simp, by simp⟩⟩
theorem flatP_cells {w : World} {A : Option Addr} {ps : List (Int × Int)} (h : PartsIn w A ps) : CellsAt w A (flatP ps) := fun hp => by
  rw [flatP_length] at hp
  obtain ⟨b, o, rfl, hlt, hc⟩ := h.2 (by omega)
  refine ⟨b, o, rfl, hlt, fun j v hv => ?_⟩
  have hj := (List.getElem?_eq_some_iff.1 hv).1
  rw [flatP_length] at hj
  obtain ⟨q1, q2⟩ := hc (j / 2) (by omega)
  obtain ⟨r1, r2⟩ := flatP_at ps (j / 2) (by omega)
  by_cases hm : j % 2 = 0
  · rw [show j = j / 2 * 2 by omega] at hv
    rw [hv] at r1
    cases r1
    rw [show o + j = o + j / 2 * 2 by omega]
    exact q1
  · rw [show j = j / 2 * 2 + 1 by omega] at hv
    rw [hv] at r2
    cases r2
    rw [show o + j = o + j / 2 * 2 + 1 by omega]
    exact q2
theorem flatP_one (ps : List (Int × Int)) : ∀ u ∈ flatP ps, u.oneCell' = true := by
  intro u hu
  unfold flatP at hu
  obtain ⟨t, ht, hu⟩ := List.mem_flatMap.1 hu
  simp only [List.mem_cons, List.not_mem_nil, or_false] at hu
  rcases hu with rfl | rfl <;> rfl
/-- append(empty, parts...): the parts in new memory. -/
theorem parts_run (w : World) (ty : TypeId) (ps : List (Int × Int)) (A : Option Addr) (c : Nat) (hP : PartsIn w A ps) (hn : ps.length ≤ 1000) (base : Nat) (v : Value) (hown : w.ownsRow base 39 2 v 0 []) (hb : base ≤ w.heap.size) :
    ∃ s w', (Builtin.append_ #[35, 35] ty #[v, .slice A ps.length c]).run Try.prog w = .ok s w' ∧ PartO w' base none ps s ∧ w.grownBy w' v.ownBlock := by
  obtain ⟨i0, hi, hz0, hz1, hz2⟩ := info_parts partInfo3
  obtain ⟨s, w', h1, h2, h3, -⟩ := app_run (P := Try.prog) w 35 ty 39 i0 (.agg #[.int .i64 0, .int .i64 0]) 2 16 base Try.underlying35 hi hz0 hz1 hz2 rfl (by decide) v 0 [] hown A ps.length c (flatP ps) (flatP_length ps) (flatP_cells hP) (flatP_one ps) (by unfold maxLen; omega) (by omega) hb
  rw [Nat.zero_add, List.nil_append] at h2
  have hrow := h2
  obtain ⟨A', c', rfl, hle, hc⟩ := own_slice h2
  refine ⟨_, w', h1, ⟨A', c', rfl, hle, ⟨hP.1, fun hp => ?_⟩, fun hp => ?_⟩, h3⟩
  · obtain ⟨b, o, rfl, hlt, hcc⟩ := hc (by decide) (by rw [flatP_length]; omega)
    refine ⟨b, o, rfl, hlt, fun k hk => ?_⟩
    obtain ⟨r1, r2⟩ := flatP_at ps k hk
    exact ⟨hcc _ _ r1, hcc _ _ r2⟩
  · rcases h2.2 with ⟨e, h0⟩ | ⟨g, cap, cur, e, hB, -⟩
    · omega
    · cases e
      exact ⟨g, rfl, hB, by simp, (Row.of_own hrow).1⟩
set_option maxRecDepth 100000 in
theorem clone_parts (ps : List (Int × Int)) (A : Option Addr) (c : Nat) (w : World) (hP : PartsIn w A ps) (hn : ps.length ≤ 1000) :
    Calls Try.prog 98 #[.slice A ps.length c] w fun e w' => ∃ s, e = .returned s ∧ PartO w' w.heap.size none ps s ∧ Below w.heap.size w w' := by
  have HP := Lib.hid hP
  clear hP
  cases A with
  | none =>
    have h0 : ps = [] := by
      cases ps with
      | nil => rfl
      | cons p r => obtain ⟨b, o, hb, -⟩ := HP.out.2 (by simp); cases hb
    subst h0
    have he : ∀ w : World, (binOp .eql 35 (.slice none 0 c) (.slice none 0 0)).run Try.prog w = .ok (.bool true) w := fun _ => rfl
    go_enter Try.func98, Try.ntmps98
    go_wp2
    go_ret
    exact ⟨_, rfl, ⟨none, 0, rfl, Nat.le_refl _, ⟨by simp, fun h => by simp at h⟩, fun h => by simp at h⟩, Below.refl _ _⟩
  | some ad =>
    have hP2 := HP.out.below ((Below.refl w.heap.size w).alloc (Nat.le_refl _) (.cells #[] 39))
    obtain ⟨s, w', h1, h2, h3⟩ := parts_run (w.alloc (.cells #[] 39)) 35 ps (some ad) c hP2 hn w.heap.size _ (empty_own w _ _) (by simp)
    have H := Lib.hid (And.intro h2 (below_grown ((Below.refl w.heap.size w).alloc (Nat.le_refl _) (.cells #[] 39)) h3 (Nat.le_refl _) (by simp)))
    have HR := Lib.hid h1
    clear h1 h2 h3 hP2
    have he : ∀ w : World, (binOp .eql 35 (.slice (some ad) ps.length c) (.slice none 0 0)).run Try.prog w = .ok (.bool false) w := fun _ => rfl
    go_enter Try.func98, Try.ntmps98
    go_wp2_with (at_builtin; refine wpList_app rfl (.tmp 5) (.tmp 6) 35 rfl _ _ s w' rfl rfl HR.out ?_)
    go_ret
    exact ⟨s, rfl, H.out⟩
end Go.Proofs.Ytdgmpaijpjkeoaa
