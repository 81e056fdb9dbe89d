/-
  LISTS OF LOTS AND OF PARTS IN NEW MEMORY.
-/
import Derived.Test.YtdgmpaijpjkeoaaOwn
import Derived.Test.YtdgmpaijpjkeoaaRats
import Derived.Deep.MidRow
import Derived.Deep.AppendLies
namespace Go.Proofs.Ytdgmpaijpjkeoaa
open Go.RowKit
/-- The cells cs lie at A. -/
def CellsAt (w : World) (A : Option Addr) (cs : List Value) : Prop := 0 < cs.length → ∃ b o, A = some ⟨b, o, none⟩ ∧ b < w.heap.size ∧ ∀ j v, cs[j]? = some v → w.cell? ⟨b, o + j, none⟩ = some v
theorem CellsAt.below {w w' : World} {A : Option Addr} {cs : List Value} (h : CellsAt w A cs) (hb : Below w.heap.size w w') : CellsAt w' A cs := fun hp => by
  obtain ⟨b, o, rfl, hlt, hc⟩ := h hp
  exact ⟨b, o, rfl, Nat.lt_of_lt_of_le hlt hb.size, fun j v hv => (hb.cell (p := ⟨b, _, none⟩) hlt).trans (hc j v hv)⟩
section
variable {P : Program}
theorem run_append_nil (w : World) (t ty e : TypeId) (i : TypeInfo) (size base : Nat) (ht : P.underlying t = some (.slice e)) (hi : P.info? e = some i) (v : Value) (n c : Nat) (xs : List Value) (hown : w.ownsRow base e size v n xs) :
    (Builtin.append_ #[t, t] ty #[v, .slice none 0 c]).run P w = .ok v w := by
  rcases hown.2 with ⟨rfl, rfl⟩ | ⟨g, cap, cur, rfl, _, _, hnc, _⟩
  · simp [Builtin.append_, run_underlying ht, sizeOf, typeInfo, hi, Builtin.lenOf, Builtin.firstCells]
  · simp [Builtin.append_, run_underlying ht, sizeOf, typeInfo, hi, Builtin.lenOf, Builtin.firstCells, hnc, storeCells]
/-- append of all of a slice, which may be nil or empty. -/
theorem app_run (w : World) (t ty e : TypeId) (i : TypeInfo) (z : Value) (size bytes base : Nat) (ht : P.underlying t = some (.slice e)) (hi : P.info? e = some i) (hz : i.zero = some z)
    (hsize : i.size = size) (hby : i.bytes = bytes) (hzs : z.cells.size = size) (hsz : 0 < size) (v : Value) (n : Nat) (xs : List Value) (hown : w.ownsRow base e size v n xs)
    (A : Option Addr) (m c : Nat) (news : List Value) (hl : news.length = m * size) (hc : CellsAt w A news) (h1 : ∀ u ∈ news, u.oneCell' = true)
    (h63 : n + m ≤ maxLen) (hbytes : (n + m) * bytes ≤ 140737488355328) (hbase : base ≤ w.heap.size) :
    ∃ v' w', (Builtin.append_ #[t, t] ty #[v, .slice A m c]).run P w = .ok v' w' ∧ w'.ownsRow base e size v' (n + m) (xs ++ news) ∧ w.grownBy w' v.ownBlock ∧ (v'.ownBlock = v.ownBlock ∨ v'.ownBlock = some w.heap.size) := by
  cases A with
  | none =>
    have hm : m = 0 := by
      rcases Nat.eq_zero_or_pos m with h | h
      · exact h
      · obtain ⟨b, o, hb, -⟩ := hc (by rw [hl]; exact Nat.mul_pos h hsz)
        cases hb
    subst hm
    have hn : news = [] := List.eq_nil_of_length_eq_zero (by rw [hl, Nat.zero_mul])
    subst hn
    refine ⟨v, w, run_append_nil w t ty e i size base ht hi v n c xs hown, by rw [List.append_nil, Nat.add_zero]; exact hown, ⟨rfl, rfl, rfl, Nat.le_refl _, fun _ _ _ => rfl⟩, .inl rfl⟩
  | some a =>
    obtain ⟨v', w', hr, h2, h3, _, h5⟩ := run_append_own_at (P := P) w base t ty e i z size bytes ht hi hz hsize hby hzs hsz v n xs hown a m c news hl (fun j u hu => by
      have hp : 0 < news.length := by have := (List.getElem?_eq_some_iff.1 hu).1; omega
      obtain ⟨b, o, hb, -, hcc⟩ := hc hp
      cases hb
      rw [Addr.add_mid]
      exact hcc j u hu) h1 h63 hbytes hbase
    exact ⟨v', w', hr, h2, h3, h5⟩
end
/-- A value of an own row stands for a slice with an address. -/
theorem own_slice {w : World} {base : Nat} {e : TypeId} {size : Nat} {v : Value} {n : Nat} {xs : List Value} (h : w.ownsRow base e size v n xs) : ∃ A c, v = .slice A n c ∧ n ≤ c ∧ (0 < size → CellsAt w A xs) := by
  have h0 := h
  rcases h.2 with ⟨rfl, rfl⟩ | ⟨g, cap, cur, rfl, hb, hg, hn, hcm, hs, ht⟩
  · exact ⟨none, 0, rfl, Nat.le_refl _, fun _ hp => (by rw [h.1] at hp; omega)⟩
  · refine ⟨some ⟨g, 0, none⟩, cap, rfl, hn, fun _ _ => ⟨g, 0, rfl, (Array.getElem?_eq_some_iff.1 hg).1, fun j v hv => ?_⟩⟩
    have := World.ownsRow.cells h0 (g := g) rfl j v hv
    rwa [Addr.add_mid] at this
/-- A cell of an own row is written. -/
theorem own_set {w : World} {base : Nat} {e : TypeId} {size : Nat} {v : Value} {n g : Nat} {xs : List Value} (h : w.ownsRow base e size v n xs) (hg : v.ownBlock = some g) (j : Nat) (u : Value) : (w.setCell ⟨g, j, none⟩ u).ownsRow base e size v n (xs.set j u) := by
  refine ⟨by rw [List.length_set]; exact h.1, ?_⟩
  rcases h.2 with ⟨rfl, rfl⟩ | ⟨g', cap, cur, rfl, hb, hgg, hn, hcm, hs, ht⟩
  · cases hg
  · have : g' = g := by simpa [Value.ownBlock] using hg
    subst this
    obtain ⟨hlt, he⟩ := Array.getElem?_eq_some_iff.1 hgg
    refine .inr ⟨g', cap, cur.setIfInBounds j u, rfl, hb, ?_, hn, hcm, by simpa using hs, ?_⟩
    · simp [World.setCell, hlt, Array.getElem_modify, he]
    · rw [Array.toList_setIfInBounds, List.take_set, ht]
/-- A slice of parts in memory from block B on, or none; not in the block hb. -/
def PartO (w : World) (B : Nat) (hb : Option Nat) (ps : List (Int × Int)) (s : Value) : Prop :=
  ∃ A c, s = .slice A ps.length c ∧ ps.length ≤ c ∧ PartsIn w A ps ∧ (0 < ps.length → ∃ g, A = some ⟨g, 0, none⟩ ∧ B ≤ g ∧ hb ≠ some g ∧ Row w g (flatP ps))
theorem Row.mono {w w' : World} {g : Nat} {xs : List Value} (h : Row w g xs) (hb : Below w.heap.size w w') : Row w' g xs := Row.keep hb h
theorem PartO.below {w w' : World} {B : Nat} {hb : Option Nat} {ps : List (Int × Int)} {s : Value} (h : PartO w B hb ps s) (hbl : Below w.heap.size w w') : PartO w' B hb ps s := by
  obtain ⟨A, c, rfl, h1, h4, h5⟩ := h
  refine ⟨A, c, rfl, h1, h4.below hbl, fun hp => ?_⟩
  obtain ⟨g, e1, e2, e3, e4⟩ := h5 hp
  exact ⟨g, e1, e2, e3, e4.mono hbl⟩
/-- .. over a write to another block. -/
theorem PartO.grown {w w' : World} {B : Nat} {hb row : Option Nat} {ps : List (Int × Int)} {s : Value} (h : PartO w B hb ps s) (hg : w.grownBy w' row) (hr : row = hb ∨ row = none) {hb' : Option Nat} (hb2 : hb' = hb ∨ hb' = some w.heap.size ∨ hb' = some (w.heap.size + 1)) : PartO w' B hb' ps s := by
  obtain ⟨A, c, rfl, h1, h4, h5⟩ := h
  have hkeep : ∀ g, hb ≠ some g → g < w.heap.size → w'.heap[g]? = w.heap[g]? := fun g hne hlt => hg.block g hlt (by
    rcases hr with rfl | rfl
    · exact fun e => hne e.symm
    · simp)
  refine ⟨A, c, rfl, h1, ⟨h4.1, fun hp => ?_⟩, fun hp => ?_⟩
  · obtain ⟨g, rfl, e2, e3, e4⟩ := h5 hp
    obtain ⟨b, o, hb, hlt, hc⟩ := h4.2 hp
    cases hb
    refine ⟨g, 0, rfl, Nat.lt_of_lt_of_le hlt hg.size, fun k hk => ?_⟩
    obtain ⟨q1, q2⟩ := hc k hk
    have hbk := hkeep g e3 hlt
    exact ⟨(World.cell?_of_block (a := ⟨g, _, none⟩) hbk).trans q1, (World.cell?_of_block (a := ⟨g, _, none⟩) hbk).trans q2⟩
  · obtain ⟨g, e1, e2, e3, e4⟩ := h5 hp
    have hlt := e4.lt
    refine ⟨g, e1, e2, ?_, e4.of_block (hkeep g e3 hlt)⟩
    rcases hb2 with rfl | rfl | rfl
    · exact e3
    · intro e; cases e; omega
    · intro e; cases e; omega
/-- A lot's three cells. -/
abbrev LotC := Int × Int × Value
def flat3 (ts : List LotC) : List Value := ts.flatMap fun t => [.int .i64 t.1, .int .i64 t.2.1, t.2.2]
theorem flat3_append (a b : List LotC) : flat3 (a ++ b) = flat3 a ++ flat3 b := by simp [flat3]
theorem flat3_length : ∀ ts, (flat3 ts).length = ts.length * 3
  | [] => rfl
  | p :: zs => by
    have := flat3_length zs
    simp only [flat3, List.flatMap_cons, List.length_append, List.length_cons, List.length_nil] at *
    omega
theorem flat3_at : ∀ (ts : List LotC) (k : Nat) (h : k < ts.length), (flat3 ts)[k * 3]? = some (.int .i64 ts[k].1) ∧ (flat3 ts)[k * 3 + 1]? = some (.int .i64 ts[k].2.1) ∧ (flat3 ts)[k * 3 + 2]? = some ts[k].2.2
  | p :: zs, 0, _ => by simp [flat3]
  | p :: zs, k + 1, h => by
    have := flat3_at zs k (by simpa using h)
    have e : flat3 (p :: zs) = .int .i64 p.1 :: .int .i64 p.2.1 :: p.2.2 :: flat3 zs := by simp [flat3]
    rw [e, show (k + 1) * 3 = k * 3 + 1 + 1 + 1 by omega]
    simp only [List.getElem?_cons_succ, List.getElem_cons_succ]
    exact this
theorem flat3_set (ts : List LotC) (k : Nat) (h : k < ts.length) (s : Value) : (flat3 ts).set (k * 3 + 2) s = flat3 (ts.set k (ts[k].1, ts[k].2.1, s)) := by
  induction ts generalizing k with
  | nil => simp at h
  | cons p zs ih =>
    have e : ∀ (q : LotC) zs, flat3 (q :: zs) = .int .i64 q.1 :: .int .i64 q.2.1 :: q.2.2 :: flat3 zs := fun q zs => by simp [flat3]
    cases k with
    | zero => simp [e]
    | succ k =>
      rw [e, show (k + 1) * 3 + 2 = (k * 3 + 2) + 1 + 1 + 1 by omega]
      simp only [List.set_cons_succ, List.getElem_cons_succ]
      rw [ih k (by simpa using h), e]
theorem flat3_one (ts : List LotC) (h : ∀ t ∈ ts, t.2.2.oneCell' = true) : ∀ u ∈ flat3 ts, u.oneCell' = true := by
  intro u hu
  unfold flat3 at hu
  obtain ⟨t, ht, hu⟩ := List.mem_flatMap.1 hu
  simp only [List.mem_cons, List.not_mem_nil, or_false] at hu
  rcases hu with rfl | rfl | rfl
  · rfl
  · rfl
  · exact h t ht
/-- v is a list of lots in memory from block B on, its parts too. -/
def OwnL (w : World) (B : Nat) (v : Value) (ls : List LotD) : Prop :=
  ∃ ts : List LotC, w.ownsRow B 37 3 v ls.length (flat3 ts) ∧ ts.length = ls.length ∧ ∀ i (h : i < ls.length) (h' : i < ts.length), ts[i].1 = ls[i].kind ∧ ts[i].2.1 = ls[i].mass ∧ I64 ls[i].kind ∧ I64 ls[i].mass ∧ PartO w B v.ownBlock ls[i].parts ts[i].2.2
theorem OwnL.nil (w : World) (B : Nat) : OwnL w B (.slice none 0 0) [] := ⟨[], World.ownsRow_nil _ _ _ _, rfl, fun i h => by simp at h⟩
theorem OwnL.below {w w' : World} {B : Nat} {v : Value} {ls : List LotD} (h : OwnL w B v ls) (hb : Below w.heap.size w w') : OwnL w' B v ls := by
  obtain ⟨ts, h1, h2, h3⟩ := h
  refine ⟨ts, World.ownsRow.kept h1 (row := none) ⟨hb.os, hb.tape, hb.output, hb.size, fun k hk _ => hb.block k hk⟩ (by cases v.ownBlock <;> simp), h2, fun i hi hi' => ?_⟩
  obtain ⟨e1, e2, e3, e4, e5⟩ := h3 i hi hi'
  exact ⟨e1, e2, e3, e4, e5.below hb⟩
theorem OwnL.lt {w : World} {B : Nat} {v : Value} {ls : List LotD} (h : OwnL w B v ls) : ∀ g, v.ownBlock = some g → B ≤ g ∧ g < w.heap.size := by
  obtain ⟨ts, h1, -⟩ := h
  exact World.ownsRow.lt h1
/-- It reads as a genealogy. -/
theorem OwnL.lots {w : World} {B : Nat} {v : Value} {ls : List LotD} (h : OwnL w B v ls) : ∃ A c, v = .slice A ls.length c ∧ ls.length ≤ c ∧ LotsIn w A ls := by
  obtain ⟨ts, h1, h2, h3⟩ := h
  obtain ⟨A, c, hv, hn, hc⟩ := own_slice h1
  refine ⟨A, c, hv, hn, fun hp => ?_⟩
  obtain ⟨b, o, rfl, hlt, hcc⟩ := hc (by omega) (by rw [flat3_length, h2]; omega)
  refine ⟨b, o, rfl, fun i hi => ?_⟩
  obtain ⟨e1, e2, e3, e4, A', c', e5, e6, e7, -⟩ := h3 i hi (by omega)
  obtain ⟨q1, q2, q3⟩ := flat3_at ts i (by omega)
  rw [e1] at q1
  rw [e2] at q2
  rw [e5] at q3
  have r1 := hcc _ _ q1
  have r2 := hcc _ _ q2
  have r3 := hcc _ _ q3
  exact ⟨e3, e4, hlt, r1, by rw [Nat.add_assoc]; exact r2, A', c', by rw [Nat.add_assoc]; exact r3, e6, e7⟩
/-- One more lot. -/
theorem OwnL.app {w w' : World} {B : Nat} {v v' : Value} {ls : List LotD} {x : LotD} {s : Value} (h : OwnL w B v ls) (hx : I64 x.kind ∧ I64 x.mass) (hs : PartO w B v.ownBlock x.parts s)
    (hr : ∀ ts : List LotC, w.ownsRow B 37 3 v ls.length (flat3 ts) → w'.ownsRow B 37 3 v' (ls.length + 1) (flat3 ts ++ [.int .i64 x.kind, .int .i64 x.mass, s])) (hg : w.grownBy w' v.ownBlock) (hd : v'.ownBlock = v.ownBlock ∨ v'.ownBlock = some w.heap.size ∨ v'.ownBlock = some (w.heap.size + 1)) : OwnL w' B v' (ls ++ [x]) := by
  obtain ⟨ts, h1, h2, h3⟩ := h
  refine ⟨ts ++ [(x.kind, x.mass, s)], ?_, by simp [h2], fun i hi hi' => ?_⟩
  · rw [flat3_append, List.length_append]
    exact hr ts h1
  · by_cases hil : i < ls.length
    · rw [List.getElem_append_left hil, List.getElem_append_left (by omega)]
      obtain ⟨e1, e2, e3, e4, e5⟩ := h3 i hil (by omega)
      exact ⟨e1, e2, e3, e4, e5.grown hg (.inl rfl) hd⟩
    · have : i = ls.length := by simp at hi; omega
      subst this
      rw [List.getElem_append_right (Nat.le_refl _), List.getElem_append_right (by omega)]
      simp only [Nat.sub_self, h2, List.getElem_cons_zero]
      exact ⟨by first | trivial | rfl, by first | trivial | rfl, hx.1, hx.2, hs.grown hg (.inl rfl) hd⟩
end Go.Proofs.Ytdgmpaijpjkeoaa
/-
  slices.Clone OF LOTS AND OF PARTS; copied (the program's).
-/
namespace Go.Proofs.Ytdgmpaijpjkeoaa
open Go.RowKit
section
variable {P : Program} {w : World} {ops : Array Oper} {rest : List Oper} {o : Oper} {a : Act} {Q : Exit → Act → World → Prop}
theorem exec_append (s x : Operand) (t : TypeId) (ho : o.op = .call { callee := .builtin .append, args := #[s, x], argTypes := #[t, t] }) (v y v' : Value) (w' : World) (hs : a.eval s = v) (hx : a.eval x = y)
    (hr : (Builtin.append_ #[t, t] o.type #[v, y]).run P w = .ok v' w') : (execOp a.eval o).run P w = .ok (.value v') w' := by
  unfold execOp
  simp only [ho, resolve, invoke, builtin, Sem.run_bind, Sem.run_pure, Result.andThen_ok, List.map_toArray, List.map_cons, List.map_nil, hs, hx, hr]
theorem wpList_app (hgd : o.guard = none) (s x : Operand) (t : TypeId) (ho : o.op = .call { callee := .builtin .append, args := #[s, x], argTypes := #[t, t] }) (v y v' : Value) (w' : World) (hs : a.eval s = v) (hx : a.eval x = y)
    (hr : (Builtin.append_ #[t, t] o.type #[v, y]).run P w = .ok v' w') (h : wpList P ops Q rest (a.put o.dst v') w') : wpList P ops Q (o :: rest) a w := by
  refine wpList_plain hgd fun K hK => ?_
  unfold Oper.wp
  rw [exec_append s x t ho v y v' w' hs hx hr]
  exact hK _ _ h
end
theorem lotInfo3 : (Try.prog.info? 37).map (fun i => (i.zero, i.size, i.bytes)) = some (some (.agg #[.int .i64 0, .int .i64 0, .slice none 0 0]), 3, 40) := by kernel_rfl
theorem partInfo3 : (Try.prog.info? 39).map (fun i => (i.zero, i.size, i.bytes)) = some (some (.agg #[.int .i64 0, .int .i64 0]), 2, 16) := by kernel_rfl
theorem empty_own (w : World) (e : TypeId) (size : Nat) : (w.alloc (.cells #[] e)).ownsRow w.heap.size e size (.slice (some ⟨w.heap.size, 0, none⟩) 0 0) 0 [] :=
  ⟨by simp, .inr ⟨w.heap.size, 0, #[], rfl, Nat.le_refl _, heap_alloc_new w _, Nat.le_refl _, Nat.zero_le _, by simp, by simp⟩⟩
theorem flatP_cells {w : World} {A : Option Addr} {ps : List (Int × Int)} (h : PartsIn w A ps) : CellsAt w A (flatP ps) := fun hp => by
  rw [flatP_length] at hp
  obtain ⟨b, o, rfl, hlt, hc⟩ := h.2 (by omega)
  refine ⟨b, o, rfl, hlt, fun j v hv => ?_⟩
  have hj := (List.getElem?_eq_some_iff.1 hv).1
  rw [flatP_length] at hj
  obtain ⟨q1, q2⟩ := hc (j / 2) (by omega)
  obtain ⟨r1, r2⟩ := flatP_at ps (j / 2) (by omega)
  by_cases hm : j % 2 = 0
  · rw [show j = j / 2 * 2 by omega] at hv
    rw [hv] at r1
    cases r1
    rw [show o + j = o + j / 2 * 2 by omega]
    exact q1
  · rw [show j = j / 2 * 2 + 1 by omega] at hv
    rw [hv] at r2
    cases r2
    rw [show o + j = o + j / 2 * 2 + 1 by omega]
    exact q2
theorem flatP_one (ps : List (Int × Int)) : ∀ u ∈ flatP ps, u.oneCell' = true := by
  intro u hu
  unfold flatP at hu
  obtain ⟨t, ht, hu⟩ := List.mem_flatMap.1 hu
  simp only [List.mem_cons, List.not_mem_nil, or_false] at hu
  rcases hu with rfl | rfl <;> rfl
/-- append(empty, parts...): the parts in new memory. -/
theorem parts_run (w : World) (ty : TypeId) (ps : List (Int × Int)) (A : Option Addr) (c : Nat) (hP : PartsIn w A ps) (hn : ps.length ≤ 1000) (base : Nat) (v : Value) (hown : w.ownsRow base 39 2 v 0 []) (hb : base ≤ w.heap.size) :
    ∃ s w', (Builtin.append_ #[35, 35] ty #[v, .slice A ps.length c]).run Try.prog w = .ok s w' ∧ PartO w' base none ps s ∧ w.grownBy w' v.ownBlock := by
  obtain ⟨i0, hi, hz0, hz1, hz2⟩ := info_parts partInfo3
  obtain ⟨s, w', h1, h2, h3, -⟩ := app_run (P := Try.prog) w 35 ty 39 i0 (.agg #[.int .i64 0, .int .i64 0]) 2 16 base Try.underlying35 hi hz0 hz1 hz2 rfl (by decide) v 0 [] hown A ps.length c (flatP ps) (flatP_length ps) (flatP_cells hP) (flatP_one ps) (by unfold maxLen; omega) (by omega) hb
  rw [Nat.zero_add, List.nil_append] at h2
  have hrow := h2
  obtain ⟨A', c', rfl, hle, hc⟩ := own_slice h2
  refine ⟨_, w', h1, ⟨A', c', rfl, hle, ⟨hP.1, fun hp => ?_⟩, fun hp => ?_⟩, h3⟩
  · obtain ⟨b, o, rfl, hlt, hcc⟩ := hc (by decide) (by rw [flatP_length]; omega)
    refine ⟨b, o, rfl, hlt, fun k hk => ?_⟩
    obtain ⟨r1, r2⟩ := flatP_at ps k hk
    exact ⟨hcc _ _ r1, hcc _ _ r2⟩
  · rcases h2.2 with ⟨e, h0⟩ | ⟨g, cap, cur, e, hB, -⟩
    · omega
    · cases e
      exact ⟨g, rfl, hB, by simp, (Row.of_own hrow).1⟩
set_option maxRecDepth 100000 in
theorem clone_parts (ps : List (Int × Int)) (A : Option Addr) (c : Nat) (w : World) (hP : PartsIn w A ps) (hn : ps.length ≤ 1000) :
    Calls Try.prog 98 #[.slice A ps.length c] w fun e w' => ∃ s, e = .returned s ∧ PartO w' w.heap.size none ps s ∧ Below w.heap.size w w' := by
  have HP := Lib.hid hP
  clear hP
  cases A with
  | none =>
    have h0 : ps = [] := by
      cases ps with
      | nil => rfl
      | cons p r => obtain ⟨b, o, hb, -⟩ := HP.out.2 (by simp); cases hb
    subst h0
    have he : ∀ w : World, (binOp .eql 35 (.slice none 0 c) (.slice none 0 0)).run Try.prog w = .ok (.bool true) w := fun _ => rfl
    go_enter Try.func98, Try.ntmps98
    go_wp2
    go_ret
    exact ⟨_, rfl, ⟨none, 0, rfl, Nat.le_refl _, ⟨by simp, fun h => by simp at h⟩, fun h => by simp at h⟩, Below.refl _ _⟩
  | some ad =>
    have hP2 := HP.out.below ((Below.refl w.heap.size w).alloc (Nat.le_refl _) (.cells #[] 39))
    obtain ⟨s, w', h1, h2, h3⟩ := parts_run (w.alloc (.cells #[] 39)) 35 ps (some ad) c hP2 hn w.heap.size _ (empty_own w _ _) (by simp)
    have H := Lib.hid (And.intro h2 (below_grown ((Below.refl w.heap.size w).alloc (Nat.le_refl _) (.cells #[] 39)) h3 (Nat.le_refl _) (by simp)))
    have HR := Lib.hid h1
    clear h1 h2 h3 hP2
    have he : ∀ w : World, (binOp .eql 35 (.slice (some ad) ps.length c) (.slice none 0 0)).run Try.prog w = .ok (.bool false) w := fun _ => rfl
    go_enter Try.func98, Try.ntmps98
    go_wp2_with (at_builtin; refine wpList_app rfl (.tmp 5) (.tmp 6) 35 rfl _ _ s w' rfl rfl HR.out ?_)
    go_ret
    exact ⟨s, rfl, H.out⟩
end Go.Proofs.Ytdgmpaijpjkeoaa
/-
  slices.Clone OF LOTS; copied (the program's).
-/
namespace Go.Proofs.Ytdgmpaijpjkeoaa
open Go.RowKit
/-- Three cells are a lot, whose parts lie in the world w. -/
def TOK (w : World) (t : LotC) (x : LotD) : Prop := t.1 = x.kind ∧ t.2.1 = x.mass ∧ I64 x.kind ∧ I64 x.mass ∧ ∃ A c, t.2.2 = .slice A x.parts.length c ∧ x.parts.length ≤ c ∧ PartsIn w A x.parts
theorem TOK.one {w : World} {t : LotC} {x : LotD} (h : TOK w t x) : t.2.2.oneCell' = true := by
  obtain ⟨-, -, -, -, A, c, e, -⟩ := h
  rw [e]; rfl
theorem lots_ts (w : World) (b : Nat) : ∀ (l : List LotD) (o : Nat), (∀ i (h : i < l.length), LotAt w b (o + i * 3) l[i]) → ∃ ts : List LotC, ts.length = l.length ∧ (∀ i (h : i < l.length) (h' : i < ts.length), TOK w ts[i] l[i]) ∧ ∀ j v, (flat3 ts)[j]? = some v → w.cell? ⟨b, o + j, none⟩ = some v
  | [], _, _ => ⟨[], rfl, fun i h => by simp at h, fun j v h => by simp [flat3] at h⟩
  | x :: l, o, h => by
    obtain ⟨ts, h1, h2, h3⟩ := lots_ts w b l (o + 3) (fun i hi => by
      have := h (i + 1) (by simpa using hi)
      rw [show o + 3 + i * 3 = o + (i + 1) * 3 by omega]
      exact this)
    obtain ⟨e1, e2, e3, e4, e5, A, c, e6, e8, e7⟩ := h 0 (by simp)
    simp only [Nat.zero_mul, Nat.add_zero, List.getElem_cons_zero] at e1 e2 e4 e5 e6 e7 e8
    refine ⟨(x.kind, x.mass, .slice A x.parts.length c) :: ts, by simp [h1], fun i hi hi' => ?_, fun j v hv => ?_⟩
    · cases i with
      | zero => exact ⟨rfl, rfl, e1, e2, A, c, rfl, e8, e7⟩
      | succ i => exact h2 i (by simpa using hi) (by simpa using hi')
    · have e : flat3 ((x.kind, x.mass, Value.slice A x.parts.length c) :: ts) = .int .i64 x.kind :: .int .i64 x.mass :: .slice A x.parts.length c :: flat3 ts := by simp [flat3]
      rw [e] at hv
      match j, hv with
      | 0, hv => simp at hv; subst hv; exact e4
      | 1, hv => simp at hv; subst hv; exact e5
      | 2, hv => simp at hv; subst hv; exact e6
      | j + 3, hv =>
        simp only [List.getElem?_cons_succ] at hv
        have := h3 j v hv
        rwa [show o + 3 + j = o + (j + 3) by omega] at this
theorem lots_cells {w : World} {A : Option Addr} {l : List LotD} (h : LotsIn w A l) : ∃ ts : List LotC, ts.length = l.length ∧ (∀ i (h : i < l.length) (h' : i < ts.length), TOK w ts[i] l[i]) ∧ CellsAt w A (flat3 ts) := by
  rcases Nat.eq_zero_or_pos l.length with h0 | hp
  · exact ⟨[], h0.symm, fun i hi => by omega, fun hp => by simp [flat3] at hp⟩
  · obtain ⟨b, o, rfl, hc⟩ := h hp
    obtain ⟨ts, h1, h2, h3⟩ := lots_ts w b l o hc
    exact ⟨ts, h1, h2, fun _ => ⟨b, o, rfl, (hc 0 hp).2.2.1, h3⟩⟩
/-- append(s, lots...): their cells behind those that are there. -/
theorem lots_run (w : World) (ty : TypeId) (A : Option Addr) (m c : Nat) (ts : List LotC) (hm : ts.length = m) (hone : ∀ t ∈ ts, t.2.2.oneCell' = true) (hc : CellsAt w A (flat3 ts)) (base : Nat) (v : Value) (n : Nat) (xs : List Value) (hn : n + m ≤ 100000) (hown : w.ownsRow base 37 3 v n xs) (hb : base ≤ w.heap.size) :
    ∃ v' w', (Builtin.append_ #[22, 22] ty #[v, .slice A m c]).run Try.prog w = .ok v' w' ∧ w'.ownsRow base 37 3 v' (n + m) (xs ++ flat3 ts) ∧ w.grownBy w' v.ownBlock ∧ (v'.ownBlock = v.ownBlock ∨ v'.ownBlock = some w.heap.size) := by
  obtain ⟨i0, hi, hz0, hz1, hz2⟩ := info_parts lotInfo3
  exact app_run (P := Try.prog) w 22 ty 37 i0 (.agg #[.int .i64 0, .int .i64 0, .slice none 0 0]) 3 40 base Try.underlying22 hi hz0 hz1 hz2 rfl (by decide) v n xs hown A m c (flat3 ts) (by rw [flat3_length, hm]) hc (flat3_one ts hone) (by unfold maxLen; omega) (by omega) hb
set_option maxRecDepth 100000 in
theorem clone_lots (l : List LotD) (A : Option Addr) (c : Nat) (w : World) (hL : LotsIn w A l) (hn : l.length ≤ 1000) :
    Calls Try.prog 97 #[.slice A l.length c] w fun e w' => ∃ v ts, e = .returned v ∧ w'.ownsRow w.heap.size 37 3 v l.length (flat3 ts) ∧ ts.length = l.length ∧ (∀ i (h : i < l.length) (h' : i < ts.length), TOK w ts[i] l[i]) ∧ Below w.heap.size w w' := by
  have HL := Lib.hid hL
  clear hL
  cases A with
  | none =>
    have h0 : l = [] := by
      cases l with
      | nil => rfl
      | cons p r => obtain ⟨b, o, hb, -⟩ := HL.out (by simp); cases hb
    subst h0
    have he : ∀ w : World, (binOp .eql 22 (.slice none 0 c) (.slice none 0 0)).run Try.prog w = .ok (.bool true) w := fun _ => rfl
    go_enter Try.func97, Try.ntmps97
    go_wp2
    go_ret
    exact ⟨_, [], rfl, World.ownsRow_nil _ _ _ _, rfl, fun i hi => by simp at hi, Below.refl _ _⟩
  | some ad =>
    have hal := (Below.refl w.heap.size w).alloc (Nat.le_refl _) (.cells #[] 37)
    obtain ⟨ts, t1, t2, t3⟩ := lots_cells HL.out
    obtain ⟨v, w', h1, h2, h3, -⟩ := lots_run (w.alloc (.cells #[] 37)) 22 (some ad) l.length c ts t1 (fun t ht => by
      obtain ⟨i, hi, rfl⟩ := List.getElem_of_mem ht
      exact (t2 i (by omega) hi).one) (t3.below hal) w.heap.size _ 0 [] (by omega) (empty_own w _ _) (by simp)
    rw [Nat.zero_add, List.nil_append] at h2
    have H := Lib.hid (And.intro h2 (And.intro t1 (And.intro t2 (below_grown hal h3 (Nat.le_refl _) (by simp)))))
    have HR := Lib.hid h1
    clear h1 h2 h3 hal t1 t2 t3
    have he : ∀ w : World, (binOp .eql 22 (.slice (some ad) l.length c) (.slice none 0 0)).run Try.prog w = .ok (.bool false) w := fun _ => rfl
    go_enter Try.func97, Try.ntmps97
    go_wp2_with (at_builtin; refine wpList_app rfl (.tmp 5) (.tmp 6) 22 rfl _ _ v w' rfl rfl HR.out ?_)
    go_ret
    exact ⟨v, ts, rfl, H.out⟩
/-- The world in the loop of copied. -/
def CopW (w wr : World) (g cap : Nat) (l : List LotD) (k : Nat) : Prop :=
  ∃ ts : List LotC, wr.ownsRow w.heap.size 37 3 (.slice (some ⟨g, 0, none⟩) l.length cap) l.length (flat3 ts) ∧ ts.length = l.length ∧ (∀ i (h : i < l.length) (h' : i < ts.length), ts[i].1 = l[i].kind ∧ ts[i].2.1 = l[i].mass ∧ I64 l[i].kind ∧ I64 l[i].mass ∧ (i < k → PartO wr w.heap.size (some g) l[i].parts ts[i].2.2) ∧ (k ≤ i → TOK w ts[i] l[i])) ∧ Below w.heap.size w wr
theorem CopW.own {w wr : World} {g cap : Nat} {l : List LotD} (h : CopW w wr g cap l l.length) : OwnL wr w.heap.size (.slice (some ⟨g, 0, none⟩) l.length cap) l := by
  obtain ⟨ts, h1, h2, h3, h4⟩ := h
  refine ⟨ts, h1, h2, fun i hi hi' => ?_⟩
  obtain ⟨e1, e2, e3, e4, e5, -⟩ := h3 i hi hi'
  exact ⟨e1, e2, e3, e4, e5 hi⟩
theorem CopW.at {w wr : World} {g cap : Nat} {l : List LotD} {k : Nat} (h : CopW w wr g cap l k) (hk : k < l.length) : ∃ A c, wr.cell? ⟨g, k * 3 + 2, none⟩ = some (.slice A l[k].parts.length c) ∧ PartsIn wr A l[k].parts ∧ wr.frozen? ⟨g, k * 3 + 2, none⟩ = false ∧ g < wr.heap.size ∧ w.heap.size ≤ g := by
  obtain ⟨ts, h1, h2, h3, h4⟩ := h
  obtain ⟨-, -, -, -, -, e6⟩ := h3 k hk (by omega)
  obtain ⟨-, -, -, -, A, c, e, -, hP⟩ := e6 (Nat.le_refl _)
  have hlt := World.ownsRow.lt h1 g rfl
  have hr := (Row.of_own h1).1
  obtain ⟨-, -, q⟩ := flat3_at ts k (by omega)
  have := World.ownsRow.cells h1 (g := g) rfl _ _ q
  rw [Addr.add_mid, Nat.zero_add, e] at this
  exact ⟨A, c, this, hP.below h4, hr.free _, hlt.2, hlt.1⟩
theorem CopW.step {w wr w2 : World} {g cap : Nat} {l : List LotD} {k : Nat} (h : CopW w wr g cap l k) (hk : k < l.length) {s : Value} (hs : PartO w2 wr.heap.size none l[k].parts s) (hb : Below wr.heap.size wr w2) : CopW w (w2.setCell ⟨g, k * 3 + 2, none⟩ s) g cap l (k + 1) := by
  obtain ⟨ts, h1, h2, h3, h4⟩ := h
  have hlt := World.ownsRow.lt h1 g rfl
  have h1' : w2.ownsRow w.heap.size 37 3 (.slice (some ⟨g, 0, none⟩) l.length cap) l.length (flat3 ts) := World.ownsRow.kept h1 (row := none) ⟨hb.os, hb.tape, hb.output, hb.size, fun k hk _ => hb.block k hk⟩ (by simp [Value.ownBlock])
  have hgr : w2.grownBy (w2.setCell ⟨g, k * 3 + 2, none⟩ s) (some g) := ⟨rfl, rfl, rfl, by simp [World.setCell], fun q _ hne => Below.heap_setCell w2 ⟨g, k * 3 + 2, none⟩ s q (fun e => hne (by rw [e]))⟩
  have hb4 := h4.trans (hb.mono h4.size)
  refine ⟨ts.set k (ts[k].1, ts[k].2.1, s), ?_, by simp [h2], fun i hi hi' => ?_, hb4.setCell hlt.1 _⟩
  · have := own_set h1' (g := g) rfl (k * 3 + 2) s
    rwa [flat3_set ts k (by omega)] at this
  · by_cases hik : i = k
    · subst hik
      obtain ⟨e1, e2, e3, e4, -, -⟩ := h3 i hi (by omega)
      rw [List.getElem_set_self]
      refine ⟨e1, e2, e3, e4, fun _ => ?_, fun h => by omega⟩
      obtain ⟨A, c, rfl, q1, q2, q3⟩ := hs
      have : PartO w2 w.heap.size (some g) l[i].parts (.slice A l[i].parts.length c) := ⟨A, c, rfl, q1, q2, fun hp => by
        obtain ⟨g', e, r1, -, r3⟩ := q3 hp
        exact ⟨g', e, Nat.le_trans h4.size r1, fun e => by cases e; omega, r3⟩⟩
      exact this.grown hgr (.inl rfl) (.inl rfl)
    · rw [List.getElem_set_ne (fun e => hik e.symm)]
      obtain ⟨e1, e2, e3, e4, e5, e6⟩ := h3 i hi (by omega)
      refine ⟨e1, e2, e3, e4, fun h => ?_, fun h => e6 (by omega)⟩
      exact ((e5 (by omega)).below hb).grown hgr (.inl rfl) (.inl rfl)
set_option maxRecDepth 100000 in
set_option maxHeartbeats 1000000 in
theorem copied_any (l : List LotD) (hl : l.length ≤ 1000) (hps : ∀ x ∈ l, x.parts.length ≤ 1000) (A : Option Addr) (c : Nat) (w : World) (hL : LotsIn w A l) :
    Calls Try.prog 72 #[.slice A l.length c] w fun e w' => ∃ v, e = .returned v ∧ OwnL w' w.heap.size v l ∧ Below w.heap.size w w' := by
  have HL := Lib.hid hL
  have HPS := Lib.hid hps
  clear hL hps
  go_enter Try.func72, Try.ntmps72
  go_wp2_with fail
  refine (clone_lots l A c w HL.out hl).mono ?_
  rintro e w1 ⟨v, ts, rfl, h1, h2, h3, h4⟩
  rcases id h1.2 with ⟨rfl, h0⟩ | ⟨g, cap, cur, rfl, -⟩
  · have hl0 : l = [] := List.eq_nil_of_length_eq_zero h0
    subst hl0
    have HB := Lib.hid h4
    clear h1 h2 h3 h4 h0
    go_wp2
    go_loopw [9] (fun t wr => t = .int .i64 0 ∧ wr = w1) (fun t _ => 0)
    case atStart => exact ⟨by first | trivial | rfl, by first | trivial | rfl⟩
    case round =>
      obtain ⟨rfl, rfl⟩ := hrel
      go_wp2
      go_ret
      exact ⟨_, rfl, OwnL.nil _ _, HB.out⟩
  · have C0 := Lib.hid (show CopW w w1 g cap l 0 from ⟨ts, h1, h2, fun i hi hi' => by
      obtain ⟨e1, e2, e3, e4, e5⟩ := h3 i hi hi'
      exact ⟨e1, e2, e3, e4, fun h => by omega, fun _ => ⟨e1, e2, e3, e4, e5⟩⟩, h4⟩)
    clear h1 h2 h3 h4 cur
    go_wp2
    go_loopw [9] (fun t wr => ∃ k : Nat, t = .int .i64 k ∧ k ≤ l.length ∧ Hid (CopW w wr g cap l k)) (fun t _ => l.length - (intOf t).toNat)
    case atStart => exact ⟨0, rfl, by omega, C0⟩
    case round =>
      clear C0
      obtain ⟨k, rfl, hk, hr⟩ := hrel
      by_cases hlt : k < l.length
      · obtain ⟨A', c', q1, q2, q3, q4, q5⟩ := hr.out.at hlt
        have hpl := HPS.out _ (List.getElem_mem hlt)
        have HST := Lib.hid (fun s w2 => hr.out.step (s := s) (w2 := w2) hlt)
        obtain ⟨ps, hps⟩ : ∃ ps, ps = l[k].parts := ⟨_, rfl⟩
        rw [← hps] at q1 q2 hpl HST
        have HP := Lib.hid q2
        clear hps q2
        go_wp2_with fail
        refine (clone_parts ps A' c' wr HP.out hpl).mono ?_
        rintro e w2 ⟨s, rfl, hs, hb2⟩
        have r1 := (hb2.cell (p := ⟨g, k * 3 + 2, none⟩) q4).trans q1
        have r2 := (hb2.frozen (p := ⟨g, k * 3 + 2, none⟩) q4).trans q3
        have r3 := Nat.lt_of_lt_of_le q4 hb2.size
        have H2 := Lib.hid (HST.out s w2 hs hb2)
        obtain ⟨A2, c2, rfl, -⟩ := hs
        clear hb2 HST HP q1 q3 q4 q5 hr
        go_wp2
        go_roundw
        case rel => exact ⟨k + 1, by go_num, by omega, H2⟩
        case measure => simp [intOf]; omega
      · obtain rfl : k = l.length := by omega
        have HO := Lib.hid (And.intro hr.out.own (show Below w.heap.size w wr from by obtain ⟨ts, -, -, -, h4⟩ := hr.out; exact h4))
        clear hr
        go_wp2
        go_ret
        exact ⟨_, rfl, HO.out⟩
end Go.Proofs.Ytdgmpaijpjkeoaa
