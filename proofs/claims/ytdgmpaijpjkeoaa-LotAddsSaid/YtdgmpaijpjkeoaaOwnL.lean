/-
  LISTS OF LOTS AND OF PARTS IN NEW MEMORY.
-/
import Derived.Test.YtdgmpaijpjkeoaaOwn
import Derived.Test.YtdgmpaijpjkeoaaRats
import Derived.Deep.MidRow
namespace Go.Proofs.Ytdgmpaijpjkeoaa
open Go.RowKit
/-- The cells cs lie at A. -/
def CellsAt (w : World) (A : Option Addr) (cs : List Value) : Prop := 0 < cs.length → ∃ b o, A = some ⟨b, o, none⟩ ∧ b < w.heap.size ∧ ∀ j v, cs[j]? = some v → w.cell? ⟨b, o + j, none⟩ = some v
theorem CellsAt.below {w w' : World} {A : Option Addr} {cs : List Value} (h : CellsAt w A cs) (hb : Below w.heap.size w w') : CellsAt w' A cs := fun hp => by
  obtain ⟨b, o, rfl, hlt, hc⟩ := h hp
  exact ⟨b, o, rfl, Nat.lt_of_lt_of_le hlt hb.size, fun j v hv => (hb.cell (p := ⟨b, _, none⟩) hlt).trans (hc j v hv)⟩
section
variable {P : Program}
theorem run_append_nil (w : World) (t ty e : TypeId) (i : TypeInfo) (size base : Nat) (ht : P.underlying t = some (.slice e)) (hi : P.info? e = some i) (v : Value) (n c : Nat) (xs : List Value) (hown : w.ownsRow base e size v n xs) :
    (Builtin.append_ #[t, t] ty #[v, .slice none 0 c]).run P w = .ok v w := by
  rcases hown.2 with ⟨rfl, rfl⟩ | ⟨g, cap, cur, rfl, _, _, hnc, _⟩
  · simp [Builtin.append_, run_underlying ht, sizeOf, typeInfo, hi, Builtin.lenOf, Builtin.firstCells]
  · simp [Builtin.append_, run_underlying ht, sizeOf, typeInfo, hi, Builtin.lenOf, Builtin.firstCells, hnc, storeCells]
/-- append of all of a slice, which may be nil or empty. -/
theorem app_run (w : World) (t ty e : TypeId) (i : TypeInfo) (z : Value) (size bytes base : Nat) (ht : P.underlying t = some (.slice e)) (hi : P.info? e = some i) (hz : i.zero = some z)
    (hsize : i.size = size) (hby : i.bytes = bytes) (hzs : z.cells.size = size) (hsz : 0 < size) (v : Value) (n : Nat) (xs : List Value) (hown : w.ownsRow base e size v n xs)
    (A : Option Addr) (m c : Nat) (news : List Value) (hl : news.length = m * size) (hc : CellsAt w A news) (h1 : ∀ u ∈ news, u.oneCell' = true)
    (h63 : n + m ≤ maxLen) (hbytes : (n + m) * bytes ≤ 140737488355328) (hbase : base ≤ w.heap.size) :
    ∃ v' w', (Builtin.append_ #[t, t] ty #[v, .slice A m c]).run P w = .ok v' w' ∧ w'.ownsRow base e size v' (n + m) (xs ++ news) ∧ w.grownBy w' v.ownBlock ∧ (v'.ownBlock = v.ownBlock ∨ v'.ownBlock = some w.heap.size) := by
  cases A with
  | none =>
    have hm : m = 0 := by
      rcases Nat.eq_zero_or_pos m with h | h
      · exact h
      · obtain ⟨b, o, hb, -⟩ := hc (by rw [hl]; exact Nat.mul_pos h hsz)
        cases hb
    subst hm
    have hn : news = [] := List.eq_nil_of_length_eq_zero (by rw [hl, Nat.zero_mul])
    subst hn
    refine ⟨v, w, run_append_nil w t ty e i size base ht hi v n c xs hown, by rw [List.append_nil, Nat.add_zero]; exact hown, ⟨rfl, rfl, rfl, Nat.le_refl _, fun _ _ _ => rfl⟩, .inl rfl⟩
  | some a =>
    obtain ⟨v', w', hr, h2, h3, _, h5⟩ := run_append_own_at (P := P) w base t ty e i z size bytes ht hi hz hsize hby hzs hsz v n xs hown a m c news hl (fun j u hu => by
      have hp : 0 < news.length := by have := (List.getElem?_eq_some_iff.1 hu).1; omega
      obtain ⟨b, o, hb, -, hcc⟩ := hc hp
      cases hb
      rw [Addr.add_mid]
      exact hcc j u hu) h1 h63 hbytes hbase
    exact ⟨v', w', hr, h2, h3, h5⟩
end
/-- A value of an own row stands for a slice with an address. -/
theorem own_slice {w : World} {base : Nat} {e : TypeId} {size : Nat} {v : Value} {n : Nat} {xs : List Value} (h : w.ownsRow base e size v n xs) : ∃ A c, v = .slice A n c ∧ n ≤ c ∧ (0 < size → CellsAt w A xs) := by
  have h0 := h
  rcases h.2 with ⟨rfl, rfl⟩ | ⟨g, cap, cur, rfl, hb, hg, hn, hcm, hs, ht⟩
  · exact ⟨none, 0, rfl, Nat.le_refl _, fun _ hp => (by rw [h.1] at hp; omega)⟩
  · refine ⟨some ⟨g, 0, none⟩, cap, rfl, hn, fun _ _ => ⟨g, 0, rfl, (Array.getElem?_eq_some_iff.1 hg).1, fun j v hv => ?_⟩⟩
    have := World.ownsRow.cells h0 (g := g) rfl j v hv
    rwa [Addr.add_mid] at this
/-- A cell of an own row is written. -/
theorem own_set {w : World} {base : Nat} {e : TypeId} {size : Nat} {v : Value} {n g : Nat} {xs : List Value} (h : w.ownsRow base e size v n xs) (hg : v.ownBlock = some g) (j : Nat) (u : Value) : (w.setCell ⟨g, j, none⟩ u).ownsRow base e size v n (xs.set j u) := by
  refine ⟨by rw [List.length_set]; exact h.1, ?_⟩
  rcases h.2 with ⟨rfl, rfl⟩ | ⟨g', cap, cur, rfl, hb, hgg, hn, hcm, hs, ht⟩
  · cases hg
  · have : g' = g := by simpa [Value.ownBlock] using hg
    subst this
    obtain ⟨hlt, he⟩ := Array.getElem?_eq_some_iff.1 hgg
    refine .inr ⟨g', cap, cur.setIfInBounds j u, rfl, hb, ?_, hn, hcm, by simpa using hs, ?_⟩
    · simp [World.setCell, hlt, Array.getElem_modify, he]
    · rw [Array.toList_setIfInBounds, List.take_set, ht]
/-- A slice of parts in memory from block B on, or none; not in the block hb. -/
def PartO (w : World) (B : Nat) (hb : Option Nat) (ps : List (Int × Int)) (s : Value) : Prop :=
  ∃ A c, s = .slice A ps.length c ∧ ps.length ≤ c ∧ PartsIn w A ps ∧ (0 < ps.length → ∃ g, A = some ⟨g, 0, none⟩ ∧ B ≤ g ∧ hb ≠ some g ∧ Row w g (flatP ps))
theorem Row.mono {w w' : World} {g : Nat} {xs : List Value} (h : Row w g xs) (hb : Below w.heap.size w w') : Row w' g xs := Row.keep hb h
theorem PartO.below {w w' : World} {B : Nat} {hb : Option Nat} {ps : List (Int × Int)} {s : Value} (h : PartO w B hb ps s) (hbl : Below w.heap.size w w') : PartO w' B hb ps s := by
  obtain ⟨A, c, rfl, h1, h4, h5⟩ := h
  refine ⟨A, c, rfl, h1, h4.below hbl, fun hp => ?_⟩
  obtain ⟨g, e1, e2, e3, e4⟩ := h5 hp
  exact ⟨g, e1, e2, e3, e4.mono hbl⟩
/-- .. over a write to another block. -/
theorem PartO.grown {w w' : World} {B : Nat} {hb row : Option Nat} {ps : List (Int × Int)} {s : Value} (h : PartO w B hb ps s) (hg : w.grownBy w' row) (hr : row = hb ∨ row = none) {hb' : Option Nat} (hb2 : hb' = hb ∨ hb' = some w.heap.size ∨ hb' = some (w.heap.size + 1)) : PartO w' B hb' ps s := by
  obtain ⟨A, c, rfl, h1, h4, h5⟩ := h
  have hkeep : ∀ g, hb ≠ some g → g < w.heap.size → w'.heap[g]? = w.heap[g]? := fun g hne hlt => hg.block g hlt (by
    rcases hr with rfl | rfl
    · exact fun e => hne e.symm
    · simp)
  refine ⟨A, c, rfl, h1, ⟨h4.1, fun hp => ?_⟩, fun hp => ?_⟩
  · obtain ⟨g, rfl, e2, e3, e4⟩ := h5 hp
    obtain ⟨b, o, hb, hlt, hc⟩ := h4.2 hp
    cases hb
    refine ⟨g, 0, rfl, Nat.lt_of_lt_of_le hlt hg.size, fun k hk => ?_⟩
    obtain ⟨q1, q2⟩ := hc k hk
    have hbk := hkeep g e3 hlt
    exact ⟨(World.cell?_of_block (a := ⟨g, _, none⟩) hbk).trans q1, (World.cell?_of_block (a := ⟨g, _, none⟩) hbk).trans q2⟩
  · obtain ⟨g, e1, e2, e3, e4⟩ := h5 hp
    have hlt := e4.lt
    refine ⟨g, e1, e2, ?_, e4.of_block (hkeep g e3 hlt)⟩
    rcases hb2 with rfl | rfl | rfl
    · exact e3
    · intro e; cases e; omega
    · intro e; cases e; omega
/-- A lot's three cells. -/
abbrev LotC := Int × Int × Value
def flat3 (ts : List LotC) : List Value := ts.flatMap fun t => [.int .i64 t.1, .int .i64 t.2.1, t.2.2]
theorem flat3_append (a b : List LotC) : flat3 (a ++ b) = flat3 a ++ flat3 b := by simp [flat3]
theorem flat3_length : ∀ ts, (flat3 ts).length = ts.length * 3
  | [] => rfl
  | p :: zs => by
    have := flat3_length zs
    simp only [flat3, List.flatMap_cons, List.length_append, List.length_cons, List.length_nil] at *
    omega
theorem flat3_at : ∀ (ts : List LotC) (k : Nat) (h : k < ts.length), (flat3 ts)[k * 3]? = some (.int .i64 ts[k].1) ∧ (flat3 ts)[k * 3 + 1]? = some (.int .i64 ts[k].2.1) ∧ (flat3 ts)[k * 3 + 2]? = some ts[k].2.2
  | p :: zs, 0, _ => by simp [flat3]
  | p :: zs, k + 1, h => by
    have := flat3_at zs k (by simpa using h)
    have e : flat3 (p :: zs) = .int .i64 p.1 :: .int .i64 p.2.1 :: p.2.2 :: flat3 zs := by simp [flat3]
    rw [e, show (k + 1) * 3 = k * 3 + 1 + 1 + 1 by omega]
    simp only [List.getElem?_cons_succ, List.getElem_cons_succ]
    exact this
theorem flat3_set (ts : List LotC) (k : Nat) (h : k < ts.length) (s : Value) : (flat3 ts).set (k * 3 + 2) s = flat3 (ts.set k (ts[k].1, ts[k].2.1, s)) := by
  induction ts generalizing k with
  | nil => simp at h
  | cons p zs ih =>
    have e : ∀ (q : LotC) zs, flat3 (q :: zs) = .int .i64 q.1 :: .int .i64 q.2.1 :: q.2.2 :: flat3 zs := fun q zs => by simp [flat3]
    cases k with
    | zero => simp [e]
    | succ k =>
      rw [e, show (k + 1) * 3 + 2 = (k * 3 + 2) + 1 + 1 + 1 by omega]
      simp only [List.set_cons_succ, List.getElem_cons_succ]
      rw [ih k (by simpa using h), e]
theorem flat3_one (ts : List LotC) (h : ∀ t ∈ ts, t.2.2.oneCell' = true) : ∀ u ∈ flat3 ts, u.oneCell' = true := by
  intro u hu
  unfold flat3 at hu
  obtain ⟨t, ht, hu⟩ := List.mem_flatMap.1 hu
  simp only [List.mem_cons, List.not_mem_nil, or_false] at hu
  rcases hu with rfl | rfl | rfl
  · rfl
  · rfl
  · exact h t ht
/-- v is a list of lots in memory from block B on, its parts too. -/
def OwnL (w : World) (B : Nat) (v : Value) (ls : List LotD) : Prop :=
  ∃ ts : List LotC, w.ownsRow B 37 3 v ls.length (flat3 ts) ∧ ts.length = ls.length ∧ ∀ i (h : i < ls.length) (h' : i < ts.length), ts[i].1 = ls[i].kind ∧ ts[i].2.1 = ls[i].mass ∧ I64 ls[i].kind ∧ I64 ls[i].mass ∧ PartO w B v.ownBlock ls[i].parts ts[i].2.2
theorem OwnL.nil (w : World) (B : Nat) : OwnL w B (.slice none 0 0) [] := ⟨[], World.ownsRow_nil _ _ _ _, rfl, fun i h => by simp at h⟩
theorem OwnL.below {w w' : World} {B : Nat} {v : Value} {ls : List LotD} (h : OwnL w B v ls) (hb : Below w.heap.size w w') : OwnL w' B v ls := by
  obtain ⟨ts, h1, h2, h3⟩ := h
  refine ⟨ts, World.ownsRow.kept h1 (row := none) ⟨hb.os, hb.tape, hb.output, hb.size, fun k hk _ => hb.block k hk⟩ (by cases v.ownBlock <;> simp), h2, fun i hi hi' => ?_⟩
  obtain ⟨e1, e2, e3, e4, e5⟩ := h3 i hi hi'
  exact ⟨e1, e2, e3, e4, e5.below hb⟩
theorem OwnL.lt {w : World} {B : Nat} {v : Value} {ls : List LotD} (h : OwnL w B v ls) : ∀ g, v.ownBlock = some g → B ≤ g ∧ g < w.heap.size := by
  obtain ⟨ts, h1, -⟩ := h
  exact World.ownsRow.lt h1
/-- It reads as a genealogy. -/
theorem OwnL.lots {w : World} {B : Nat} {v : Value} {ls : List LotD} (h : OwnL w B v ls) : ∃ A c, v = .slice A ls.length c ∧ ls.length ≤ c ∧ LotsIn w A ls := by
  obtain ⟨ts, h1, h2, h3⟩ := h
  obtain ⟨A, c, hv, hn, hc⟩ := own_slice h1
  refine ⟨A, c, hv, hn, fun hp => ?_⟩
  obtain ⟨b, o, rfl, hlt, hcc⟩ := hc (by omega) (by rw [flat3_length, h2]; omega)
  refine ⟨b, o, rfl, fun i hi => ?_⟩
  obtain ⟨e1, e2, e3, e4, A', c', e5, e6, e7, -⟩ := h3 i hi (by omega)
  obtain ⟨q1, q2, q3⟩ := flat3_at ts i (by omega)
  rw [e1] at q1
  rw [e2] at q2
  rw [e5] at q3
  have r1 := hcc _ _ q1
  have r2 := hcc _ _ q2
  have r3 := hcc _ _ q3
  exact ⟨e3, e4, hlt, r1, by rw [Nat.add_assoc]; exact r2, A', c', by rw [Nat.add_assoc]; exact r3, e6, e7⟩
/-- One more lot. -/
theorem OwnL.app {w w' : World} {B : Nat} {v v' : Value} {ls : List LotD} {x : LotD} {s : Value} (h : OwnL w B v ls) (hx : I64 x.kind ∧ I64 x.mass) (hs : PartO w B v.ownBlock x.parts s)
    (hr : ∀ ts : List LotC, w.ownsRow B 37 3 v ls.length (flat3 ts) → w'.ownsRow B 37 3 v' (ls.length + 1) (flat3 ts ++ [.int .i64 x.kind, .int .i64 x.mass, s])) (hg : w.grownBy w' v.ownBlock) (hd : v'.ownBlock = v.ownBlock ∨ v'.ownBlock = some w.heap.size ∨ v'.ownBlock = some (w.heap.size + 1)) : OwnL w' B v' (ls ++ [x]) := by
  obtain ⟨ts, h1, h2, h3⟩ := h
  refine ⟨ts ++ [(x.kind, x.mass, s)], ?_, by simp [h2], fun i hi hi' => ?_⟩
  · rw [flat3_append, List.length_append]
    exact hr ts h1
  · by_cases hil : i < ls.length
    · rw [List.getElem_append_left hil, List.getElem_append_left (by omega)]
      obtain ⟨e1, e2, e3, e4, e5⟩ := h3 i hil (by omega)
      exact ⟨e1, e2, e3, e4, e5.grown hg (.inl rfl) hd⟩
    · have : i = ls.length := by simp at hi; omega
      subst this
      rw [List.getElem_append_right (Nat.le_refl _), List.getElem_append_right (by omega)]
      simp only [Nat.sub_self, h2, List.getElem_cons_zero]
      exact ⟨by first | trivial | rfl, by first | trivial | rfl, hx.1, hx.2, hs.grown hg (.inl rfl) hd⟩
end Go.Proofs.Ytdgmpaijpjkeoaa
