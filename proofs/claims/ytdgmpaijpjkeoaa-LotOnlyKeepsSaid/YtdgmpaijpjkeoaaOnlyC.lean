/-
  SOME LOTS AND WHAT THEY ARE MADE OF: PLAIN, AND IN MEMORY.
-/
import Derived.Test.YtdgmpaijpjkeoaaSetM
import Derived.Test.YtdgmpaijpjkeoaaOwnH
import Derived.Test.YtdgmpaijpjkeoaaSetC
import Derived.Test.YtdgmpaijpjkeoaaRegT
import Derived.Test.YtdgmpaijpjkeoaaRefB
namespace Go.Proofs.Ytdgmpaijpjkeoaa
open Go.RowKit
/-- The k-th number of a list is out of range, or not above the one before it. -/
def keepB (n : Nat) (xs : List Int) (k : Nat) : Bool := decide (xs.getD k 0 < 0) || decide ((n : Int) ≤ xs.getD k 0) || (decide (0 < k) && decide (xs.getD k 0 ≤ xs.getD (k - 1) 0))
def keepE (n : Nat) (xs : List Int) : Bool := (List.range xs.length).any (keepB n xs)
theorem keepE_yes {n : Nat} {xs : List Int} {k : Nat} (hk : k < xs.length) (h : keepB n xs k = true) : keepE n xs = true := by
  unfold keepE
  rw [List.any_eq_true]
  exact ⟨k, by simpa using hk, h⟩
theorem keepE_no {n : Nat} {xs : List Int} (h : ∀ k, k < xs.length → keepB n xs k = false) : keepE n xs = false := by
  unfold keepE
  rw [List.any_eq_false]
  intro k hk
  rw [h k (by simpa using hk)]
  simp
theorem keepE_range {n : Nat} {xs : List Int} (h : keepE n xs = false) : ∀ x ∈ xs, 0 ≤ x ∧ x < n := by
  intro x hx
  obtain ⟨k, hk, rfl⟩ := List.getElem_of_mem hx
  unfold keepE at h
  rw [List.any_eq_false] at h
  have := h k (by simpa using hk)
  have hg : xs.getD k 0 = xs[k] := by rw [List.getD_eq_getElem?_getD, List.getElem?_eq_getElem hk]; rfl
  simp only [keepB, hg, Bool.not_eq_true, Bool.or_eq_false_iff, decide_eq_false_iff_not] at this
  omega
/-- The number that a kept lot gets. -/
def rankP (P : Nat → Bool) (j : Nat) : Int := ((selL P j).length : Int)
def subX (l : List LotD) (P : Nat → Bool) (i : Nat) : LotD := ⟨(l.getD i default).kind, (l.getD i default).mass, (l.getD i default).parts.map fun p => (rankP P p.1.toNat, p.2)⟩
def subL (l : List LotD) (P : Nat → Bool) (k : Nat) : List LotD := ((List.range k).filter P).map (subX l P)
theorem subL_yes {l : List LotD} {P : Nat → Bool} {k : Nat} (h : P k = true) : subL l P (k + 1) = subL l P k ++ [subX l P k] := by simp [subL, List.range_succ, h]
theorem subL_no {l : List LotD} {P : Nat → Bool} {k : Nat} (h : P k = false) : subL l P (k + 1) = subL l P k := by simp [subL, List.range_succ, h]
theorem subL_length (l : List LotD) (P : Nat → Bool) (k : Nat) : (subL l P k).length = (selL P k).length := by simp [subL, selL]
/-- .. by the list of the kept numbers. -/
theorem subL_sel (l : List LotD) (P : Nat → Bool) (k : Nat) : subL l P k = (selL P k).map fun x => subX l P x.toNat := by
  unfold subL selL
  rw [List.map_map]
  exact List.map_congr_left fun j _ => by simp
theorem subX_part {l : List LotD} {P : Nat → Bool} {i : Nat} : (subX l P i).parts.length = (l.getD i default).parts.length := by simp [subX]
def onlyE (l : List LotD) (xs : List Int) : List LotD × List Int × Int :=
  if valE l ≠ 0 then ([], [], valE l) else if keepE l.length xs = true then ([], [], 1) else (subL l (oldB l xs) l.length, selL (oldB l xs) l.length, 0)
/-- The list of the new numbers, as far as the lot k. -/
def numR (n : Nat) (P : Nat → Bool) (k : Nat) : List Int := (List.range n).map fun j => if j < k ∧ P j = true then rankP P j else 0
theorem numR_length (n : Nat) (P : Nat → Bool) (k : Nat) : (numR n P k).length = n := by simp [numR]
theorem numR_zero (n : Nat) (P : Nat → Bool) : numR n P 0 = List.replicate n 0 := by
  unfold numR
  apply List.ext_getElem
  · simp
  · intro i h1 h2; simp
theorem numR_no {n : Nat} {P : Nat → Bool} {k : Nat} (h : P k = false) : numR n P (k + 1) = numR n P k := by
  unfold numR
  refine List.map_congr_left fun j _ => ?_
  by_cases hj : j = k
  · subst hj; rw [h]; simp
  · have : j < k + 1 ↔ j < k := by omega
    simp only [this]
theorem numR_set {n : Nat} {P : Nat → Bool} {k : Nat} (h : P k = true) : (numR n P k).set k (rankP P k) = numR n P (k + 1) := by
  apply List.ext_getElem
  · simp [numR]
  · intro i h1 h2
    rw [List.getElem_set]
    simp only [numR, List.getElem_map, List.getElem_range]
    by_cases he : k = i
    · subst he
      rw [if_pos rfl, if_pos ⟨by omega, h⟩]
    · rw [if_neg he]
      have : i < k + 1 ↔ i < k := by omega
      simp only [this]
theorem numR_at {n : Nat} {P : Nat → Bool} {k j : Nat} (hj : j < n) (hk : j < k) (h : P j = true) : (numR n P k).getD j 0 = rankP P j := by
  rw [List.getD_eq_getElem?_getD, List.getElem?_eq_getElem (by rw [numR_length]; exact hj)]
  simp only [numR, List.getElem_map, List.getElem_range, Option.getD_some]
  rw [if_pos ⟨hk, h⟩]
theorem rank_bd (P : Nat → Bool) (j : Nat) : 0 ≤ rankP P j ∧ rankP P j ≤ j := by
  unfold rankP
  have := selL_length P j
  omega
/-- The parts with the first k of them numbered anew. -/
def mixP (f : Int → Int) (ps : List (Int × Int)) (k : Nat) : List (Int × Int) := (ps.take k).map (fun p => (f p.1, p.2)) ++ ps.drop k
theorem mixP_zero (f : Int → Int) (ps : List (Int × Int)) : mixP f ps 0 = ps := by simp [mixP]
theorem mixP_length (f : Int → Int) (ps : List (Int × Int)) (k : Nat) : (mixP f ps k).length = ps.length := by
  simp only [mixP, List.length_append, List.length_map, List.length_take, List.length_drop]
  omega
theorem mixP_end (f : Int → Int) (ps : List (Int × Int)) : mixP f ps ps.length = ps.map fun p => (f p.1, p.2) := by simp [mixP]
theorem mixP_at {f : Int → Int} {ps : List (Int × Int)} {k : Nat} (hk : k < ps.length) : (mixP f ps k)[k]'(by rw [mixP_length]; exact hk) = ps[k] := by
  unfold mixP
  rw [List.getElem_append_right (by simp; omega)]
  simp only [List.length_map, List.length_take, List.getElem_drop]
  congr 1
  omega
theorem mixP_set {f : Int → Int} {ps : List (Int × Int)} {k : Nat} (hk : k < ps.length) : (mixP f ps k).set k (f ps[k].1, ps[k].2) = mixP f ps (k + 1) := by
  unfold mixP
  rw [List.take_succ_eq_append_getElem hk, List.map_append, List.set_append_right _ _ (by simp; omega), List.drop_eq_getElem_cons hk]
  simp only [List.length_map, List.length_take, List.map_cons, List.map_nil]
  rw [show k - min k ps.length = 0 by omega, List.set_cons_zero, List.append_assoc]
  rfl
theorem flatP_set1 (ps : List (Int × Int)) (k : Nat) (h : k < ps.length) (x : Int) : (flatP ps).set (k * 2) (.int .i64 x) = flatP (ps.set k (x, ps[k].2)) := by
  induction ps generalizing k with
  | nil => simp at h
  | cons p zs ih =>
    have e : ∀ (q : Int × Int) zs, flatP (q :: zs) = .int .i64 q.1 :: .int .i64 q.2 :: flatP zs := fun q zs => by simp [flatP]
    cases k with
    | zero => simp [e]
    | succ k =>
      rw [e, show (k + 1) * 2 = k * 2 + 1 + 1 by omega]
      simp only [List.set_cons_succ, List.getElem_cons_succ]
      rw [ih k (by simpa using h), e]
theorem partO_row {w : World} {B g c : Nat} {hb : Option Nat} {ps : List (Int × Int)} (hr : Row w g (flatP ps)) (h64 : ∀ p ∈ ps, I64 p.1 ∧ I64 p.2) (hc : ps.length ≤ c) (hB : B ≤ g) (hne : hb ≠ some g) : PartO w B hb ps (.slice (some ⟨g, 0, none⟩) ps.length c) := by
  refine ⟨_, c, rfl, hc, ⟨h64, fun hp => ⟨g, 0, rfl, hr.lt, fun k hk => ?_⟩⟩, fun _ => ⟨g, rfl, hB, hne, hr⟩⟩
  obtain ⟨h1, h2⟩ := flatP_at ps k hk
  have hl := flatP_length ps
  have q1 := hr.get (k * 2) (by omega)
  have q2 := hr.get (k * 2 + 1) (by omega)
  rw [List.getElem?_eq_getElem (by omega)] at h1 h2
  rw [Nat.zero_add]
  exact ⟨q1.trans h1, q2.trans h2⟩
/-- A lot in the box xb whose parts are numbered anew: the first k of them are. -/
def RenW (w wr : World) (xb : Nat) (kd ms : Int) (A : Option Addr) (c : Nat) (ps : List (Int × Int)) (f : Int → Int) (k : Nat) : Prop :=
  Below w.heap.size w wr ∧ w.heap.size ≤ xb ∧ wr.heap[xb]? = some (.cells (lotC kd ms (.slice A ps.length c)) 37 (0, 0)) ∧ (0 < ps.length → ∃ g, A = some ⟨g, 0, none⟩ ∧ w.heap.size ≤ g ∧ g ≠ xb ∧ Row wr g (flatP (mixP f ps k)))
theorem RenW.start {w wr : World} {xb : Nat} {kd ms : Int} {A : Option Addr} {c : Nat} {ps : List (Int × Int)} {f : Int → Int} (hb : Below w.heap.size w wr) (hx : w.heap.size ≤ xb) (hbox : wr.heap[xb]? = some (.cells (lotC kd ms (.slice A ps.length c)) 37 (0, 0))) (hs : PartO wr w.heap.size (some xb) ps (.slice A ps.length c)) : RenW w wr xb kd ms A c ps f 0 := by
  refine ⟨hb, hx, hbox, fun hp => ?_⟩
  obtain ⟨A', c', e, h1, h2, h3⟩ := hs
  cases e
  obtain ⟨g, rfl, q1, q2, q3⟩ := h3 hp
  exact ⟨g, rfl, q1, fun e => q2 (by rw [e]), by rw [mixP_zero]; exact q3⟩
theorem RenW.step {w wr : World} {xb g : Nat} {kd ms : Int} {c : Nat} {ps : List (Int × Int)} {f : Int → Int} {k : Nat} (h : RenW w wr xb kd ms (some ⟨g, 0, none⟩) c ps f k) (hk : k < ps.length) : RenW w (wr.setCell ⟨g, k * 2, none⟩ (.int .i64 (f ps[k].1))) xb kd ms (some ⟨g, 0, none⟩) c ps f (k + 1) := by
  obtain ⟨h1, h2, h3, h4⟩ := h
  obtain ⟨g', e, q1, q2, q3⟩ := h4 (by omega)
  cases e
  refine ⟨h1.setCell q1 _, h2, (Below.heap_setCell wr ⟨g, k * 2, none⟩ _ xb (fun e => q2 e.symm)).trans h3, fun _ => ⟨g, rfl, q1, q2, ?_⟩⟩
  have := q3.set (k * 2) (.int .i64 (f ps[k].1))
  rwa [flatP_set1 _ k (by rw [mixP_length]; exact hk), mixP_at hk, mixP_set hk] at this
theorem RenW.done {w wr : World} {xb : Nat} {kd ms : Int} {A : Option Addr} {c : Nat} {ps : List (Int × Int)} {f : Int → Int} (h : RenW w wr xb kd ms A c ps f ps.length) (h64 : ∀ p ∈ ps, I64 (f p.1) ∧ I64 p.2) (hc : ps.length ≤ c) (hb : Option Nat) (hlt : ∀ g, hb = some g → g < w.heap.size) : PartO wr w.heap.size hb (ps.map fun p => (f p.1, p.2)) (.slice A ps.length c) := by
  obtain ⟨h1, h2, h3, h4⟩ := h
  have hh : ∀ p ∈ ps.map fun p => (f p.1, p.2), I64 p.1 ∧ I64 p.2 := fun p hp => by
    obtain ⟨q, hq, rfl⟩ := List.mem_map.1 hp
    exact h64 q hq
  have hlen : (ps.map fun p => (f p.1, p.2)).length = ps.length := by simp
  rcases Nat.eq_zero_or_pos ps.length with h0 | h0
  · refine ⟨A, c, by rw [hlen], by omega, ⟨hh, fun hp => by omega⟩, fun hp => by omega⟩
  · obtain ⟨g, rfl, q1, q2, q3⟩ := h4 h0
    rw [mixP_end] at q3
    have := partO_row (B := w.heap.size) (hb := hb) (c := c) q3 hh (by omega) q1 (fun e => by have := hlt g e; omega)
    rwa [hlen] at this
theorem RenW.below {w wr w' : World} {xb : Nat} {kd ms : Int} {A : Option Addr} {c : Nat} {ps : List (Int × Int)} {f : Int → Int} {k : Nat} (h : RenW w wr xb kd ms A c ps f k) (hb : Below wr.heap.size wr w') : RenW w w' xb kd ms A c ps f k := by
  obtain ⟨h1, h2, h3, h4⟩ := h
  refine ⟨h1.trans (hb.mono h1.size), h2, (hb.block _ (Array.getElem?_eq_some_iff.1 h3).1).trans h3, fun hp => ?_⟩
  obtain ⟨g, e, q1, q2, q3⟩ := h4 hp
  exact ⟨g, e, q1, q2, q3.keep hb⟩
theorem PartO.newhb {w w' : World} {B xb : Nat} {hb : Option Nat} {ps : List (Int × Int)} {s : Value} (h : PartO w B hb ps s) (hbl : Below w.heap.size w w') (hx : w.heap.size ≤ xb) : PartO w' B (some xb) ps s := by
  obtain ⟨A, c, rfl, q1, q2, q3⟩ := h
  exact ⟨A, c, rfl, q1, q2.below hbl, fun hp => by
    obtain ⟨g, e, r1, -, r3⟩ := q3 hp
    exact ⟨g, e, r1, fun e => by cases e; have := r3.lt; omega, r3.mono hbl⟩⟩
theorem RenW.cells {w wr : World} {xb : Nat} {kd ms : Int} {A : Option Addr} {c : Nat} {ps : List (Int × Int)} {f : Int → Int} {k : Nat} (h : RenW w wr xb kd ms A c ps f k) : xb < wr.heap.size ∧ wr.cell? ⟨xb, 0, none⟩ = some (.int .i64 kd) ∧ wr.cell? ⟨xb, 1, none⟩ = some (.int .i64 ms) ∧ wr.cell? ⟨xb, 2, none⟩ = some (.slice A ps.length c) := by
  obtain ⟨h1, h2, h3, h4⟩ := h
  exact ⟨(Array.getElem?_eq_some_iff.1 h3).1, (cell_of_row wr _ 0 _ _ (0, 0) h3).trans rfl, (cell_of_row wr _ 1 _ _ (0, 0) h3).trans rfl, (cell_of_row wr _ 2 _ _ (0, 0) h3).trans rfl⟩
theorem RenW.at {w wr : World} {xb : Nat} {kd ms : Int} {A : Option Addr} {c : Nat} {ps : List (Int × Int)} {f : Int → Int} {k : Nat} (h : RenW w wr xb kd ms A c ps f k) (hk : k < ps.length) : ∃ g, A = some ⟨g, 0, none⟩ ∧ g < wr.heap.size ∧ wr.cell? ⟨g, k * 2, none⟩ = some (.int .i64 ps[k].1) ∧ wr.frozen? ⟨g, k * 2, none⟩ = false := by
  obtain ⟨h1, h2, h3, h4⟩ := h
  obtain ⟨g, e, q1, q2, q3⟩ := h4 (by omega)
  have hl := flatP_length (mixP f ps k)
  have hm := mixP_length f ps k
  have q := q3.get (k * 2) (by omega)
  have r := (flatP_at (mixP f ps k) k (by omega)).1
  rw [List.getElem?_eq_getElem (by omega), mixP_at hk] at r
  exact ⟨g, e, q3.lt, q.trans r, q3.free _⟩
/-- A list of lots in new memory, a list of numbers, and a code. -/
def OutO (w : World) (r : List LotD × List Int × Int) (e : Ending) (w' : World) : Prop := ∃ v A c, e = .returned (.tuple #[v, .slice A r.2.1.length c, .int .i64 r.2.2]) ∧ OwnL w' w.heap.size v r.1 ∧ IsL w' A r.2.1.length r.2.1 ∧ Below w.heap.size w w'
theorem OutO.no {w w' : World} {r : List LotD × List Int × Int} {y : Int} (h : (([] : List LotD), ([] : List Int), y) = r) (hb : Below w.heap.size w w') : OutO w r (.returned (.tuple #[.slice none 0 0, .slice none 0 0, .int .i64 y])) w' := by
  subst h
  exact ⟨_, none, 0, rfl, OwnL.nil _ _, ⟨rfl, fun hp => by simp at hp⟩, hb⟩
/-- The reference's marks give the same. -/
def markB (xs : List Int) (j : Nat) : Bool := xs.any fun x => x == (j : Int)
theorem res_mark {l : List LotD} {xs : List Int} (h : ∀ x ∈ xs, 0 ≤ x ∧ x < l.length) (j : Nat) : resB l (markB xs) j = oldB l xs j := by
  unfold resB markB oldB
  refine Bool.eq_iff_iff.2 ?_
  simp only [List.any_eq_true, List.mem_range, Bool.and_eq_true, beq_iff_eq]
  constructor
  · rintro ⟨m, hm, ⟨x, hx, rfl⟩, he⟩
    exact ⟨_, hx, by simpa using he⟩
  · rintro ⟨x, hx, he⟩
    have := h x hx
    exact ⟨x.toNat, by omega, ⟨x, hx, by omega⟩, he⟩
theorem markB_snoc {xs : List Int} {k : Nat} (hk : k < xs.length) {m : Nat} (hm : xs[k] = m) (j : Nat) : markB (xs.take (k + 1)) j = if j = m then true else markB (xs.take k) j := by
  unfold markB
  rw [List.take_succ_eq_append_getElem hk, List.any_append]
  simp only [List.any_cons, List.any_nil, Bool.or_false, hm]
  by_cases h : j = m
  · subst h; simp
  · rw [if_neg h, show ((m : Int) == (j : Int)) = false by rw [beq_eq_false_iff_ne]; omega, Bool.or_false]
/-- Parts of a kept lot are kept. -/
theorem old_part {l : List LotD} (hg : GoodAll l) {xs : List Int} {i : Nat} (h : oldB l xs i = true) {p : Int × Int} (hp : p ∈ (l.getD i default).parts) : oldB l xs p.1.toNat = true := by
  refine oldB_closed hg xs i i (Nat.le_refl _) h _ ?_
  exact (elB_iff hg).2 (.inr ⟨(p.1.toNat, p.2.toNat), by unfold psN; exact List.mem_map.2 ⟨p, hp, rfl⟩, elB_refl hg _⟩)
end Go.Proofs.Ytdgmpaijpjkeoaa
/-
  Only (the program's).
-/
namespace Go.Proofs.Ytdgmpaijpjkeoaa
open Go.RowKit
attribute [local go_sem] grow_cell grow_frozen
theorem OwnI.below {w w' : World} {B : Nat} {v : Value} {zs : List Int} (h : OwnI w B v zs) (hb : Below w.heap.size w w') : OwnI w' B v zs := h.keep hb
theorem lotsIn_sub {w : World} {b o : Nat} {l : List LotD} (h : ∀ i (h : i < l.length), LotAt w b (o + i * 3) l[i]) {i : Nat} (hi : i < l.length) : LotsIn w (some ⟨b, o + i * 3, none⟩) [l[i]] := by
  intro _
  refine ⟨b, o + i * 3, rfl, fun j hj => ?_⟩
  obtain rfl : j = 0 := by simpa using hj
  exact h i hi
/-- The first lot of a list of one. -/
theorem OwnL.first {w : World} {B : Nat} {v : Value} {x : LotD} (h : OwnL w B v [x]) : ∃ g c s, v = .slice (some ⟨g, 0, none⟩) 1 c ∧ 1 ≤ c ∧ B ≤ g ∧ g < w.heap.size ∧ I64 x.kind ∧ I64 x.mass ∧ w.cell? ⟨g, 0, none⟩ = some (.int .i64 x.kind) ∧ w.cell? ⟨g, 1, none⟩ = some (.int .i64 x.mass) ∧ w.cell? ⟨g, 2, none⟩ = some s ∧ PartO w B (some g) x.parts s := by
  have h0 := h
  obtain ⟨ts, t1, t2, t3⟩ := h
  rcases id t1.2 with ⟨e, e0⟩ | ⟨g, cap, cur, e, -, -, hc, -⟩
  · simp at e0
  · subst e
    obtain ⟨e1, e2, e3, e4, e5⟩ := t3 0 (by simp) (by simp at t2; omega)
    obtain ⟨q1, q2, q3⟩ := flat3_at ts 0 (by simp at t2; omega)
    have hlt := h0.lt g rfl
    have c0 := World.ownsRow.cells t1 (g := g) rfl _ _ q1
    have c1 := World.ownsRow.cells t1 (g := g) rfl _ _ q2
    have c2 := World.ownsRow.cells t1 (g := g) rfl _ _ q3
    rw [Addr.add_mid] at c0 c1 c2
    simp only [List.getElem_cons_zero] at e1 e2 e3 e4 e5
    rw [e1] at c0
    rw [e2] at c1
    exact ⟨g, cap, _, rfl, hc, hlt.1, hlt.2, e3, e4, c0, c1, c2, e5⟩
set_option maxRecDepth 100000 in
set_option maxHeartbeats 2000000 in
theorem only_any (l : List LotD) (hl : l.length ≤ 1000) (hps : ∀ x ∈ l, x.parts.length ≤ 1000) (xs : List Int) (hxs : xs.length ≤ 1000) (h64 : ∀ x ∈ xs, I64 x) (r : List LotD × List Int × Int) (hm : onlyE l xs = r) (A : Option Addr) (c : Nat) (hc : l.length ≤ c) (O : Option Addr) (d : Nat) (w : World) (hL : LotsIn w A l) (hO : IsL w O xs.length xs) :
    Calls Try.prog 50 #[.slice A l.length c, .slice O xs.length d] w (OutO w r) := by
  have HM := Lib.hid hm
  have HL := Lib.hid hL
  have HPS := Lib.hid hps
  have HO := Lib.hid hO
  have HX := Lib.hid h64
  clear hm hL hps hO h64
  go_enter Try.func50, Try.ntmps50
  go_wp2_with fail
  obtain ⟨E, hE⟩ : ∃ E, E = valE l := ⟨_, rfl⟩
  have hval := validate_any l hl HPS.out A c w HL.out
  rw [← hE] at hval
  have HE := Lib.hid hE
  clear hE
  refine hval.mono ?_
  clear hval
  rintro e w1 ⟨rfl, hb1⟩
  have ib := Lib.hid hb1
  clear hb1
  by_cases hz : E = 0
  · subst hz
    have hm2 := HM.out
    unfold onlyE at hm2
    rw [if_neg (by rw [← HE.out]; decide)] at hm2
    have hgl := valE_zero HE.out.symm
    have HM2 := Lib.hid hm2
    have HG := Lib.hid (show GoodAll l from hgl.lot)
    have hl24 := hgl.len
    have hmk := fun w => make_i64 l.length (by omega) w
    clear hm2 hgl HM HE
    go_wp2
    go_loopw [26] (fun t wr => ∃ k : Nat, t = .int .i64 k ∧ k ≤ xs.length ∧ wr = w1 ∧ Hid (∀ j, j < k → keepB l.length xs j = false)) (fun t _ => xs.length - (intOf t).toNat)
    case atStart => exact ⟨0, rfl, by omega, rfl, Lib.hid (fun j hj => by omega)⟩
    case round =>
      obtain ⟨k, rfl, hk, rfl, hr⟩ := hrel
      by_cases hlt : k < xs.length
      · obtain ⟨b, o, rfl, hbz, hcx⟩ := (HO.out.below ib.out).2 (by omega)
        have q1 := hcx k hlt
        have hxk := HX.out (xs.getD k 0) (by rw [List.getD_eq_getElem?_getD, List.getElem?_eq_getElem hlt]; exact List.getElem_mem _)
        obtain ⟨x, hx⟩ : ∃ x, x = xs.getD k 0 := ⟨_, rfl⟩
        rw [← hx] at q1 hxk
        have HXX := Lib.hid hx
        have hx64 := hxk.1
        have hx65 := hxk.2
        clear hx hxk
        by_cases hn : x < 0 ∨ (l.length : Int) ≤ x
        · have HBAD := Lib.hid (show (([] : List LotD), ([] : List Int), (1 : Int)) = r by
            have := HM2.out
            rw [if_pos (keepE_yes hlt (by unfold keepB; rw [← HXX.out]; rcases hn with h | h <;> simp [h]))] at this
            exact this)
          clear hcx
          by_cases hn0 : x < 0
          · have d1 : decide (x < 0) = true := decide_eq_true hn0
            go_wp2
            go_ret3
            exact OutO.no HBAD.out ib.out
          · have hn1 : (l.length : Int) ≤ x := by omega
            have d1 : decide (x < 0) = false := decide_eq_false hn0
            have d2 : decide ((l.length : Int) ≤ x) = true := decide_eq_true hn1
            go_wp2
            go_ret3
            exact OutO.no HBAD.out ib.out
        · have hn0 : 0 ≤ x := by omega
          have hn1 : x < l.length := by omega
          have d1 : decide (x < 0) = false := decide_eq_false (by omega)
          have d2 : decide ((l.length : Int) ≤ x) = false := decide_eq_false (by omega)
          clear hn
          by_cases hk0 : 0 < k
          · obtain ⟨j, rfl⟩ : ∃ j, k = j + 1 := ⟨k - 1, by omega⟩
            have q2 := hcx j (by omega)
            obtain ⟨y, hy⟩ : ∃ y, y = xs.getD j 0 := ⟨_, rfl⟩
            rw [← hy] at q2
            have HY := Lib.hid hy
            clear hcx hy hk0
            by_cases hle : x ≤ y
            · have HBAD := Lib.hid (show (([] : List LotD), ([] : List Int), (1 : Int)) = r by
                have := HM2.out
                rw [if_pos (keepE_yes hlt (by unfold keepB; rw [← HXX.out, Nat.add_sub_cancel, ← HY.out]; simp [hle]))] at this
                exact this)
              have d3 : decide (x ≤ y) = true := decide_eq_true hle
              go_wp2
              go_ret3
              exact OutO.no HBAD.out ib.out
            · have HOK := Lib.hid (show ∀ j', j' < j + 1 + 1 → keepB l.length xs j' = false from fun j' hj' => by
                by_cases he : j' < j + 1
                · exact hr.out j' he
                · obtain rfl : j' = j + 1 := by omega
                  unfold keepB
                  rw [← HXX.out, Nat.add_sub_cancel, ← HY.out, d1, d2, decide_eq_false hle]; simp)
              have d3 : decide (x ≤ y) = false := decide_eq_false hle
              obtain ⟨k, hkk⟩ : ∃ k, k = j + 1 := ⟨_, rfl⟩
              go_wp2
              go_roundw
              case rel => exact ⟨j + 1 + 1, by go_num, by omega, trivial, HOK⟩
              case measure => simp [intOf]; omega
          · have HOK := Lib.hid (show ∀ j', j' < k + 1 → keepB l.length xs j' = false from fun j' hj' => by
              by_cases he : j' < k
              · exact hr.out j' he
              · obtain rfl : j' = k := by omega
                unfold keepB
                rw [← HXX.out, d1, d2, decide_eq_false hk0]; simp)
            have d3 : decide (0 < k) = false := decide_eq_false hk0
            clear hcx
            go_wp2
            go_roundw
            case rel => exact ⟨k + 1, by go_num, by omega, trivial, HOK⟩
            case measure => simp [intOf]; omega
      · obtain rfl : k = xs.length := by omega
        have hno := keepE_no hr.out
        have hm3 := HM2.out
        rw [if_neg (by rw [hno]; decide)] at hm3
        obtain ⟨P, hP⟩ : ∃ P, P = oldB l xs := ⟨_, rfl⟩
        rw [← hP] at hm3
        have HPP := Lib.hid hP
        have HM3 := Lib.hid hm3
        have HXR := Lib.hid (keepE_range hno)
        clear hr hno hm3 HM2 hP
        go_wp2_with fail
        obtain ⟨W, hW⟩ : ∃ W, W = wr.alloc (.cells (zcells l.length) 3) := ⟨_, rfl⟩
        rw [← hW]
        obtain ⟨nb, hnb⟩ : ∃ nb, nb = wr.heap.size := ⟨_, rfl⟩
        rw [← hnb]
        have N0 := Lib.hid (show RowI W nb (numR l.length P 0) ∧ Below w.heap.size w W ∧ w.heap.size ≤ nb ∧ nb < W.heap.size by rw [hW, hnb, numR_zero]; exact ⟨RowI.zeros _ _, ib.out.alloc ib.out.size _, ib.out.size, by simp⟩)
        clear hW hmk hnb
        refine (elders_any l hl24 HG.out A c O xs.length d xs W (HL.out.below N0.out.2.1) (HO.out.below N0.out.2.1) (by omega) HXR.out).mono ?_
        rw [← HPP.out]
        rintro e w2 ⟨rb, rfl, hrow, hb2, hrb⟩
        have hnr : nb ≠ rb := by have := N0.out.2.2.2; omega
        have R0 := Lib.hid (show OwnI w2 w2.heap.size (.slice none 0 0) (selL P 0) ∧ RowI w2 nb (numR l.length P 0) ∧ RowB w2 rb (rowB l.length P) ∧ Below w.heap.size w w2 ∧ w2.heap.size ≤ w2.heap.size from ⟨OwnI.nil _ _, Row.below hb2 N0.out.2.2.2 N0.out.1, hrow, N0.out.2.1.trans (hb2.mono N0.out.2.1.size), Nat.le_refl _⟩)
        have hn2 : nb < w2.heap.size := Nat.lt_of_lt_of_le N0.out.2.2.2 hb2.size
        have hwn := N0.out.2.2.1
        have hr2 := Row.lt hrow
        have hww : w.heap.size ≤ w2.heap.size := Nat.le_trans N0.out.2.1.size hb2.size
        clear hrow hb2 hrb N0
        go_wp2
        go_loopw [10, 60] (fun v t wr => ∃ k : Nat, t = .int .i64 k ∧ k ≤ l.length ∧ Hid (OwnI wr w2.heap.size v (selL P k) ∧ RowI wr nb (numR l.length P k) ∧ RowB wr rb (rowB l.length P) ∧ Below w.heap.size w wr ∧ w2.heap.size ≤ wr.heap.size)) (fun _ t _ => l.length - (intOf t).toNat)
        case atStart => exact ⟨0, rfl, by omega, R0⟩
        case round =>
          clear R0
          obtain ⟨k, rfl, hk, hr⟩ := hrel
          obtain ⟨Av, cv, rfl, hisl⟩ := hr.out.1.isL
          by_cases hlt : k < l.length
          · have r1 := RowB.at hr.out.2.2.1 k (by rw [rowB_length]; exact hlt)
            rw [rowB_get hlt] at r1
            have r3 := Row.lt hr.out.2.2.1
            obtain ⟨x, hx⟩ : ∃ x, x = P k := ⟨_, rfl⟩
            rw [← hx] at r1
            have HXX := Lib.hid hx
            clear hx
            cases x with
            | false =>
              have R2 := Lib.hid (show OwnI wr w2.heap.size (.slice Av (selL P k).length cv) (selL P (k + 1)) ∧ RowI wr nb (numR l.length P (k + 1)) ∧ RowB wr rb (rowB l.length P) ∧ Below w.heap.size w wr ∧ w2.heap.size ≤ wr.heap.size from by
                rw [selL_no HXX.out.symm, numR_no HXX.out.symm]; exact hr.out)
              clear hr hisl
              go_wp2
              go_roundw
              case rel => exact ⟨k + 1, by go_num, by omega, R2⟩
              case measure => simp [intOf]; omega
            | true =>
              have q3 := RowI.get hr.out.2.1 k (by rw [numR_length]; exact hlt)
              have q4 : wr.frozen? ⟨nb, k, none⟩ = false := Row.free hr.out.2.1 k
              have q5 := Row.lt hr.out.2.1
              obtain ⟨m, hm⟩ : ∃ m, m = (selL P k).length := ⟨_, rfl⟩
              rw [← hm]
              have hml : m ≤ 24 := by have := selL_length P k; omega
              obtain ⟨old, hold⟩ : ∃ old, old = (numR l.length P k).getD k 0 := ⟨_, rfl⟩
              rw [← hold] at q3
              have HMM := Lib.hid (show (m : Int) = rankP P k by rw [hm]; rfl)
              have HLM := Lib.hid (show (selL P k).length ≤ 1000000 by omega)
              have hOW := hr.out.1
              rw [← hm] at hOW
              have HOW := Lib.hid hOW
              have HRR := Lib.hid hr.out.2
              clear hold hm hisl hOW hr
              go_upto_region 17 with fail
              obtain ⟨W, hW⟩ : ∃ W, W = wr.setCell ⟨nb, k, none⟩ (.int .i64 m) := ⟨_, rfl⟩
              rw [← hW]
              have hgr : wr.grownBy W (some nb) := by rw [hW]; exact ⟨rfl, rfl, rfl, by simp [World.setCell], fun q _ hne => Below.heap_setCell wr ⟨nb, k, none⟩ _ q (fun e => hne (by rw [e]))⟩
              have S1 := HOW.out.grown hgr (by
                rcases hv : (Value.slice Av m cv).ownBlock with _ | g
                · exact .inl rfl
                · refine .inr (fun e => ?_)
                  have := HOW.out.blk g hv
                  cases e
                  omega)
              have S2 := Lib.hid (show RowI W nb (numR l.length P (k + 1)) ∧ RowB W rb (rowB l.length P) ∧ Below w.heap.size w W ∧ w2.heap.size ≤ W.heap.size from ⟨by rw [hW, HMM.out, ← numR_set HXX.out.symm]; exact HRR.out.1.set k _, by rw [hW]; exact HRR.out.2.1.other (fun e => hnr e.symm) _, by rw [hW]; exact HRR.out.2.2.1.setCell hwn _, Nat.le_trans HRR.out.2.2.2 hgr.size⟩)
              have SO := Lib.hid S1
              clear hgr S1 hW q3 q4 q5 HRR r1 r3
              go_wp2_with (at_builtin; refine append_i64 (.tmp 71) (.tmp 73) rfl rfl w2.heap.size _ _ k W rfl rfl SO.out rfl HLM.out S2.out.2.2.2 ?_)
              intro v' w6 ho6 hg6 hd6
              rw [← selL_yes HXX.out.symm] at ho6
              have R2 := Lib.hid (show OwnI w6 w2.heap.size v' (selL P (k + 1)) ∧ RowI w6 nb (numR l.length P (k + 1)) ∧ RowB w6 rb (rowB l.length P) ∧ Below w.heap.size w w6 ∧ w2.heap.size ≤ w6.heap.size from by
                have hb6 := Below.grown (Below.refl w2.heap.size W) hg6 S2.out.2.2.2 (fun g hg => (SO.out.blk g hg).1)
                exact ⟨ho6, Row.below hb6 hn2 S2.out.1, Row.below hb6 hr2 S2.out.2.1, S2.out.2.2.1.trans (hb6.mono hww), Nat.le_trans S2.out.2.2.2 hg6.size⟩)
              clear ho6 hg6 hd6 S2 SO HOW
              go_wp2
              go_roundw
              case rel => exact ⟨k + 1, by go_num, by omega, R2⟩
              case measure => simp [intOf]; omega
          · obtain rfl : k = l.length := by omega
            have HNB := Lib.hid (And.intro hr.out.2.1 hr.out.2.2.2.1)
            have HIL := Lib.hid hisl
            have hcl : (selL P l.length).length ≤ 24 := by have := selL_length P l.length; omega
            have hnb := Row.lt hr.out.2.1
            clear hr hisl
            obtain ⟨w4, hw4⟩ : ∃ w4, w4 = wr := ⟨_, rfl⟩
            rw [← hw4] at HNB HIL hnb ⊢
            clear hw4
            have S0 := Lib.hid (show OwnL w4 w4.heap.size (.slice none 0 0) (((selL P l.length).take 0).map fun x => subX l P x.toNat) ∧ Below w4.heap.size w4 w4 from ⟨OwnL.nil _ _, Below.refl _ _⟩)
            obtain ⟨m, hm⟩ : ∃ m, m = (selL P l.length).length := ⟨_, rfl⟩
            rw [← hm] at hcl
            have HMM := Lib.hid hm
            rw [← hm]
            clear hm
            go_wp2
            go_loopw [14, 78] (fun v t wr => ∃ k : Nat, t = .int .i64 k ∧ k ≤ m ∧ Hid (OwnL wr w4.heap.size v (((selL P l.length).take k).map fun x => subX l P x.toNat) ∧ Below w4.heap.size w4 wr)) (fun _ t _ => m - (intOf t).toNat)
            case atStart => exact ⟨0, rfl, by omega, S0⟩
            case round =>
              clear S0
              obtain ⟨k, rfl, hk, hr⟩ := hrel
              by_cases hlt : k < m
              · have hkl : k < (selL P l.length).length := by have := HMM.out; omega
                obtain ⟨i, hi, hPi, hxi⟩ := mem_selL.1 (List.getElem_mem hkl)
                have HT := Lib.hid (show ((selL P l.length).take (k + 1)).map (fun x => subX l P x.toNat) = ((selL P l.length).take k).map (fun x => subX l P x.toNat) ++ [subX l P i] by
                  rw [List.take_succ_eq_append_getElem hkl, hxi, List.map_append]; simp)
                have HPI := Lib.hid hPi
                obtain ⟨bo, oo, rfl, hbz, hcx⟩ := (HIL.out.below hr.out.2).2 (by omega)
                have q1 := hcx k hkl
                rw [List.getD_eq_getElem?_getD, List.getElem?_eq_getElem hkl, hxi] at q1
                simp only [Option.getD_some] at q1
                obtain ⟨b, o, rfl, hc3⟩ := (HL.out.below (HNB.out.2.trans (hr.out.2.mono HNB.out.2.size))) (by omega)
                have HS := Lib.hid (lotsIn_sub hc3 hi)
                have hpl := HPS.out _ (List.getElem_mem hi)
                have hsx : subX l P i = ⟨l[i].kind, l[i].mass, l[i].parts.map fun p => (rankP P p.1.toNat, p.2)⟩ := by rw [subX, getD_at' hi]
                have hprt : ∀ p ∈ l[i].parts, 0 ≤ p.1 ∧ p.1 < l.length ∧ P p.1.toNat = true ∧ I64 p.2 := fun p hp => by
                  have h1 := (HG.out i hi).part p hp
                  have h2 := old_part HG.out (xs := xs) (i := i) (by rw [← HPP.out]; exact hPi) (p := p) (by rw [getD_at' hi]; exact hp)
                  exact ⟨by omega, by omega, by rw [HPP.out]; exact h2, by constructor <;> omega⟩
                obtain ⟨X, hX⟩ : ∃ X, X = l[i] := ⟨_, rfl⟩
                rw [← hX] at HS hpl hsx hprt
                obtain ⟨kd, ms, ps⟩ := X
                simp only at hpl hsx hprt
                have HSX := Lib.hid hsx
                have HPR := Lib.hid hprt
                clear hkl hxi hPi hcx hc3 hsx hprt hX
                go_wp2_with fail
                refine (copied_any [⟨kd, ms, ps⟩] (by simp) (by intro y hy; simp at hy; subst hy; exact hpl) (some ⟨b, o + i * 3, none⟩) (c - i) wr HS.out).mono ?_
                rintro e w5 ⟨v1, rfl, o1, hb5⟩
                obtain ⟨g1, c5, s, rfl, hg1, hg2, hg3, i1, i2, p0, p1, p2, hs⟩ := o1.first
                simp only at i1 i2 p0 p1 hs
                obtain ⟨A5, c6, rfl, hle, -⟩ := id hs
                have HQ := Lib.hid (And.intro hs (And.intro hb5 (And.intro i1 i2)))
                clear o1 hs hb5 i1 i2 HS
                go_upto_region 24 with fail
                obtain ⟨W, hW⟩ : ∃ W, W = w5.alloc (.cells (lotC kd ms (.slice A5 ps.length c6)) 37) := ⟨_, rfl⟩
                show Code.wp _ _ _ _ (w5.alloc (.cells (lotC kd ms (.slice A5 ps.length c6)) 37))
                rw [← hW]
                obtain ⟨xb, hxb⟩ : ∃ xb, xb = w5.heap.size := ⟨_, rfl⟩
                rw [← hxb]
                have hal := (Below.refl w5.heap.size w5).alloc (Nat.le_refl _) (.cells (lotC kd ms (.slice A5 ps.length c6)) 37)
                rw [← hW] at hal
                have T0 := Lib.hid (RenW.start (f := fun x => rankP P x.toNat) (kd := kd) (ms := ms) (HQ.out.2.1.trans (hal.mono HQ.out.2.1.size)) (show wr.heap.size ≤ xb by rw [hxb]; exact HQ.out.2.1.size) (by rw [hW, hxb]; exact heap_alloc_new w5 _) (HQ.out.1.newhb hal (by omega)))
                obtain ⟨qz, q0, q1, q2⟩ := T0.out.cells
                clear hal hW hxb p0 p1 p2 hbz
                obtain ⟨w6, hw6⟩ : ∃ w6, w6 = wr := ⟨_, rfl⟩
                subst hw6
                go_wp2
                go_loopw [93] (fun t wq => ∃ j : Nat, t = .int .i64 j ∧ j ≤ ps.length ∧ Hid (RenW w6 wq xb kd ms A5 c6 ps (fun x => rankP P x.toNat) j)) (fun t _ => ps.length - (intOf t).toNat)
                case atStart => exact ⟨0, rfl, by omega, T0⟩
                case round =>
                  clear T0 qz q0 q1 q2
                  obtain ⟨j, rfl, hj, hq⟩ := hrel
                  obtain ⟨qz, q0, q1, q2⟩ := hq.out.cells
                  by_cases hjl : j < ps.length
                  · obtain ⟨g, rfl, z1, z2, z3⟩ := hq.out.at hjl
                    have hp := HPR.out _ (List.getElem_mem hjl)
                    have hst := fun w7 (hb7 : Below wr.heap.size wr w7) => (hq.out.below hb7).step hjl
                    obtain ⟨p, hpp⟩ : ∃ p, p = ps[j] := ⟨_, rfl⟩
                    rw [← hpp] at z2 hp hst
                    obtain ⟨p1, p2⟩ := p
                    simp only at z2 hp hst
                    obtain ⟨x, rfl⟩ : ∃ x : Nat, p1 = x := ⟨p1.toNat, by omega⟩
                    rw [Int.toNat_natCast] at hst hp
                    have hx : x < l.length := by omega
                    have hnr := Row.below (hr.out.2.trans (hq.out.1.mono hr.out.2.size)) hnb HNB.out.1
                    have z4 := RowI.get hnr x (by rw [numR_length]; exact hx)
                    rw [numR_at hx hx hp.2.2.1] at z4
                    have z5 := Row.lt hnr
                    obtain ⟨y, hy⟩ : ∃ y, y = rankP P x := ⟨_, rfl⟩
                    rw [← hy] at hst z4
                    have HST := Lib.hid hst
                    clear hst hnr hpp hy hp
                    go_upto_region 27 with fail
                    refine region_grow_tail 14 (by kernel_rfl) (by kernel_rfl) ?_
                    simp only [List.take_succ_cons, List.take_zero, List.drop_succ_cons, List.drop_zero]
                    repeat (go_big_quiet_step (fail))
                    refine wpQuiet_nil ?_
                    rintro w7 ⟨xg, hxg⟩
                    have hb7 := below_grow wr xg
                    rw [← hxg] at hb7
                    clear hxg xg
                    have HT7 := Lib.hid (HST.out w7 hb7)
                    have y1 := Nat.lt_of_lt_of_le z1 hb7.size
                    have y2 := (hb7.cell (p := ⟨g, j * 2, none⟩) z1).trans z2
                    have y3 := (hb7.frozen (p := ⟨g, j * 2, none⟩) z1).trans z3
                    clear z1 z2 z3 z4 z5 qz q0 q1 q2 hb7 HST hq
                    go_wp2
                    go_roundw
                    case rel => exact ⟨j + 1, by go_num, by omega, HT7⟩
                    case measure => simp [intOf]; omega
                  · obtain rfl : j = ps.length := by omega
                    have hsz := hr.out.2.size
                    have hsz2 := Nat.le_trans hsz hq.out.1.size
                    have hv := hr.out.1.below hq.out.1
                    have hd := hq.out.done (fun p hp => by
                      have h1 := HPR.out p hp
                      have h2 := rank_bd P p.1.toNat
                      exact ⟨by constructor <;> omega, h1.2.2.2⟩) hle _ (fun g hg => (hr.out.1.lt g hg).2)
                    obtain ⟨v', w8, r1, r2, r3⟩ := hv.push ⟨kd, ms, ps.map fun p => (rankP P p.1.toNat, p.2)⟩ HQ.out.2.2 _ (hd.down hsz) (by rw [List.length_map, List.length_take]; omega) hsz2 22
                    have r4 := hv.below_push (hr.out.2.trans (hq.out.1.mono hsz)) r3 hsz2
                    rw [← HSX.out, ← HT.out] at r2
                    have H3 := Lib.hid (And.intro r2 r4)
                    have HR := Lib.hid r1
                    clear r1 r2 r3 r4 hd hv hsz hsz2 hq hr
                    go_wp2_with (at_builtin; refine wpList_app rfl (.tmp 111) (.tmp 113) 22 rfl _ _ v' w8 rfl rfl HR.out ?_)
                    go_roundw
                    case rel => exact ⟨k + 1, by go_num, by omega, H3⟩
                    case measure => simp [intOf]; omega
              · obtain rfl : k = m := by omega
                have h1 := hr.out.1
                rw [HMM.out, List.take_length, ← subL_sel] at h1
                have h2 := HIL.out.below hr.out.2
                have HF := Lib.hid (And.intro h1 (And.intro h2 (HNB.out.2.trans (hr.out.2.mono HNB.out.2.size))))
                have hsz := HNB.out.2.size
                clear h1 h2 hr
                have hkm := HMM.out
                clear HMM
                subst hkm
                go_wp2
                go_ret3
                have hr := HM3.out
                subst hr
                exact ⟨_, Av, cv, rfl, HF.out.1.down hsz, HF.out.2.1, HF.out.2.2⟩
  · have hm2 := HM.out
    unfold onlyE at hm2
    rw [if_pos (by rw [← HE.out]; exact hz), ← HE.out] at hm2
    have HM2 := Lib.hid hm2
    have d1 : (E == 0) = false := by rw [beq_eq_false_iff_ne]; exact hz
    have d2 : (E != 0) = true := by rw [bne_iff_ne]; exact hz
    clear hm2 hz
    go_wp2
    go_ret3
    exact OutO.no HM2.out ib.out
end Go.Proofs.Ytdgmpaijpjkeoaa
/-
  THE REFERENCE: inside, of no lots; lists of lots apart from another list.
-/
namespace Go.Proofs.Ytdgmpaijpjkeoaa
open Go.RowKit
theorem boolRun (w : World) (ty : TypeId) (M : Option Addr) (c : Nat) : ∃ v w', (Builtin.append_ #[83, 83] ty #[.slice (some ⟨w.heap.size, 0, none⟩) 0 0, .slice M 0 c]).run Try.prog (w.alloc (.cells #[] 4)) = .ok v w' ∧ w'.ownsRow w.heap.size 4 1 v 0 [] ∧ (w.alloc (.cells #[] 4)).grownBy w' (some w.heap.size) := by
  obtain ⟨i0, hi, hz0, hz1, hz2⟩ := info_parts boolInfo
  obtain ⟨s, w', h1, h2, h3, -⟩ := app_run (P := Try.prog) (w.alloc (.cells #[] 4)) 83 ty 4 i0 (.bool false) 1 1 w.heap.size Try.underlying83 hi hz0 hz1 hz2 rfl (by decide) (.slice (some ⟨w.heap.size, 0, none⟩) 0 0) 0 [] (empty_own w _ _) M 0 c [] rfl (fun hp => by simp at hp) (fun u hu => by simp at hu) (by decide) (by omega) (by simp)
  exact ⟨s, w', h1, h2, h3⟩
set_option maxRecDepth 100000 in
set_option maxHeartbeats 1000000 in
theorem inside_none (A : Option Addr) (c : Nat) (M : Option Addr) (d : Nat) (w : World) :
    Calls Try.prog 84 #[.slice A 0 c, .slice M 0 d] w fun e w' => (∃ R cap, e = .returned (.slice R 0 cap)) ∧ Below w.heap.size w w' := by
  obtain ⟨v, w', h1, h2, h3⟩ := boolRun w 83 M d
  obtain ⟨R, cap, hv, -, -⟩ := own_slice h2
  subst hv
  have H := Lib.hid (below_grown ((Below.refl w.heap.size w).alloc (Nat.le_refl _) (.cells #[] 4)) h3 (Nat.le_refl _) (by simp))
  have HR := Lib.hid h1
  clear h1 h2 h3
  go_enter Try.func84, Try.ntmps84
  go_upto_region 2 with (at_builtin; refine wpList_app rfl (.tmp 8) (.tmp 9) 83 rfl _ _ (.slice R 0 cap) w' rfl rfl HR.out ?_)
  go_wp2
  go_loopw [6] (fun t wr => t = .int .i64 (-1) ∧ wr = w') (fun t _ => 0)
  case atStart => exact ⟨by first | trivial | rfl, by first | trivial | rfl⟩
  case round =>
    obtain ⟨rfl, rfl⟩ := hrel
    go_wp2
    go_ret
    exact ⟨⟨R, cap, rfl⟩, H.out⟩
/-- .. of any lots. -/
theorem inside_all (l : List LotD) (hl : l.length ≤ 24) (hg : GoodAll l) (A : Option Addr) (c : Nat) (M : Option Addr) (d : Nat) (B : Nat → Bool) (w : World) (hL : LotsIn w A l) (hM : IsB w M l.length (rowB l.length B)) :
    Calls Try.prog 84 #[.slice A l.length c, .slice M l.length d] w fun e w' => ∃ R cap, e = .returned (.slice R l.length cap) ∧ IsB w' R l.length (rowB l.length (resB l B)) ∧ Below w.heap.size w w' := by
  rcases Nat.eq_zero_or_pos l.length with h0 | h0
  · obtain rfl : l = [] := List.eq_nil_of_length_eq_zero h0
    refine (inside_none A c M d w).mono ?_
    rintro e w' ⟨⟨R, cap, rfl⟩, hb⟩
    exact ⟨R, cap, rfl, ⟨rfl, fun hp => by simp at hp⟩, hb⟩
  · refine (inside_any l hl hg h0 A c M d B w hL hM).mono ?_
    rintro e w' ⟨rb, cap, rfl, hrow, hb, -⟩
    have := hrow.isB
    rw [rowB_length] at this
    exact ⟨_, cap, rfl, this, hb⟩
theorem PartO.grown2 {w w' : World} {B : Nat} {row hb hb' : Option Nat} {ps : List (Int × Int)} {s : Value} (h1 : PartO w B row ps s) (h2 : PartO w B hb ps s) (hg : w.grownBy w' row) (hb2 : hb' = hb ∨ hb' = some w.heap.size ∨ hb' = some (w.heap.size + 1)) : PartO w' B hb' ps s := by
  obtain ⟨A, c, rfl, a1, a2, a3⟩ := h1
  obtain ⟨A', c', e, b1, b2, b3⟩ := h2
  cases e
  refine ⟨A, c, rfl, a1, ⟨a2.1, fun hp => ?_⟩, fun hp => ?_⟩
  · obtain ⟨g, rfl, e2, e3, e4⟩ := a3 hp
    obtain ⟨b, o, hb, hlt, hc⟩ := a2.2 hp
    cases hb
    have hbk : w'.heap[g]? = w.heap[g]? := hg.block g hlt (fun e => e3 e.symm)
    refine ⟨g, 0, rfl, Nat.lt_of_lt_of_le hlt hg.size, fun k hk => ?_⟩
    obtain ⟨q1, q2⟩ := hc k hk
    exact ⟨(World.cell?_of_block (a := ⟨g, _, none⟩) hbk).trans q1, (World.cell?_of_block (a := ⟨g, _, none⟩) hbk).trans q2⟩
  · obtain ⟨g, rfl, e2, e3, e4⟩ := a3 hp
    obtain ⟨g', e, f2, f3, f4⟩ := b3 hp
    cases e
    have hlt := e4.lt
    refine ⟨g, rfl, e2, ?_, e4.of_block (hg.block g hlt (fun e => e3 e.symm))⟩
    rcases hb2 with rfl | rfl | rfl
    · exact f3
    · intro e; cases e; omega
    · intro e; cases e; omega
/-- A list of lots in new memory, apart from the block av. -/
def OwnLA (w : World) (B : Nat) (v : Value) (ls : List LotD) (av : Option Nat) : Prop :=
  (∃ ts : List LotC, w.ownsRow B 37 3 v ls.length (flat3 ts) ∧ ts.length = ls.length ∧ ∀ i (h : i < ls.length) (h' : i < ts.length), ts[i].1 = ls[i].kind ∧ ts[i].2.1 = ls[i].mass ∧ I64 ls[i].kind ∧ I64 ls[i].mass ∧ PartO w B v.ownBlock ls[i].parts ts[i].2.2 ∧ PartO w B av ls[i].parts ts[i].2.2) ∧ (v.ownBlock = none ∨ v.ownBlock ≠ av)
theorem OwnLA.own {w : World} {B : Nat} {v : Value} {ls : List LotD} {av : Option Nat} (h : OwnLA w B v ls av) : OwnL w B v ls := by
  obtain ⟨⟨ts, h1, h2, h3⟩, -⟩ := h
  refine ⟨ts, h1, h2, fun i hi hi' => ?_⟩
  obtain ⟨e1, e2, e3, e4, e5, -⟩ := h3 i hi hi'
  exact ⟨e1, e2, e3, e4, e5⟩
theorem OwnLA.nil (w : World) (B : Nat) (av : Option Nat) : OwnLA w B (.slice none 0 0) [] av := ⟨⟨[], World.ownsRow_nil _ _ _ _, rfl, fun i h => by simp at h⟩, .inl rfl⟩
theorem OwnLA.below {w w' : World} {B : Nat} {v : Value} {ls : List LotD} {av : Option Nat} (h : OwnLA w B v ls av) (hb : Below w.heap.size w w') : OwnLA w' B v ls av := by
  obtain ⟨⟨ts, h1, h2, h3⟩, h4⟩ := h
  refine ⟨⟨ts, World.ownsRow.kept h1 (row := none) ⟨hb.os, hb.tape, hb.output, hb.size, fun k hk _ => hb.block k hk⟩ (by cases v.ownBlock <;> simp), h2, fun i hi hi' => ?_⟩, h4⟩
  obtain ⟨e1, e2, e3, e4, e5, e6⟩ := h3 i hi hi'
  exact ⟨e1, e2, e3, e4, e5.below hb, e6.below hb⟩
/-- The other block is written, or another one takes its place. -/
theorem OwnLA.other {w w' : World} {B : Nat} {v : Value} {ls : List LotD} {av av' : Option Nat} (h : OwnLA w B v ls av) (hg : w.grownBy w' av) (hd : av' = av ∨ av' = some w.heap.size ∨ av' = some (w.heap.size + 1)) : OwnLA w' B v ls av' := by
  have hlt := h.own.lt
  obtain ⟨⟨ts, h1, h2, h3⟩, h4⟩ := h
  refine ⟨⟨ts, World.ownsRow.kept h1 hg h4, h2, fun i hi hi' => ?_⟩, ?_⟩
  · obtain ⟨e1, e2, e3, e4, e5, e6⟩ := h3 i hi hi'
    exact ⟨e1, e2, e3, e4, e6.grown2 e5 hg (.inl rfl), e6.grown2 e6 hg hd⟩
  · rcases h4 with h4 | h4
    · exact .inl h4
    · rcases hd with rfl | rfl | rfl
      · exact .inr h4
      · exact .inr (fun e => by have := hlt _ e; omega)
      · exact .inr (fun e => by have := hlt _ e; omega)
/-- An old block is written. -/
theorem OwnLA.low {w w' : World} {B nb : Nat} {v : Value} {ls : List LotD} {av : Option Nat} (h : OwnLA w B v ls av) (hg : w.grownBy w' (some nb)) (hn : nb < B) : OwnLA w' B v ls av := by
  have hlt := h.own.lt
  obtain ⟨⟨ts, h1, h2, h3⟩, h4⟩ := h
  have hm : ∀ {ps s}, PartO w B v.ownBlock ps s → PartO w B (some nb) ps s := fun hp => hp.move (Nat.le_refl _) (fun g e => by cases e; exact hn)
  refine ⟨⟨ts, World.ownsRow.kept h1 hg (by
    rcases hv : v.ownBlock with _ | g
    · exact .inl rfl
    · exact .inr (fun e => by cases e; have := hlt _ hv; omega)), h2, fun i hi hi' => ?_⟩, h4⟩
  obtain ⟨e1, e2, e3, e4, e5, e6⟩ := h3 i hi hi'
  exact ⟨e1, e2, e3, e4, (hm e5).grown2 e5 hg (.inl rfl), (hm e5).grown2 e6 hg (.inl rfl)⟩
theorem OwnLA.push {w : World} {B : Nat} {v : Value} {ls : List LotD} {av : Option Nat} (h : OwnLA w B v ls av) (x : LotD) (hx : I64 x.kind ∧ I64 x.mass) (s : Value) (hs : PartO w B v.ownBlock x.parts s) (hs2 : PartO w B av x.parts s) (hav : ∀ g, av = some g → g < w.heap.size) (hn : ls.length ≤ 1000) (hB : B ≤ w.heap.size) (ty : TypeId) :
    ∃ v' w', (Builtin.append_ #[22, 22] ty #[v, .slice (some ⟨w.heap.size, 0, none⟩) 1 1]).run Try.prog (w.alloc (.cells (lotC x.kind x.mass s) 37)) = .ok v' w' ∧ OwnLA w' B v' (ls ++ [x]) av ∧ w.grownBy w' v.ownBlock := by
  have hal := (Below.refl w.heap.size w).alloc (Nat.le_refl _) (.cells (lotC x.kind x.mass s) 37)
  have h1 := h.below hal
  have hs1 := hs.below hal
  have hs3 := hs2.below hal
  obtain ⟨⟨ts, t1, t2, t3⟩, t4⟩ := h1
  have hcells : CellsAt (w.alloc (.cells (lotC x.kind x.mass s) 37)) (some ⟨w.heap.size, 0, none⟩) (flat3 [(x.kind, x.mass, s)]) := fun _ => ⟨w.heap.size, 0, rfl, by simp, fun j u hu => by
    have hb := cell_of_row (w.alloc (.cells (lotC x.kind x.mass s) 37)) w.heap.size (0 + j) (lotC x.kind x.mass s) _ (0, 0) (heap_alloc_new w _)
    rw [hb, Nat.zero_add]
    simp only [flat3, List.flatMap_cons, List.flatMap_nil, List.append_nil] at hu
    simp only [lotC, List.getElem?_toArray]
    exact hu⟩
  obtain ⟨v', w', r1, r2, r3, r4⟩ := lots_run (w.alloc (.cells (lotC x.kind x.mass s) 37)) ty (some ⟨w.heap.size, 0, none⟩) 1 1 [(x.kind, x.mass, s)] rfl (fun t ht => by simp at ht; subst ht; exact hs.one) hcells B v ls.length (flat3 ts) (by omega) t1 (by simp; omega)
  have hd : v'.ownBlock = v.ownBlock ∨ v'.ownBlock = some (w.alloc (.cells (lotC x.kind x.mass s) 37)).heap.size ∨ v'.ownBlock = some ((w.alloc (.cells (lotC x.kind x.mass s) 37)).heap.size + 1) := by
    rcases r4 with h | h
    · exact .inl h
    · exact .inr (.inl h)
  refine ⟨v', w', r1, ⟨⟨ts ++ [(x.kind, x.mass, s)], ?_, by simp [t2], fun i hi hi' => ?_⟩, ?_⟩, ⟨r3.os, r3.tape, r3.output, by have := r3.size; simp at this; omega, fun k hk hne => (r3.block k (by simp; omega) hne).trans (heap_alloc_old w _ hk)⟩⟩
  · rw [flat3_append, List.length_append]
    exact r2
  · by_cases hil : i < ls.length
    · rw [List.getElem_append_left hil, List.getElem_append_left (by omega)]
      obtain ⟨e1, e2, e3, e4, e5, e6⟩ := t3 i hil (by omega)
      exact ⟨e1, e2, e3, e4, e5.grown r3 (.inl rfl) hd, e5.grown2 e6 r3 (.inl rfl)⟩
    · have : i = ls.length := by simp at hi; omega
      subst this
      rw [List.getElem_append_right (Nat.le_refl _), List.getElem_append_right (by omega)]
      simp only [Nat.sub_self, t2, List.getElem_cons_zero]
      exact ⟨by first | trivial | rfl, by first | trivial | rfl, hx.1, hx.2, hs1.grown r3 (.inl rfl) hd, hs1.grown2 hs3 r3 (.inl rfl)⟩
  · rcases r4 with r4 | r4
    · rw [r4]; exact t4
    · refine .inr (fun e => ?_)
      rw [r4] at e
      have := hav _ e.symm
      simp at this
      omega
theorem OwnLA.below_push {w w0 w' : World} {B : Nat} {v : Value} {ls : List LotD} {av : Option Nat} (h : OwnLA w B v ls av) (hb : Below B w0 w) (hg : w.grownBy w' v.ownBlock) (hB : B ≤ w.heap.size) : Below B w0 w' := hb.grown hg hB (fun g hg => (h.own.lt g hg).1)
/-- The other list while this one grows. -/
theorem OwnLA.apart {w w' : World} {B B' : Nat} {v u : Value} {ls : List LotD} {zs : List Int} (h : OwnLA w B v ls u.ownBlock) (hu : OwnI w B' u zs) (hg : w.grownBy w' v.ownBlock) : OwnI w' B' u zs := hu.grown hg (by
  rcases h.2 with h | h
  · rcases hv : u.ownBlock with _ | g
    · exact .inl rfl
    · exact .inr (by rw [h]; simp)
  · exact .inr (fun e => h e.symm))
end Go.Proofs.Ytdgmpaijpjkeoaa
/-
  Only (the reference's).
-/
namespace Go.Proofs.Ytdgmpaijpjkeoaa
open Go.RowKit
attribute [local go_sem] grow_cell grow_frozen
set_option maxRecDepth 100000 in
set_option maxHeartbeats 2000000 in
theorem ronly_any (l : List LotD) (hl : l.length ≤ 1000) (hps : ∀ x ∈ l, x.parts.length ≤ 1000) (xs : List Int) (hxs : xs.length ≤ 1000) (h64 : ∀ x ∈ xs, I64 x) (r : List LotD × List Int × Int) (hm : onlyE l xs = r) (A : Option Addr) (c : Nat) (O : Option Addr) (d : Nat) (w : World) (hL : LotsIn w A l) (hO : IsL w O xs.length xs) :
    Calls Try.prog 51 #[.slice A l.length c, .slice O xs.length d] w (OutO w r) := by
  have HM := Lib.hid hm
  have HL := Lib.hid hL
  have HPS := Lib.hid hps
  have HO := Lib.hid hO
  have HX := Lib.hid h64
  clear hm hL hps hO h64
  go_enter Try.func51, Try.ntmps51
  go_wp2_with fail
  obtain ⟨E, hE⟩ : ∃ E, E = valE l := ⟨_, rfl⟩
  have hval := rvalidate_any l hl HPS.out A c w HL.out
  rw [← hE] at hval
  have HE := Lib.hid hE
  clear hE
  refine hval.mono ?_
  clear hval
  rintro e w1 ⟨rfl, hb1⟩
  have ib := Lib.hid hb1
  clear hb1
  by_cases hz : E = 0
  · subst hz
    have hm2 := HM.out
    unfold onlyE at hm2
    rw [if_neg (by rw [← HE.out]; decide)] at hm2
    have hgl := valE_zero HE.out.symm
    have HM2 := Lib.hid hm2
    have HG := Lib.hid (show GoodAll l from hgl.lot)
    have hl24 := hgl.len
    have hmb := fun w => make_b l.length (by omega) w
    clear hm2 hgl HM HE
    go_upto_region 5 with fail
    obtain ⟨W, hW⟩ : ∃ W, W = w1.alloc (.cells (fcells l.length) 4) := ⟨_, rfl⟩
    rw [← hW]
    obtain ⟨mb, hmbb⟩ : ∃ mb, mb = w1.heap.size := ⟨_, rfl⟩
    rw [← hmbb]
    have N0 := Lib.hid (show RowB W mb (rowB l.length (markB (xs.take 0))) ∧ Below w.heap.size w W ∧ w.heap.size ≤ mb from by
      rw [show markB (xs.take 0) = fun _ => false from funext fun j => by simp [markB], show rowB l.length (fun _ => false) = List.replicate l.length false by unfold rowB; rw [List.map_const', List.length_range], hW, hmbb]
      exact ⟨RowB.start _ _, ib.out.alloc ib.out.size _, ib.out.size⟩)
    clear hW hmbb hmb ib
    go_wp2
    go_loopw [9] (fun t wr => ∃ k : Nat, t = .int .i64 k ∧ k ≤ xs.length ∧ Hid (RowB wr mb (rowB l.length (markB (xs.take k))) ∧ Below w.heap.size w wr ∧ w.heap.size ≤ mb) ∧ Hid (∀ j, j < k → keepB l.length xs j = false)) (fun t _ => xs.length - (intOf t).toNat)
    case atStart => exact ⟨0, rfl, by omega, N0, Lib.hid (fun j hj => by omega)⟩
    case round =>
      clear N0
      obtain ⟨k, rfl, hk, hw, hr⟩ := hrel
      by_cases hlt : k < xs.length
      · obtain ⟨b, o, rfl, hbz, hcx⟩ := (HO.out.below hw.out.2.1).2 (by omega)
        have q1 := hcx k hlt
        have hxk := HX.out (xs.getD k 0) (by rw [List.getD_eq_getElem?_getD, List.getElem?_eq_getElem hlt]; exact List.getElem_mem _)
        have hxe : xs[k] = xs.getD k 0 := by rw [List.getD_eq_getElem?_getD, List.getElem?_eq_getElem hlt]; rfl
        obtain ⟨x, hx⟩ : ∃ x, x = xs.getD k 0 := ⟨_, rfl⟩
        rw [← hx] at q1 hxk hxe
        have HXX := Lib.hid hx
        have HXE := Lib.hid hxe
        have hx64 := hxk.1
        have hx65 := hxk.2
        clear hx hxk hxe
        by_cases hn : x < 0 ∨ (l.length : Int) ≤ x
        · have HBAD := Lib.hid (show (([] : List LotD), ([] : List Int), (1 : Int)) = r by
            have := HM2.out
            rw [if_pos (keepE_yes hlt (by unfold keepB; rw [← HXX.out]; rcases hn with h | h <;> simp [h]))] at this
            exact this)
          clear hcx
          by_cases hn0 : x < 0
          · have d1 : decide (x < 0) = true := decide_eq_true hn0
            go_wp2
            go_quiet (fail)
            go_wp2
            go_ret3
            exact OutO.no HBAD.out (below_drewN hw.out.2.1 _)
          · have hn1 : (l.length : Int) ≤ x := by omega
            have d1 : decide (x < 0) = false := decide_eq_false hn0
            have d2 : decide ((l.length : Int) ≤ x) = true := decide_eq_true hn1
            go_wp2
            go_quiet (fail)
            go_wp2
            go_ret3
            exact OutO.no HBAD.out (below_drewN hw.out.2.1 _)
        · have hn0 : 0 ≤ x := by omega
          have hn1 : x < l.length := by omega
          obtain ⟨x, rfl⟩ : ∃ y : Nat, x = y := ⟨x.toNat, by omega⟩
          have d1 : decide ((x : Int) < 0) = false := decide_eq_false (by omega)
          have d2 : decide ((l.length : Int) ≤ (x : Int)) = false := decide_eq_false (by omega)
          have hxl : x < l.length := by omega
          have d5 : decide (l.length ≤ x) = false := decide_eq_false (by omega)
          have HST := Lib.hid (rowB_set (n := l.length) (i := x) (markB_snoc hlt HXE.out))
          clear hn
          by_cases hk0 : 0 < k
          · obtain ⟨j, rfl⟩ : ∃ j, k = j + 1 := ⟨k - 1, by omega⟩
            have q2 := hcx j (by omega)
            obtain ⟨y, hy⟩ : ∃ y, y = xs.getD j 0 := ⟨_, rfl⟩
            rw [← hy] at q2
            have HY := Lib.hid hy
            clear hcx hy hk0
            by_cases hle : (x : Int) ≤ y
            · have HBAD := Lib.hid (show (([] : List LotD), ([] : List Int), (1 : Int)) = r by
                have := HM2.out
                rw [if_pos (keepE_yes hlt (by unfold keepB; rw [← HXX.out, Nat.add_sub_cancel, ← HY.out]; simp [hle]))] at this
                exact this)
              have d3 : decide ((x : Int) ≤ y) = true := decide_eq_true hle
              go_wp2
              go_quiet (fail)
              go_wp2
              go_ret3
              exact OutO.no HBAD.out (below_drewN hw.out.2.1 _)
            · have HOK := Lib.hid (show ∀ j', j' < j + 1 + 1 → keepB l.length xs j' = false from fun j' hj' => by
                by_cases he : j' < j + 1
                · exact hr.out j' he
                · obtain rfl : j' = j + 1 := by omega
                  unfold keepB
                  rw [← HXX.out, Nat.add_sub_cancel, ← HY.out, d1, d2, decide_eq_false hle]; simp)
              have d3 : decide ((x : Int) ≤ y) = false := decide_eq_false hle
              have r1 := RowB.at hw.out.1 x (by rw [rowB_length]; exact hxl)
              have r2 : wr.frozen? ⟨mb, x, none⟩ = false := Row.free hw.out.1 x
              have r3 := Row.lt hw.out.1
              obtain ⟨u, hu⟩ : ∃ u, u = (rowB l.length (markB (xs.take (j + 1)))).getD x false := ⟨_, rfl⟩
              rw [← hu] at r1
              have HSW := Lib.hid (fun m : Nat => show RowB ((wr.drewN m).setCell ⟨mb, x, none⟩ (.bool true)) mb (rowB l.length (markB (xs.take (j + 1 + 1)))) ∧ Below w.heap.size w ((wr.drewN m).setCell ⟨mb, x, none⟩ (.bool true)) ∧ w.heap.size ≤ mb from ⟨by rw [← HST.out]; exact Row.set (Row.drewN hw.out.1 m) x _ |> fun h => by simpa [RowB, List.map_set] using h, (below_drewN hw.out.2.1 m).setCell hw.out.2.2 _, hw.out.2.2⟩)
              clear hu hw hr
              go_wp2
              go_quiet (fail)
              go_wp2
              go_roundw
              case rel => exact ⟨j + 1 + 1, by go_num, by omega, Lib.hid (HSW.out _), HOK⟩
              case measure => simp [intOf]; omega
          · have HOK := Lib.hid (show ∀ j', j' < k + 1 → keepB l.length xs j' = false from fun j' hj' => by
              by_cases he : j' < k
              · exact hr.out j' he
              · obtain rfl : j' = k := by omega
                unfold keepB
                rw [← HXX.out, d1, d2, decide_eq_false hk0]; simp)
            have d3 : decide (0 < k) = false := decide_eq_false hk0
            have r1 := RowB.at hw.out.1 x (by rw [rowB_length]; exact hxl)
            have r2 : wr.frozen? ⟨mb, x, none⟩ = false := Row.free hw.out.1 x
            have r3 := Row.lt hw.out.1
            obtain ⟨u, hu⟩ : ∃ u, u = (rowB l.length (markB (xs.take k))).getD x false := ⟨_, rfl⟩
            rw [← hu] at r1
            have HSW := Lib.hid (fun m : Nat => show RowB ((wr.drewN m).setCell ⟨mb, x, none⟩ (.bool true)) mb (rowB l.length (markB (xs.take (k + 1)))) ∧ Below w.heap.size w ((wr.drewN m).setCell ⟨mb, x, none⟩ (.bool true)) ∧ w.heap.size ≤ mb from ⟨by rw [← HST.out]; exact Row.set (Row.drewN hw.out.1 m) x _ |> fun h => by simpa [RowB, List.map_set] using h, (below_drewN hw.out.2.1 m).setCell hw.out.2.2 _, hw.out.2.2⟩)
            clear hcx hu hw hr
            go_wp2
            go_quiet (fail)
            go_wp2
            go_roundw
            case rel => exact ⟨k + 1, by go_num, by omega, Lib.hid (HSW.out _), HOK⟩
            case measure => simp [intOf]; omega
      · obtain rfl : k = xs.length := by omega
        have hno := keepE_no hr.out
        have hm3 := HM2.out
        rw [if_neg (by rw [hno]; decide)] at hm3
        have hxr := keepE_range hno
        obtain ⟨P, hP⟩ : ∃ P, P = oldB l xs := ⟨_, rfl⟩
        have hres : rowB l.length (resB l (markB xs)) = rowB l.length P := by
          unfold rowB
          exact List.map_congr_left fun j _ => by rw [hP]; exact res_mark hxr j
        rw [← hP] at hm3
        have HPP := Lib.hid hP
        have HRS := Lib.hid hres
        have HM3 := Lib.hid hm3
        have hisb := hw.out.1.isB
        rw [rowB_length, List.take_length] at hisb
        have HIB := Lib.hid hisb
        have H1 := Lib.hid hw.out.2.1
        have hmk := fun w => make_i64 l.length (by omega) w
        clear hr hno hm3 HM2 hP hxr hres hisb hw
        go_wp2_with fail
        refine (inside_all l hl24 HG.out A c (some ⟨mb, 0, none⟩) l.length (markB xs) wr (HL.out.below H1.out) HIB.out).mono ?_
        rw [HRS.out]
        rintro e w2 ⟨R, cap, rfl, hib2, hb2⟩
        have H2 := Lib.hid (And.intro hib2 (H1.out.trans (hb2.mono H1.out.size)))
        clear hib2 hb2 H1 HIB
        go_upto_region 15 with fail
        obtain ⟨W, hW⟩ : ∃ W, W = w2.alloc (.cells (zcells l.length) 3) := ⟨_, rfl⟩
        rw [← hW]
        obtain ⟨nb, hnb⟩ : ∃ nb, nb = w2.heap.size := ⟨_, rfl⟩
        rw [← hnb]
        have hal := (Below.refl w2.heap.size w2).alloc (Nat.le_refl _) (.cells (zcells l.length) 3)
        rw [← hW] at hal
        have hnW : nb < W.heap.size := by rw [hW, hnb]; simp
        have hbW := H2.out.2.trans (hal.mono H2.out.2.size)
        have hwn : w2.heap.size ≤ nb := by omega
        have R0 := Lib.hid (show OwnLA W W.heap.size (.slice none 0 0) (subL l P 0) (Value.slice none 0 0).ownBlock ∧ OwnI W W.heap.size (.slice none 0 0) (selL P 0) ∧ RowI W nb (numR l.length P 0) ∧ Below w2.heap.size w2 W ∧ W.heap.size ≤ W.heap.size from by
          refine ⟨OwnLA.nil _ _ _, OwnI.nil _ _, ?_, hal, Nat.le_refl _⟩
          rw [hW, hnb, numR_zero]
          exact RowI.zeros _ _)
        have hw2W := hal.size
        have HF := Lib.hid hbW.size
        clear hW hnb hal hbW hmk
        obtain ⟨B, hB⟩ : ∃ B, B = W.heap.size := ⟨_, rfl⟩
        have hBW : B ≤ W.heap.size := by omega
        rw [← hB] at R0 hnW hw2W HF
        have R1 := Lib.hid (And.intro R0.out.1 (And.intro R0.out.2.1 (And.intro R0.out.2.2.1 (And.intro R0.out.2.2.2.1 hBW))))
        clear hB R0 hBW
        go_wp2
        go_loopw [11, 12, 14] (fun v u t wr => ∃ k : Nat, t = .int .i64 k ∧ k ≤ l.length ∧ Hid (OwnLA wr B v (subL l P k) u.ownBlock ∧ OwnI wr B u (selL P k) ∧ RowI wr nb (numR l.length P k) ∧ Below w2.heap.size w2 wr ∧ B ≤ wr.heap.size)) (fun _ _ t _ => l.length - (intOf t).toNat)
        case atStart => exact ⟨0, rfl, by omega, R1⟩
        case round =>
          clear R1
          obtain ⟨k, rfl, hk, hr⟩ := hrel
          by_cases hlt : k < l.length
          · obtain ⟨b, o, rfl, hbz, hcx⟩ := (H2.out.1.below hr.out.2.2.2.1).2 (by omega)
            have r1 := hcx k hlt
            rw [rowB_get hlt] at r1
            obtain ⟨x, hx⟩ : ∃ x, x = P k := ⟨_, rfl⟩
            rw [← hx] at r1
            have HXX := Lib.hid hx
            clear hx hcx
            cases x with
            | false =>
              have h := hr.out
              rw [← selL_no HXX.out.symm, ← subL_no HXX.out.symm, ← numR_no HXX.out.symm] at h
              have R2 := Lib.hid h
              clear hr h
              go_wp2
              go_roundw
              case rel => exact ⟨k + 1, by go_num, by omega, R2⟩
              case measure => simp [intOf]; omega
            | true =>
              obtain ⟨Av, cv, hu, hisl⟩ := hr.out.2.1.isL
              subst hu
              have q3 := RowI.get hr.out.2.2.1 k (by rw [numR_length]; exact hlt)
              have q4 : wr.frozen? ⟨nb, k, none⟩ = false := Row.free hr.out.2.2.1 k
              have q5 := Row.lt hr.out.2.2.1
              obtain ⟨m, hm⟩ : ∃ m, m = (selL P k).length := ⟨_, rfl⟩
              have HR := Lib.hid hr.out
              rw [← hm] at HR ⊢
              have hml : m ≤ 24 := by have := selL_length P k; omega
              obtain ⟨old, hold⟩ : ∃ old, old = (numR l.length P k).getD k 0 := ⟨_, rfl⟩
              rw [← hold] at q3
              have HMM := Lib.hid (show (m : Int) = rankP P k by rw [hm]; rfl)
              have HLM := Lib.hid (show (selL P k).length ≤ 1000000 by omega)
              have HLM2 := Lib.hid (show (subL l P k).length ≤ 1000 by rw [subL_length]; omega)
              clear hold hm hisl hr
              go_upto_region 20 with fail
              obtain ⟨W3, hW3⟩ : ∃ W3, W3 = wr.setCell ⟨nb, k, none⟩ (.int .i64 m) := ⟨_, rfl⟩
              rw [← hW3]
              have hgr : wr.grownBy W3 (some nb) := by rw [hW3]; exact ⟨rfl, rfl, rfl, by simp [World.setCell], fun q _ hne => Below.heap_setCell wr ⟨nb, k, none⟩ _ q (fun e => hne (by rw [e]))⟩
              have H3 := Lib.hid (show OwnLA W3 B _ (subL l P k) (Value.slice Av m cv).ownBlock ∧ OwnI W3 B (.slice Av m cv) (selL P k) ∧ RowI W3 nb (numR l.length P (k + 1)) ∧ Below w2.heap.size w2 W3 ∧ B ≤ W3.heap.size from ⟨HR.out.1.low hgr hnW, HR.out.2.1.grown hgr (by
                rcases hv : (Value.slice Av m cv).ownBlock with _ | g
                · exact .inl rfl
                · refine .inr (fun e => ?_)
                  have := HR.out.2.1.blk g hv
                  cases e
                  omega), by rw [hW3, HMM.out, ← numR_set HXX.out.symm]; exact HR.out.2.2.1.set k _, by rw [hW3]; exact HR.out.2.2.2.1.setCell hwn _, Nat.le_trans HR.out.2.2.2.2 hgr.size⟩)
              clear hgr hW3 q3 q4 q5 HR HMM r1 hbz
              obtain ⟨b, o, rfl, hc3⟩ := (HL.out.below (H2.out.2.trans (H3.out.2.2.2.1.mono H2.out.2.size))) (by omega)
              obtain ⟨e1, e2, e3, e4, e5, A', c', e6, e8, e7⟩ := hc3 k hlt
              have hpl := HPS.out _ (List.getElem_mem hlt)
              have hsx : subX l P k = ⟨l[k].kind, l[k].mass, l[k].parts.map fun p => (rankP P p.1.toNat, p.2)⟩ := by rw [subX, getD_at' hlt]
              have hprt : ∀ p ∈ l[k].parts, 0 ≤ p.1 ∧ p.1 < k ∧ P p.1.toNat = true ∧ I64 p.2 := fun p hp => by
                have h1 := (HG.out k hlt).part p hp
                have h2 := old_part HG.out (xs := xs) (i := k) (by rw [← HPP.out]; exact HXX.out.symm) (p := p) (by rw [getD_at' hlt]; exact hp)
                exact ⟨by omega, by omega, by rw [HPP.out]; exact h2, by constructor <;> omega⟩
              obtain ⟨X, hX⟩ : ∃ X, X = l[k] := ⟨_, rfl⟩
              rw [← hX] at e1 e2 e4 e5 e6 e7 e8 hpl hsx hprt
              obtain ⟨kd, ms, ps⟩ := X
              simp only at e1 e2 e4 e5 e6 e7 e8 hpl hsx hprt
              have HSX := Lib.hid hsx
              have HPR := Lib.hid hprt
              have HP := Lib.hid e7
              have HI := Lib.hid (And.intro e1 e2)
              clear hc3 hsx hprt hX e1 e2 e7 e8
              go_wp2_with fail
              refine (copyLot_any kd ms ps A' c' W3 HP.out hpl).mono ?_
              rintro e w5 ⟨s, rfl, hs, hb5⟩
              obtain ⟨A5, c6, rfl, hle, -⟩ := id hs
              have HQ := Lib.hid (And.intro hs hb5)
              clear hs hb5 HP e3 e4 e5 e6
              go_upto_region 21 with fail
              obtain ⟨W5, hW5⟩ : ∃ W5, W5 = w5.alloc (.cells (lotC kd ms (.slice A5 ps.length c6)) 37) := ⟨_, rfl⟩
              show Code.wp _ _ _ _ (w5.alloc (.cells (lotC kd ms (.slice A5 ps.length c6)) 37))
              rw [← hW5]
              obtain ⟨xb, hxb⟩ : ∃ xb, xb = w5.heap.size := ⟨_, rfl⟩
              rw [← hxb]
              have hal := (Below.refl w5.heap.size w5).alloc (Nat.le_refl _) (.cells (lotC kd ms (.slice A5 ps.length c6)) 37)
              rw [← hW5] at hal
              have T0 := Lib.hid (RenW.start (f := fun x => rankP P x.toNat) (kd := kd) (ms := ms) (HQ.out.2.trans (hal.mono HQ.out.2.size)) (show W3.heap.size ≤ xb by rw [hxb]; exact HQ.out.2.size) (by rw [hW5, hxb]; exact heap_alloc_new w5 _) (HQ.out.1.newhb hal (by omega)))
              obtain ⟨qz, q0, q1, q2⟩ := T0.out.cells
              clear hal hW5 hxb HQ
              go_wp2
              go_loopw [16] (fun t wq => ∃ j : Nat, t = .int .i64 j ∧ j ≤ ps.length ∧ Hid (RenW W3 wq xb kd ms A5 c6 ps (fun x => rankP P x.toNat) j)) (fun t _ => ps.length - (intOf t).toNat)
              case atStart => exact ⟨0, rfl, by omega, T0⟩
              case round =>
                clear T0 qz q0 q1 q2
                obtain ⟨j, rfl, hj, hq⟩ := hrel
                obtain ⟨qz, q0, q1, q2⟩ := hq.out.cells
                by_cases hjl : j < ps.length
                · obtain ⟨g, rfl, z1, z2, z3⟩ := hq.out.at hjl
                  have hp := HPR.out _ (List.getElem_mem hjl)
                  have hst := fun w7 (hb7 : Below wr.heap.size wr w7) => (hq.out.below hb7).step hjl
                  obtain ⟨p, hpp⟩ : ∃ p, p = ps[j] := ⟨_, rfl⟩
                  rw [← hpp] at z2 hp hst
                  obtain ⟨p1, p2⟩ := p
                  simp only at z2 hp hst
                  obtain ⟨x, rfl⟩ : ∃ x : Nat, p1 = x := ⟨p1.toNat, by omega⟩
                  rw [Int.toNat_natCast] at hst hp
                  have hx : x < l.length := by omega
                  have hnr := Row.below hq.out.1 (Row.lt H3.out.2.2.1) H3.out.2.2.1
                  have z4 := RowI.get hnr x (by rw [numR_length]; exact hx)
                  rw [numR_at hx (by omega) hp.2.2.1] at z4
                  have z5 := Row.lt hnr
                  obtain ⟨y, hy⟩ : ∃ y, y = rankP P x := ⟨_, rfl⟩
                  rw [← hy] at hst z4
                  have HST := Lib.hid hst
                  clear hst hnr hpp hy hp
                  go_upto_region 24 with fail
                  refine region_grow_tail 14 (by kernel_rfl) (by kernel_rfl) ?_
                  simp only [List.take_succ_cons, List.take_zero, List.drop_succ_cons, List.drop_zero]
                  repeat (go_big_quiet_step (fail))
                  refine wpQuiet_nil ?_
                  rintro w7 ⟨xg, hxg⟩
                  have hb7 := below_grow wr xg
                  rw [← hxg] at hb7
                  clear hxg xg
                  have HT7 := Lib.hid (HST.out w7 hb7)
                  have y1 := Nat.lt_of_lt_of_le z1 hb7.size
                  have y2 := (hb7.cell (p := ⟨g, j * 2, none⟩) z1).trans z2
                  have y3 := (hb7.frozen (p := ⟨g, j * 2, none⟩) z1).trans z3
                  clear z1 z2 z3 z4 z5 qz q0 q1 q2 hb7 HST hq
                  go_wp2
                  go_roundw
                  case rel => exact ⟨j + 1, by go_num, by omega, HT7⟩
                  case measure => simp [intOf]; omega
                · obtain rfl : j = ps.length := by omega
                  have hv := H3.out.1.below hq.out.1
                  have hol := H3.out.2.1.below hq.out.1
                  have hsz := H3.out.2.2.2.2
                  have hsz2 := Nat.le_trans hsz hq.out.1.size
                  have hdn := fun hb hlt => hq.out.done (hb := hb) (fun p hp => by
                    have h1 := HPR.out p hp
                    have h2 := rank_bd P p.1.toNat
                    exact ⟨by constructor <;> omega, h1.2.2.2⟩) hle hlt
                  have hd := hdn _ (fun g hg => (H3.out.1.own.lt g hg).2)
                  have hd2 := hdn _ (fun g hg => (H3.out.2.1.blk g hg).2)
                  obtain ⟨v', w8, r1, r2, r3⟩ := hv.push ⟨kd, ms, ps.map fun p => (rankP P p.1.toNat, p.2)⟩ HI.out _ (hd.down hsz) (hd2.down hsz) (fun g hg => (hol.blk g hg).2) HLM2.out hsz2 22
                  have r4 := hv.below_push (Below.refl B wr) r3 hsz2
                  have hol8 := hv.apart hol r3
                  rw [← HSX.out, ← subL_yes HXX.out.symm] at r2
                  have H8 := Lib.hid (show OwnLA w8 B v' (subL l P (k + 1)) (Value.slice Av m cv).ownBlock ∧ OwnI w8 B (.slice Av m cv) (selL P k) ∧ RowI w8 nb (numR l.length P (k + 1)) ∧ Below w2.heap.size w2 w8 ∧ B ≤ w8.heap.size from ⟨r2, hol8, Row.below r4 hnW (Row.below hq.out.1 (Row.lt H3.out.2.2.1) H3.out.2.2.1), H3.out.2.2.2.1.trans ((hq.out.1.mono H3.out.2.2.2.1.size).trans (r4.mono hw2W)), Nat.le_trans hsz2 r3.size⟩)
                  have HRN := Lib.hid r1
                  clear r1 r2 r3 r4 hd hd2 hdn hv hol hol8 hsz hsz2 hq H3
                  go_upto_region 26 with (at_builtin; refine wpList_app rfl (.tmp 115) (.tmp 117) 22 rfl _ _ v' w8 rfl rfl HRN.out ?_)
                  go_wp2_with (at_builtin; refine append_i64 (.tmp 119) (.tmp 121) rfl rfl B _ _ k w8 rfl rfl H8.out.2.1 rfl HLM.out H8.out.2.2.2.2 ?_)
                  intro u' w9 ho9 hg9 hd9
                  rw [← selL_yes HXX.out.symm] at ho9
                  have hb9 := Below.grown (Below.refl B w8) hg9 H8.out.2.2.2.2 (fun g hg => (H8.out.2.1.blk g hg).1)
                  have R2 := Lib.hid (show OwnLA w9 B v' (subL l P (k + 1)) u'.ownBlock ∧ OwnI w9 B u' (selL P (k + 1)) ∧ RowI w9 nb (numR l.length P (k + 1)) ∧ Below w2.heap.size w2 w9 ∧ B ≤ w9.heap.size from ⟨H8.out.1.other hg9 (by rcases hd9 with h | h; exact .inl h; exact .inr (.inr h)), ho9, Row.below hb9 hnW H8.out.2.2.1, H8.out.2.2.2.1.trans (hb9.mono hw2W), Nat.le_trans H8.out.2.2.2.2 hg9.size⟩)
                  clear ho9 hg9 hd9 hb9 H8 HRN
                  go_wp2
                  go_roundw
                  case rel => exact ⟨k + 1, by go_num, by omega, R2⟩
                  case measure => simp [intOf]; omega
          · obtain rfl : k = l.length := by omega
            obtain ⟨Av, cv, hu, hisl⟩ := hr.out.2.1.isL
            subst hu
            have HZ := Lib.hid (And.intro (hr.out.1.own.down HF.out) (And.intro hisl (H2.out.2.trans (hr.out.2.2.2.1.mono H2.out.2.size))))
            clear hisl hr
            go_wp2
            go_ret3
            have hr := HM3.out
            subst hr
            exact ⟨_, Av, cv, rfl, HZ.out⟩
  · have hm2 := HM.out
    unfold onlyE at hm2
    rw [if_pos (by rw [← HE.out]; exact hz), ← HE.out] at hm2
    have HM2 := Lib.hid hm2
    have d1 : (E == 0) = false := by rw [beq_eq_false_iff_ne]; exact hz
    have d2 : (E != 0) = true := by rw [bne_iff_ne]; exact hz
    clear hm2 hz
    go_wp2
    go_ret3
    exact OutO.no HM2.out ib.out
end Go.Proofs.Ytdgmpaijpjkeoaa
