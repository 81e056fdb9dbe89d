/-
  THE PROGRAM's PARSER: expr (begun): the boxes; the text of the laws' own check.
-/
import Derived.Test.YtgmokojdlbdjeaaGreatDoorParF
import Derived.Test.YtgmokojdlbdjeaaGreatDoorOwn
import Derived.Deep.CutBlock
import Derived.Deep.DeepCutAuto
import Derived.Test.YtgmokojdlbdjeaaGreatDoorRegP
namespace Go.Proofs.YtgmokojdlbdjeaaGreatDoor
open Go.RowKit
attribute [local go_sem] sub_cell sub_frozen
/-- A box that holds an expression. -/
def EBox (w : World) (bx : Nat) (s : ByteArray) (nv dv pv : Value) : Prop := w.heap[bx]? = some (.cells #[.string s, nv, dv, pv] 78 (0, 0))
theorem EBox.cells {w : World} {bx : Nat} {s : ByteArray} {nv dv pv : Value} (h : EBox w bx s nv dv pv) : w.cell? ⟨bx, 0, none⟩ = some (.string s) ∧ w.cell? ⟨bx, 1, none⟩ = some nv ∧ w.cell? ⟨bx, 2, none⟩ = some dv ∧ w.cell? ⟨bx, 3, none⟩ = some pv ∧ bx < w.heap.size :=
  ⟨(cell_of_row w bx 0 _ _ (0, 0) h).trans rfl, (cell_of_row w bx 1 _ _ (0, 0) h).trans rfl, (cell_of_row w bx 2 _ _ (0, 0) h).trans rfl, (cell_of_row w bx 3 _ _ (0, 0) h).trans rfl, (Array.getElem?_eq_some_iff.1 h).1⟩
theorem EBox.frozen {w : World} {bx : Nat} {s : ByteArray} {nv dv pv : Value} (h : EBox w bx s nv dv pv) (i : Nat) : w.frozen? ⟨bx, i, none⟩ = false := frozen_of_row w bx i _ _ h
theorem EBox.keepG {w w' : World} {bx pb : Nat} {s : ByteArray} {nv dv pv : Value} (h : EBox w bx s nv dv pv) (hg : w.grownBy w' (some pb)) (hne : bx ≠ pb) : EBox w' bx s nv dv pv :=
  (hg.block _ (Array.getElem?_eq_some_iff.1 h).1 (fun e => hne (by cases e; rfl))).trans h
theorem EBox.other {w : World} {bx : Nat} {s : ByteArray} {nv dv pv : Value} (h : EBox w bx s nv dv pv) {p : Addr} (hp : bx ≠ p.block) (u : Value) : EBox (w.setCell p u) bx s nv dv pv := (Below.heap_setCell w p u bx hp).trans h
theorem EBox.set1 {w : World} {bx : Nat} {s : ByteArray} {nv dv pv : Value} (h : EBox w bx s nv dv pv) (u : Value) : EBox (w.setCell ⟨bx, 1, none⟩ u) bx s u dv pv := by
  obtain ⟨hg, he⟩ := Array.getElem?_eq_some_iff.1 h
  unfold EBox
  simp [World.setCell, hg, Array.getElem_modify, he]
theorem EBox.set2 {w : World} {bx : Nat} {s : ByteArray} {nv dv pv : Value} (h : EBox w bx s nv dv pv) (u : Value) : EBox (w.setCell ⟨bx, 2, none⟩ u) bx s nv u pv := by
  obtain ⟨hg, he⟩ := Array.getElem?_eq_some_iff.1 h
  unfold EBox
  simp [World.setCell, hg, Array.getElem_modify, he]
theorem EBox.set3 {w : World} {bx : Nat} {s : ByteArray} {nv dv pv : Value} (h : EBox w bx s nv dv pv) (u : Value) : EBox (w.setCell ⟨bx, 3, none⟩ u) bx s nv dv u := by
  obtain ⟨hg, he⟩ := Array.getElem?_eq_some_iff.1 h
  unfold EBox
  simp [World.setCell, hg, Array.getElem_modify, he]
theorem EBox.new (w : World) (s : ByteArray) (nv dv pv : Value) : EBox (w.alloc (.cells #[.string s, nv, dv, pv] 78)) w.heap.size s nv dv pv := heap_alloc_new w _
theorem EBox.row {w : World} {bx : Nat} {s s' : ByteArray} {nv dv pv nv' dv' pv' : Value} (h : EBox w bx s nv dv pv) : EBox (w.setRow bx #[.string s', nv', dv', pv']) bx s' nv' dv' pv' := by
  obtain ⟨hg, he⟩ := Array.getElem?_eq_some_iff.1 h
  unfold EBox
  simp [World.setRow, hg, Array.getElem_modify, he]
theorem exprSz (s nv dv pv : Value) : (Tryz.prog.info? 78).map (·.size) = some (#[s, nv, dv, pv] : Array Value).size := by
  have h : (Tryz.prog.info? 78).map (·.size) = some 4 := by kernel_rfl
  exact h
def nilS : Value := .slice none 0 0
/-- The world while an expression is read: the result's box, the own box; the parser. -/
structure EW (B pb : Nat) (w wr : World) (rb xb : Nat) (s : ByteArray) (nv dv pv : Value) (ws : List ByteArray) : Prop where
  r : EBox wr rb ⟨#[]⟩ nilS nilS nilS
  x : EBox wr xb s nv dv pv
  ps : PS B wr pb ws
  pw : PW pb wr
  m : Mod ws
  g : w.grownBy wr (some pb)
  wr' : w.heap.size ≤ rb
  rx : rb < xb
  pB : pb < B ∧ B ≤ w.heap.size
section
variable {B pb : Nat} {w wr w1 : World} {rb xb : Nat} {s : ByteArray} {nv dv pv : Value} {ws ws' : List ByteArray}
theorem EW.step (h : EW B pb w wr rb xb s nv dv pv ws) (hg : wr.grownBy w1 (some pb)) (hp : PS B w1 pb ws') (hm : Mod ws') : EW B pb w w1 rb xb s nv dv pv ws' :=
  have hpB := h.pB
  have h1 := h.wr'
  have h2 := h.rx
  ⟨h.r.keepG hg (by omega), h.x.keepG hg (by omega), hp, h.pw.grown hg, hm, grown_then h.g hg, h.wr', h.rx, h.pB⟩
theorem EW.keep (h : EW B pb w wr rb xb s nv dv pv ws) (hb : Below wr.heap.size wr w1) : EW B pb w w1 rb xb s nv dv pv ws :=
  h.step (grown_of hb _) (h.ps.other (hb.mono h.ps.lt.2)) h.m
theorem set_grown {P : Prop} (w : World) (b i : Nat) (u : Value) (h : w.grownBy (w.setCell ⟨b, i, none⟩ u) (some b) → P) : P :=
  h ⟨rfl, rfl, rfl, by simp [World.setCell], fun q _ hne => Below.heap_setCell w ⟨b, i, none⟩ u q (fun e => hne (by rw [e]))⟩
theorem EW.set (h : EW B pb w wr rb xb s nv dv pv ws) (i : Nat) (u : Value) {nv' dv' pv' : Value} (hx : EBox (wr.setCell ⟨xb, i, none⟩ u) xb s nv' dv' pv') : EW B pb w (wr.setCell ⟨xb, i, none⟩ u) rb xb s nv' dv' pv' ws := by
  have hpB := h.pB
  have h1 := h.wr'
  have h2 := h.rx
  have hbel : Below xb wr (wr.setCell ⟨xb, i, none⟩ u) := (Below.refl xb wr).setCell (Nat.le_refl _) u
  exact ⟨h.r.other (p := ⟨xb, i, none⟩) (by show rb ≠ xb; omega) u, hx, h.ps.other (hbel.mono (by omega)), h.pw.below hbel (by omega), h.m, grown_low h.g (hbel.mono (by omega)), h.wr', h.rx, h.pB⟩
end
theorem numsO_mod : ∀ (k : Nat) (ws : List ByteArray) (l : List Int) (r : List ByteArray), numsO k ws = some (l, r) → Mod ws → Mod r ∧ l.length = k
  | 0, ws, l, r, h, hm => by simp only [numsO, Option.some.injEq, Prod.mk.injEq] at h; obtain ⟨rfl, rfl⟩ := h; exact ⟨hm, rfl⟩
  | k + 1, [], l, r, h, hm => by simp [numsO] at h
  | k + 1, s :: ws, l, r, h, hm => by
    simp only [numsO] at h
    cases hv : numV s with
    | none => rw [hv] at h; cases h
    | some n =>
      rw [hv] at h
      simp only at h
      cases hk : numsO k ws with
      | none => rw [hk] at h; cases h
      | some p =>
        rw [hk] at h
        simp only [Option.some.injEq, Prod.mk.injEq] at h
        obtain ⟨rfl, rfl⟩ := h
        obtain ⟨h1, h2⟩ := numsO_mod k ws p.1 p.2 hk hm.tail
        exact ⟨h1, by simp [h2]⟩
theorem rowsO_mod {W H : Int} {ws : List ByteArray} {l : List Int} {r : List ByteArray} (h : rowsO W H ws = some (l, r)) (hm : Mod ws) : Mod r := by
  cases ws with
  | nil => cases h
  | cons s ws =>
    simp only [rowsO] at h
    split at h
    · simp only [Option.some.injEq, Prod.mk.injEq] at h
      obtain ⟨-, rfl⟩ := h
      exact hm.tail
    · cases h
attribute [local irreducible] RP.plainUpon RP.stepC
set_option maxRecDepth 100000 in
set_option maxHeartbeats 1000000 in
theorem expr_zero (pb : Nat) (w : World) : Calls Tryz.prog 106 #[.pointer (some ⟨pb, 0, none⟩), .int .i64 0] w fun e w' => e = .panicked MalP ∧ Below w.heap.size w w' := by
  have hno := demand_no
  go_enter Tryz.func106, Tryz.ntmps106
  go_wp2_with (go_at_call 120; refine (hno _).mono ?_; rintro e w' ⟨rfl, rfl⟩)
  exact ⟨rfl, rfl, (by repeat' (first | (with_reducible exact Below.refl _ _) | (with_reducible assumption) | (with_reducible refine below_drewN ?_ _) | (with_reducible refine below_step (by assumption) ?_ ?_) | (with_reducible refine Below.alloc ?_ ?_ _) | (with_reducible refine Below.setCell ?_ ?_ _) | (with_reducible refine Below.drew ?_) | go_size | (exact Below.size (by assumption)) | (refine Nat.le_trans (Below.size (by assumption)) ?_)))⟩
theorem word_eq (s : ByteArray) (l : List UInt8) : (s.toList == l) = decide (s = txt l) := by
  rw [Lib.toList_data]
  by_cases h : s = txt l
  · rw [decide_eq_true h, h]
    simp [txt]
  · rw [decide_eq_false h, beq_eq_false_iff_ne]
    intro e
    exact h (by cases s; rename_i d; simp only [txt] at *; congr; rw [← e])
section
variable {s : ByteArray} {r : List ByteArray}
theorem headO_grid (h : s = txt [103, 114, 105, 100]) : headO s r = (numsO 3 r).bind fun p => (rowsO (p.1.getD 0 0) (p.1.getD 2 0) p.2).map fun q => ((p.1, q.1, 0), q.2) := by rw [h]; rfl
theorem headO_bricks (h : s = txt [98, 114, 105, 99, 107, 115]) : headO s r = (numsO 3 r).bind fun p => (rowsO (p.1.getD 0 0) (p.1.getD 1 0) p.2).map fun q => ((p.1, q.1, 0), q.2) := by rw [h]; rfl
theorem headO_shift (h : s = txt [115, 104, 105, 102, 116]) : headO s r = (numsO 2 r).map fun p => ((p.1, [], 1), p.2) := by rw [h]; rfl
theorem headO_swell (h : s = txt [115, 119, 101, 108, 108]) : headO s r = (numsO 1 r).map fun p => ((p.1, [], 1), p.2) := by rw [h]; rfl
theorem headO_turn (h : s = txt [116, 117, 114, 110]) : headO s r = some (([], [], 1), r) := by rw [h]; rfl
theorem headO_mirror (h : s = txt [109, 105, 114, 114, 111, 114]) : headO s r = some (([], [], 1), r) := by rw [h]; rfl
theorem headO_recolor0 (h : s = txt [114, 101, 99, 111, 108, 111, 114]) : headO s [] = none := by rw [h]; rfl
theorem headO_recolor (h : s = txt [114, 101, 99, 111, 108, 111, 114]) (t : ByteArray) : headO s (t :: r) = if t.size = 8 ∧ DigT t then some (([], digL t, 1), r) else none := by rw [h]; rfl
theorem headO_over (h : s = txt [111, 118, 101, 114]) : headO s r = some (([], [], 2), r) := by rw [h]; rfl
theorem headO_none (h1 : ¬ s = txt [103, 114, 105, 100]) (h2 : ¬ s = txt [98, 114, 105, 99, 107, 115]) (h3 : ¬ s = txt [115, 104, 105, 102, 116]) (h4 : ¬ s = txt [115, 119, 101, 108, 108]) (h5 : ¬ s = txt [116, 117, 114, 110]) (h6 : ¬ s = txt [109, 105, 114, 114, 111, 114]) (h7 : ¬ s = txt [114, 101, 99, 111, 108, 111, 114]) (h8 : ¬ s = txt [111, 118, 101, 114]) : headO s r = none := by
  unfold headO
  rw [if_neg h1, if_neg h2, if_neg h3, if_neg h4, if_neg h5, if_neg h6, if_neg h7, if_neg h8]
end
theorem word_yes {s : ByteArray} {l : List UInt8} (h : s = txt l) : (s.toList == l) = true := by rw [word_eq]; exact decide_eq_true h
theorem word_no {s : ByteArray} {l : List UInt8} (h : ¬ s = txt l) : (s.toList == l) = false := by rw [word_eq]; exact decide_eq_false h
theorem exprInfo : (Tryz.prog.info? 78).map (fun i => (i.zero, i.size, i.bytes)) = some (some (.agg #[.string ⟨#[]⟩, .slice none 0 0, .slice none 0 0, .slice none 0 0]), 4, 88) := by kernel_rfl
/-- A world in which the blocks below B, but one, are as they were. -/
structure SubP (pb B : Nat) (w : World) where
  val : World
  prop : ∀ b, b < B → b ≠ pb → val.heap[b]? = w.heap[b]?
instance subp_inh {pb B : Nat} {w : World} : Nonempty (SubP pb B w) := ⟨⟨w, fun _ _ _ => rfl⟩⟩
theorem subp_cell {pb B b i : Nat} {w : World} (x : SubP pb B w) (h : b < B) (hn : b ≠ pb) : x.val.cell? ⟨b, i, none⟩ = w.cell? ⟨b, i, none⟩ := World.cell?_of_block (a := ⟨b, i, none⟩) (x.prop b h hn)
theorem subp_start (pb B : Nat) (w : World) : ∃ x : SubP pb B w, { w with drawn := w.drawn + 1 } = x.val := ⟨⟨{ w with drawn := w.drawn + 1 }, fun _ _ _ => rfl⟩, rfl⟩
theorem subp_of {pb : Nat} {w w' : World} (h : w.grownBy w' (some pb)) : ∃ x : SubP pb w.heap.size w, w' = x.val := ⟨⟨w', fun b h1 h2 => h.block b h1 (fun e => h2 (by cases e; rfl))⟩, rfl⟩
theorem subp_low {pb B : Nat} {w w' : World} (h : w.grownBy w' (some pb)) (hB : B ≤ w.heap.size) : ∃ x : SubP pb B w, w' = x.val := ⟨⟨w', fun b h1 h2 => h.block b (by omega) (fun e => h2 (by cases e; rfl))⟩, rfl⟩
theorem subp_low2 {pb B : Nat} {w w1 w' : World} (h : w.grownBy w1 (some pb)) (hB : B ≤ w.heap.size) (hb : Below B w1 w') : ∃ x : SubP pb B w, w' = x.val := ⟨⟨w', fun b h1 h2 => (hb.block b h1).trans (h.block b (by omega) (fun e => h2 (by cases e; rfl)))⟩, rfl⟩
theorem three_of {n : List Int} (h : n.length = 3) : ∃ a b c, n = [a, b, c] := by
  match n, h with
  | [a, b, c], _ => exact ⟨a, b, c, rfl⟩
theorem OwnI.isL3 {w : World} {B ln : Nat} {A : Option Addr} {c : Nat} {zs : List Int} (h : OwnI w B (.slice A ln c) zs) (hl : ln = 3) : ∃ b o, A = some ⟨b, o, none⟩ ∧ (b < w.heap.size ∧ B ≤ b) ∧ ∀ i, i < 3 → w.cell? ⟨b, o + i, none⟩ = some (.int .i64 (zs.getD i 0)) := by
  obtain ⟨A', c', e, h1, h2⟩ := h.isL
  cases e
  obtain ⟨b, o, rfl, hb, hc⟩ := h2 (by omega)
  exact ⟨b, o, rfl, ⟨hb, (Row.of_own h).2.2⟩, fun i hi => hc i (by omega)⟩
/-- append(s, x) of one expression, which lies in the block that was made last. -/
theorem ap_expr (w : World) (ty : TypeId) (B : Nat) (v : Value) (k : Nat) (cs : List Value) (s nv dv pv : Value) (hs1 : s.oneCell' = true) (h1 : nv.oneCell' = true) (h2 : dv.oneCell' = true) (h3 : pv.oneCell' = true) (hown : w.ownsRow B 78 4 v k cs) (hn : k ≤ 1000) (hB : B ≤ w.heap.size) :
    ∃ v' w', (Builtin.append_ #[76, 76] ty #[v, .slice (some ⟨w.heap.size, 0, none⟩) 1 1]).run Tryz.prog (w.alloc (.cells #[s, nv, dv, pv] 78)) = .ok v' w' ∧ w'.ownsRow B 78 4 v' (k + 1) (cs ++ [s, nv, dv, pv]) ∧ w.grownBy w' v.ownBlock ∧ (v'.ownBlock = v.ownBlock ∨ v'.ownBlock = some (w.heap.size + 1)) := by
  obtain ⟨i0, hi, hz0, hz1, hz2⟩ := info_parts exprInfo
  obtain ⟨v', w', hr, g2, g3, g4, g5⟩ := run_append_own_at (P := Tryz.prog) (w.alloc (.cells #[s, nv, dv, pv] 78)) B 76 ty 78 i0 (.agg #[.string ⟨#[]⟩, .slice none 0 0, .slice none 0 0, .slice none 0 0]) 4 88 Tryz.underlying76 hi hz0 hz1 hz2 rfl (by decide) v k _ (hown.alloc _) ⟨w.heap.size, 0, none⟩ 1 1 [s, nv, dv, pv] rfl
    (by
      intro j u hu
      have hj : j < 4 := by
        have := (List.getElem?_eq_some_iff.1 hu).1
        simpa using this
      have hcell := cell_of_row (w.alloc (.cells #[s, nv, dv, pv] 78)) w.heap.size j _ _ (0, 0) (heap_alloc_new w _)
      rw [Addr.add_mid, Nat.zero_add, hcell]
      simpa using hu)
    (by intro u hu; simp at hu; rcases hu with rfl | rfl | rfl | rfl <;> assumption) (by unfold maxLen; omega) (by omega) (by simp; omega)
  refine ⟨v', w', hr, g2, ⟨g3.os, g3.tape, g3.output, by have := g3.size; simp at this; omega, fun k hk hne => (g3.block k (by simp; omega) hne).trans (heap_alloc_old w _ hk)⟩, ?_⟩
  rcases g5 with g5 | g5
  · exact .inl g5
  · rw [g5]; exact .inr (by simp)
theorem headO_mod {s : ByteArray} {r r' : List ByteArray} {n d : List Int} {c : Nat} (h : headO s r = some ((n, d, c), r')) (hm : Mod r) : Mod r' := by
  unfold headO at h
  repeat' split at h
  all_goals first
  | (cases h; done)
  | (cases h; exact hm)
  | (cases h; exact hm.tail)
  | (rw [Option.bind_eq_some_iff] at h
     obtain ⟨p, h0, h⟩ := h
     rw [Option.map_eq_some_iff] at h
     obtain ⟨q, h1, h⟩ := h
     cases h
     exact rowsO_mod h1 (numsO_mod _ _ _ _ h0 hm).1)
  | (rw [Option.map_eq_some_iff] at h
     obtain ⟨q, h0, h⟩ := h
     cases h
     exact (numsO_mod _ _ _ _ h0 hm).1)
theorem exprO_mod : ∀ {k : Nat} {ws : List ByteArray} {x : ExprD} {r : List ByteArray}, exprO k ws = some (x, r) → Mod ws → Mod r := by
  intro k
  induction k with
  | zero => intro ws x r h; cases ws <;> simp [exprO] at h
  | succ k ih =>
    intro ws x r h hm
    cases ws with
    | nil => simp [exprO] at h
    | cons s ws =>
      simp only [exprO] at h
      rw [Option.bind_eq_some_iff] at h
      obtain ⟨p, h0, h⟩ := h
      rw [Option.map_eq_some_iff] at h
      obtain ⟨q, h1, h⟩ := h
      cases h
      have hp : ∀ {ws : List ByteArray} {x : ExprD} {r : List ByteArray}, paren (exprO k) ws = some (x, r) → Mod ws → Mod r := by
        intro ws x r h hm
        cases ws with
        | nil => simp [paren] at h
        | cons t ws =>
          simp only [paren] at h
          split at h
          · split at h
            · rename_i h2
              split at h
              · cases h; exact (ih h2 hm.tail).tail
              · cases h
            · cases h
          · cases h
      have hps : ∀ (c : Nat) {ws : List ByteArray} {l : List ExprD} {r : List ByteArray}, partsO (exprO k) c ws = some (l, r) → Mod ws → Mod r := by
        intro c
        induction c with
        | zero => intro ws l r h hm; simp only [partsO] at h; cases h; exact hm
        | succ c ihc =>
          intro ws l r h hm
          simp only [partsO] at h
          split at h
          · cases h
          · rename_i h2
            split at h
            · cases h
            · rename_i h3
              cases h
              exact ihc h3 (hp h2 hm)
      exact hps _ h1 (headO_mod (n := p.1.1) (d := p.1.2.1) (c := p.1.2.2) (r' := p.2) h0 hm.tail)
theorem own_some {w : World} {B E sz k : Nat} {v : Value} {cs : List Value} (h : w.ownsRow B E sz v k cs) (hk : 0 < k) : ∃ g c, v = .slice (some ⟨g, 0, none⟩) k c := by
  rcases h.2 with ⟨_, h0⟩ | ⟨g, cap, cur, e, -⟩
  · omega
  · exact ⟨g, cap, e⟩
def setE (w : World) (bx : Nat) (s nv dv pv : Value) : World := (((w.setCell ⟨bx, 0, none⟩ s).setCell ⟨bx, 1, none⟩ nv).setCell ⟨bx, 2, none⟩ dv).setCell ⟨bx, 3, none⟩ pv
theorem EBox.put {w : World} {bx : Nat} {s : ByteArray} {nv dv pv : Value} (h : EBox w bx s nv dv pv) (s' : ByteArray) (nv' dv' pv' : Value) : EBox (setE w bx (.string s') nv' dv' pv') bx s' nv' dv' pv' := by
  obtain ⟨hg, he⟩ := Array.getElem?_eq_some_iff.1 h
  unfold EBox setE
  simp [World.setCell, hg, Array.getElem_modify, he]
theorem setE_grown (w : World) (bx : Nat) (s nv dv pv : Value) : w.grownBy (setE w bx s nv dv pv) (some bx) := by
  refine ⟨rfl, rfl, rfl, by simp [setE, World.setCell], fun q _ hne => ?_⟩
  have hq : q ≠ bx := fun e => hne (by rw [e])
  unfold setE
  exact (Below.heap_setCell _ ⟨bx, 3, none⟩ _ q hq).trans ((Below.heap_setCell _ ⟨bx, 2, none⟩ _ q hq).trans ((Below.heap_setCell _ ⟨bx, 1, none⟩ _ q hq).trans (Below.heap_setCell _ ⟨bx, 0, none⟩ _ q hq)))
theorem ret_expr {w : World} {bx : Nat} {s : ByteArray} {nv dv pv : Value} {tmps : Array Value} {fn : Func} {p : Tmp} (h : fn.results = #[.cell p 78]) (hp : tmps.getD p undef = .pointer (some ⟨bx, 0, none⟩)) (hg : EBox w bx s nv dv pv) : (results fn tmps).run Tryz.prog w = .ok (.agg #[.string s, nv, dv, pv]) w :=
  results_cell_row h _ _ bx 78 _ (0, 0) _ hp hg Tryz.underlying78 rfl (exprSz (.string s) nv dv pv)
end Go.Proofs.YtgmokojdlbdjeaaGreatDoor
