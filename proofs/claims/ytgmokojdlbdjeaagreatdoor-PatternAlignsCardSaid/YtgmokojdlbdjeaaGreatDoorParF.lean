/-
  THE PROGRAM's PARSER: expressions, what they are. PLAIN.
-/
import Derived.Test.YtgmokojdlbdjeaaGreatDoorParD
namespace Go.Proofs.YtgmokojdlbdjeaaGreatDoor
open Go.RowKit
/-- A text of letters. -/
def txt (l : List UInt8) : ByteArray := ⟨l.toArray⟩
/-- An expression: without parts, of one part, of two. -/
inductive ExprD where
  | leaf (s : ByteArray) (n d : List Int)
  | one (s : ByteArray) (n d : List Int) (e : ExprD)
  | two (s : ByteArray) (n d : List Int) (e1 e2 : ExprD)
def mkE (s : ByteArray) (n d : List Int) : List ExprD → ExprD
  | [] => .leaf s n d
  | [e] => .one s n d e
  | e1 :: e2 :: _ => .two s n d e1 e2
/-- ( .. ) around an expression. -/
def paren (f : List ByteArray → Option (ExprD × List ByteArray)) : List ByteArray → Option (ExprD × List ByteArray)
  | [] => none
  | s :: r => if s = txt [40] then match f r with
      | some (x, t :: r2) => if t = txt [41] then some (x, r2) else none
      | _ => none
    else none
/-- So many of these. -/
def partsO (f : List ByteArray → Option (ExprD × List ByteArray)) : Nat → List ByteArray → Option (List ExprD × List ByteArray)
  | 0, ws => some ([], ws)
  | c + 1, ws => match paren f ws with
    | none => none
    | some (x, r) => match partsO f c r with
      | none => none
      | some (l, r2) => some (x :: l, r2)
/-- The numbers, the digits and the count of parts behind a word. -/
def headO (s : ByteArray) (r : List ByteArray) : Option ((List Int × List Int × Nat) × List ByteArray) :=
  if s = txt [103, 114, 105, 100] then (numsO 3 r).bind fun p => (rowsO (p.1.getD 0 0) (p.1.getD 2 0) p.2).map fun q => ((p.1, q.1, 0), q.2)
  else if s = txt [98, 114, 105, 99, 107, 115] then (numsO 3 r).bind fun p => (rowsO (p.1.getD 0 0) (p.1.getD 1 0) p.2).map fun q => ((p.1, q.1, 0), q.2)
  else if s = txt [115, 104, 105, 102, 116] then (numsO 2 r).map fun p => ((p.1, [], 1), p.2)
  else if s = txt [115, 119, 101, 108, 108] then (numsO 1 r).map fun p => ((p.1, [], 1), p.2)
  else if s = txt [116, 117, 114, 110] then some (([], [], 1), r)
  else if s = txt [109, 105, 114, 114, 111, 114] then some (([], [], 1), r)
  else if s = txt [114, 101, 99, 111, 108, 111, 114] then match r with
    | [] => none
    | t :: r2 => if t.size = 8 ∧ DigT t then some (([], digL t, 1), r2) else none
  else if s = txt [111, 118, 101, 114] then some (([], [], 2), r)
  else none
/-- What the words are, read so deep, and the words behind. -/
def exprO : Nat → List ByteArray → Option (ExprD × List ByteArray)
  | 0, _ => none
  | _ + 1, [] => none
  | k + 1, s :: r => (headO s r).bind fun p => (partsO (exprO k) p.1.2.2 p.2).map fun q => (mkE s p.1.1 p.1.2.1 q.1, q.2)
def knownT : ByteArray := ⟨#[98, 114, 105, 99, 107, 115, 32, 50, 32, 50, 32, 48, 32, 48, 49, 47, 49, 48]⟩
/-- The words of a text. -/
def wordsS (s : ByteArray) : List ByteArray := Lib.splitB ⟨#[32]⟩ 0 (Lib.countB s ⟨#[32]⟩) s
theorem known_expr : exprO 12 (wordsS knownT) = some (.leaf (txt [98, 114, 105, 99, 107, 115]) [2, 2, 0] [0, 1, 1, 0], []) := by kernel_rfl
end Go.Proofs.YtgmokojdlbdjeaaGreatDoor
/-
  THE PROGRAM's PARSER: expressions in memory, read.
-/
namespace Go.Proofs.YtgmokojdlbdjeaaGreatDoor
open Go.RowKit
/-- The value v is the list n, in blocks for which N holds. -/
def RdL (w : World) (N : Nat → Prop) (v : Value) (n : List Int) : Prop := ∃ A c, v = .slice A n.length c ∧ (0 < n.length → ∃ b o, A = some ⟨b, o, none⟩ ∧ b < w.heap.size ∧ N b ∧ ∀ i, i < n.length → w.cell? ⟨b, o + i, none⟩ = some (.int .i64 (n.getD i 0)))
/-- The value pv is the list of these aggregates of four cells. -/
def RdV (w : World) (N : Nat → Prop) (pv : Value) (vs : List Value) : Prop := ∃ b o c, pv = .slice (some ⟨b, o, none⟩) vs.length c ∧ b < w.heap.size ∧ N b ∧ ∀ i, i < (vs.flatMap fun v => v.cells.toList).length → w.cell? ⟨b, o + i, none⟩ = some ((vs.flatMap fun v => v.cells.toList).getD i undef)
/-- The value v is the expression. -/
def RdE (w : World) (N : Nat → Prop) : ExprD → Value → Prop
  | .leaf s n d, v => ∃ nv dv, v = .agg #[.string s, nv, dv, .slice none 0 0] ∧ RdL w N nv n ∧ RdL w N dv d
  | .one s n d e, v => ∃ nv dv pv v1, v = .agg #[.string s, nv, dv, pv] ∧ RdL w N nv n ∧ RdL w N dv d ∧ RdV w N pv [v1] ∧ RdE w N e v1
  | .two s n d e1 e2, v => ∃ nv dv pv v1 v2, v = .agg #[.string s, nv, dv, pv] ∧ RdL w N nv n ∧ RdL w N dv d ∧ RdV w N pv [v1, v2] ∧ RdE w N e1 v1 ∧ RdE w N e2 v2
section
variable {w w' : World} {N N' : Nat → Prop}
theorem RdL.kept {v : Value} {n : List Int} (h : RdL w N v n) (hs : w.heap.size ≤ w'.heap.size) (hk : ∀ b, N b → b < w.heap.size → w'.heap[b]? = w.heap[b]?) (hN : ∀ b, N b → b < w.heap.size → N' b) : RdL w' N' v n := by
  obtain ⟨A, c, h1, h2⟩ := h
  refine ⟨A, c, h1, fun hp => ?_⟩
  obtain ⟨b, o, rfl, hb, hn, hc⟩ := h2 hp
  exact ⟨b, o, rfl, by omega, hN b hn hb, fun i hi => (World.cell?_of_block (a := ⟨b, _, none⟩) (hk b hn hb)).trans (hc i hi)⟩
theorem RdV.kept {v : Value} {vs : List Value} (h : RdV w N v vs) (hs : w.heap.size ≤ w'.heap.size) (hk : ∀ b, N b → b < w.heap.size → w'.heap[b]? = w.heap[b]?) (hN : ∀ b, N b → b < w.heap.size → N' b) : RdV w' N' v vs := by
  obtain ⟨b, o, c, h1, hb, hn, hc⟩ := h
  exact ⟨b, o, c, h1, by omega, hN b hn hb, fun i hi => (World.cell?_of_block (a := ⟨b, _, none⟩) (hk b hn hb)).trans (hc i hi)⟩
theorem RdE.kept (hs : w.heap.size ≤ w'.heap.size) (hk : ∀ b, N b → b < w.heap.size → w'.heap[b]? = w.heap[b]?) (hN : ∀ b, N b → b < w.heap.size → N' b) : ∀ (x : ExprD) (v : Value), RdE w N x v → RdE w' N' x v
  | .leaf s n d, v, h => by
    obtain ⟨nv, dv, h1, h2, h3⟩ := h
    exact ⟨nv, dv, h1, h2.kept hs hk hN, h3.kept hs hk hN⟩
  | .one s n d e, v, h => by
    obtain ⟨nv, dv, pv, v1, h1, h2, h3, h4, h5⟩ := h
    exact ⟨nv, dv, pv, v1, h1, h2.kept hs hk hN, h3.kept hs hk hN, h4.kept hs hk hN, RdE.kept hs hk hN e v1 h5⟩
  | .two s n d e1 e2, v, h => by
    obtain ⟨nv, dv, pv, v1, v2, h1, h2, h3, h4, h5, h6⟩ := h
    exact ⟨nv, dv, pv, v1, v2, h1, h2.kept hs hk hN, h3.kept hs hk hN, h4.kept hs hk hN, RdE.kept hs hk hN e1 v1 h5, RdE.kept hs hk hN e2 v2 h6⟩
theorem RdE.agg : ∀ (x : ExprD) (v : Value), RdE w N x v → ∃ s nv dv pv, v = .agg #[.string s, nv, dv, pv] ∧ nv.oneCell' = true ∧ dv.oneCell' = true ∧ pv.oneCell' = true
  | .leaf s n d, v, h => by
    obtain ⟨nv, dv, h1, ⟨_, _, h2, -⟩, ⟨_, _, h3, -⟩⟩ := h
    exact ⟨s, nv, dv, _, h1, by rw [h2]; rfl, by rw [h3]; rfl, rfl⟩
  | .one s n d e, v, h => by
    obtain ⟨nv, dv, pv, v1, h1, ⟨_, _, h2, -⟩, ⟨_, _, h3, -⟩, ⟨_, _, _, h4, -⟩, h5⟩ := h
    exact ⟨s, nv, dv, pv, h1, by rw [h2]; rfl, by rw [h3]; rfl, by rw [h4]; rfl⟩
  | .two s n d e1 e2, v, h => by
    obtain ⟨nv, dv, pv, v1, v2, h1, ⟨_, _, h2, -⟩, ⟨_, _, h3, -⟩, ⟨_, _, _, h4, -⟩, h5⟩ := h
    exact ⟨s, nv, dv, pv, h1, by rw [h2]; rfl, by rw [h3]; rfl, by rw [h4]; rfl⟩
theorem RdE.agg2 : ∀ {x : ExprD} {v : Value}, RdE w N x v → ∃ s A1 l1 c1 A2 l2 c2 A3 l3 c3, v = .agg #[.string s, .slice A1 l1 c1, .slice A2 l2 c2, .slice A3 l3 c3]
  | .leaf s n d, v, h => by
    obtain ⟨nv, dv, rfl, ⟨_, _, rfl, -⟩, ⟨_, _, rfl, -⟩⟩ := h
    exact ⟨_, _, _, _, _, _, _, _, _, _, rfl⟩
  | .one s n d e, v, h => by
    obtain ⟨nv, dv, pv, v1, rfl, ⟨_, _, rfl, -⟩, ⟨_, _, rfl, -⟩, ⟨_, _, _, rfl, -⟩, -⟩ := h
    exact ⟨_, _, _, _, _, _, _, _, _, _, rfl⟩
  | .two s n d e1 e2, v, h => by
    obtain ⟨nv, dv, pv, v1, v2, rfl, ⟨_, _, rfl, -⟩, ⟨_, _, rfl, -⟩, ⟨_, _, _, rfl, -⟩, -⟩ := h
    exact ⟨_, _, _, _, _, _, _, _, _, _, rfl⟩
theorem OwnI.rd {B : Nat} {v : Value} {n : List Int} (h : OwnI w B v n) : RdL w (fun b => B ≤ b) v n := by
  obtain ⟨A, c, rfl, h1, h2⟩ := h.isL
  refine ⟨A, c, rfl, fun hp => ?_⟩
  obtain ⟨b, o, rfl, hb, hc⟩ := h2 hp
  exact ⟨b, o, rfl, hb, (Row.of_own h).2.2, fun i hi => hc i hi⟩
end
end Go.Proofs.YtgmokojdlbdjeaaGreatDoor
