/-
  THE PROGRAM's PARSER: expressions, what they are. PLAIN.
-/
import Derived.Test.YtgmokojdlbdjeaaGreatDoorParD
namespace Go.Proofs.YtgmokojdlbdjeaaGreatDoor
open Go.RowKit
/-- A text of letters. -/
def txt (l : List UInt8) : ByteArray := ⟨l.toArray⟩
/-- An expression: without parts, of one part, of two. -/
inductive ExprD where
  | leaf (s : ByteArray) (n d : List Int)
  | one (s : ByteArray) (n d : List Int) (e : ExprD)
  | two (s : ByteArray) (n d : List Int) (e1 e2 : ExprD)
def mkE (s : ByteArray) (n d : List Int) : List ExprD → ExprD
  | [] => .leaf s n d
  | [e] => .one s n d e
  | e1 :: e2 :: _ => .two s n d e1 e2
/-- ( .. ) around an expression. -/
def paren (f : List ByteArray → Option (ExprD × List ByteArray)) : List ByteArray → Option (ExprD × List ByteArray)
  | [] => none
  | s :: r => if s = txt [40] then match f r with
      | some (x, t :: r2) => if t = txt [41] then some (x, r2) else none
      | _ => none
    else none
/-- So many of these. -/
def partsO (f : List ByteArray → Option (ExprD × List ByteArray)) : Nat → List ByteArray → Option (List ExprD × List ByteArray)
  | 0, ws => some ([], ws)
  | c + 1, ws => match paren f ws with
    | none => none
    | some (x, r) => match partsO f c r with
      | none => none
      | some (l, r2) => some (x :: l, r2)
/-- The numbers, the digits and the count of parts behind a word. -/
def headO (s : ByteArray) (r : List ByteArray) : Option ((List Int × List Int × Nat) × List ByteArray) :=
  if s = txt [103, 114, 105, 100] then (numsO 3 r).bind fun p => (rowsO (p.1.getD 0 0) (p.1.getD 2 0) p.2).map fun q => ((p.1, q.1, 0), q.2)
  else if s = txt [98, 114, 105, 99, 107, 115] then (numsO 3 r).bind fun p => (rowsO (p.1.getD 0 0) (p.1.getD 1 0) p.2).map fun q => ((p.1, q.1, 0), q.2)
  else if s = txt [115, 104, 105, 102, 116] then (numsO 2 r).map fun p => ((p.1, [], 1), p.2)
  else if s = txt [115, 119, 101, 108, 108] then (numsO 1 r).map fun p => ((p.1, [], 1), p.2)
  else if s = txt [116, 117, 114, 110] then some (([], [], 1), r)
  else if s = txt [109, 105, 114, 114, 111, 114] then some (([], [], 1), r)
  else if s = txt [114, 101, 99, 111, 108, 111, 114] then match r with
    | [] => none
    | t :: r2 => if t.size = 8 ∧ DigT t then some (([], digL t, 1), r2) else none
  else if s = txt [111, 118, 101, 114] then some (([], [], 2), r)
  else none
/-- What the words are, read so deep, and the words behind. -/
def exprO : Nat → List ByteArray → Option (ExprD × List ByteArray)
  | 0, _ => none
  | _ + 1, [] => none
  | k + 1, s :: r => (headO s r).bind fun p => (partsO (exprO k) p.1.2.2 p.2).map fun q => (mkE s p.1.1 p.1.2.1 q.1, q.2)
def knownT : ByteArray := ⟨#[98, 114, 105, 99, 107, 115, 32, 50, 32, 50, 32, 48, 32, 48, 49, 47, 49, 48]⟩
/-- The words of a text. -/
def wordsS (s : ByteArray) : List ByteArray := Lib.splitB ⟨#[32]⟩ 0 (Lib.countB s ⟨#[32]⟩) s
theorem known_expr : exprO 12 (wordsS knownT) = some (.leaf (txt [98, 114, 105, 99, 107, 115]) [2, 2, 0] [0, 1, 1, 0], []) := by kernel_rfl
end Go.Proofs.YtgmokojdlbdjeaaGreatDoor
