/-
  THE REFERENCE's Parse: nodes, PLAIN.
-/
import Derived.Test.YtlinldbbhdpgcaaGreatDoorRdrF
import Derived.Test.YtlinldbbhdpgcaaGreatDoorPrsA
import Derived.Test.YtlinldbbhdpgcaaGreatDoorPrfO
import Derived.Test.YtlinldbbhdpgcaaGreatDoorPrfK
namespace Go.Proofs.YtlinldbbhdpgcaaGreatDoor
open Go.RowKit
theorem run_val (x : ExprD) (h : GoodE x) : (runN [] (flatN 0 x)).2 = (valX x).2 ∧ ((valX x).2 = 0 → (runN [] (flatN 0 x)).1.getLast? = some (valX x).1) := by
  obtain ⟨h1, h2⟩ := run_flat x h [] []
  rw [List.append_nil] at h1 h2
  by_cases hz : (valX x).2 = 0
  · obtain ⟨L, l1, l2, l3⟩ := h1 hz
    have l3' : runN [] (flatN 0 x) = (L, 0) := l3
    rw [l3', hz]
    exact ⟨rfl, fun _ => l2⟩
  · exact ⟨h2 hz, fun h => absurd h hz⟩
/-- A node that can be done when k nodes are done. -/
def WfN (k : Nat) (nd : NodeD) : Prop :=
  ((nd.s = txt [103, 114, 105, 100] ∨ nd.s = txt [98, 114, 105, 99, 107, 115]) ∧ (∃ a b c, nd.n = [a, b, c]) ∧ nd.d.length ≤ 10000)
  ∨ ((nd.s = txt [115, 104, 105, 102, 116] ∧ (∃ a b, nd.n = [a, b]) ∨ nd.s = txt [115, 119, 101, 108, 108] ∧ (∃ a, nd.n = [a]) ∨ nd.s = txt [116, 117, 114, 110] ∨ nd.s = txt [109, 105, 114, 114, 111, 114] ∨ nd.s = txt [114, 101, 99, 111, 108, 111, 114]) ∧ nd.d.length ≤ 8 ∧ ∃ q : Nat, nd.p = [(q : Int)] ∧ q < k)
  ∨ (nd.s = txt [111, 118, 101, 114] ∧ ∃ q q2 : Nat, nd.p = [(q : Int), (q2 : Int)] ∧ q < k ∧ q2 < k)
theorem one_of {α : Type} {l : List α} (h : l.length = 1) : ∃ a, l = [a] := List.length_eq_one_iff.1 h
theorem flat_wf : ∀ (x : ExprD) (_ : GoodE x) (b i : Nat) (nd : NodeD), (flatN b x)[i]? = some nd → WfN (b + i) nd
  | .leaf s n d, hg, b, i, nd, h => by
    obtain ⟨hb, ⟨-, hs, hn, -, hd⟩ | ⟨h0, -⟩ | ⟨h0, -⟩⟩ := hg
    · match i, h with
      | 0, h =>
        cases h
        refine .inl ⟨hs, ?_, hd⟩
        show ∃ a b c, leafN s n = [a, b, c]
        unfold leafN
        split
        · exact three_of hn
        · exact ⟨_, _, _, rfl⟩
    · cases h0
    · cases h0
  | .one s n d e, hg, b, i, nd, h => by
    simp only [flatN] at h
    rcases Nat.lt_or_ge i (flatN b e).length with hi | hi
    · rw [List.getElem?_append_left hi] at h
      exact flat_wf e hg.2 b i nd h
    · rw [List.getElem?_append_right hi] at h
      obtain ⟨hb, ⟨h0, -⟩ | ⟨-, hs, hd⟩ | ⟨h0, -⟩⟩ := hg.1
      · cases h0
      · have hi0 : i - (flatN b e).length = 0 := by
          have := (List.getElem?_eq_some_iff.1 h).1
          simp at this
          omega
        rw [hi0] at h
        cases h
        rw [flatN_len] at hi
        have hsp := sizeE_pos e
        refine .inr (.inl ⟨?_, hd, _, rfl, by omega⟩)
        rcases hs with ⟨hs, hn⟩ | ⟨hs, hn⟩ | hs | hs | hs
        · exact .inl ⟨hs, two_of hn⟩
        · exact .inr (.inl ⟨hs, one_of hn⟩)
        · exact .inr (.inr (.inl hs))
        · exact .inr (.inr (.inr (.inl hs)))
        · exact .inr (.inr (.inr (.inr hs)))
      · cases h0
  | .two s n d e1 e2, hg, b, i, nd, h => by
    simp only [flatN] at h
    rcases Nat.lt_or_ge i (flatN b e1).length with hi | hi
    · rw [List.getElem?_append_left hi] at h
      exact flat_wf e1 hg.2.1 b i nd h
    · rw [List.getElem?_append_right hi] at h
      rw [flatN_len] at hi h
      rcases Nat.lt_or_ge (i - sizeE e1) (flatN (b + sizeE e1) e2).length with hj | hj
      · rw [List.getElem?_append_left hj] at h
        have := flat_wf e2 hg.2.2 _ _ nd h
        rwa [show b + sizeE e1 + (i - sizeE e1) = b + i by omega] at this
      · rw [List.getElem?_append_right hj] at h
        obtain ⟨hb, ⟨h0, -⟩ | ⟨h0, -⟩ | ⟨-, hs⟩⟩ := hg.1
        · cases h0
        · cases h0
        · have hi0 : i - sizeE e1 - (flatN (b + sizeE e1) e2).length = 0 := by
            have := (List.getElem?_eq_some_iff.1 h).1
            simp at this
            omega
          rw [hi0] at h
          cases h
          rw [flatN_len] at hj
          have hsp := sizeE_pos e1
          have hsp2 := sizeE_pos e2
          exact .inr (.inr ⟨hs, _, _, rfl, by omega, by omega⟩)
theorem evN_len (D : List PatD) (nd : NodeD) : (evN D nd).1.xs.length ≤ 144 := by
  unfold evN
  repeat' split
  · exact lstO_len _
  · exact oOve_len _ _
  · exact oneV_len _ _ _ _
/-- The pattern of a node lies in its box. -/
def PEnd (w6 : World) (pb : Nat) (P : PatD) (wx : World) : Prop := ∃ A k, PBox wx pb P.a P.b P.c (.slice A P.xs.length k) ∧ OwnI wx w6.heap.size (.slice A P.xs.length k) P.xs ∧ w6.grownBy wx (some pb)
theorem pend_row {w6 w8 : World} {pb : Nat} {P : PatD} {A : Option Addr} {k : Nat} {a b c : Int} {s : Value} (hr : PBox w8 pb a b c s) (hb : Below w6.heap.size w6 w8) (ho : OwnI w8 w6.heap.size (.slice A P.xs.length k) P.xs) (hp : pb < w6.heap.size) : PEnd w6 pb P (w8.setRow pb #[.int .i64 P.a, .int .i64 P.b, .int .i64 P.c, .slice A P.xs.length k]) := by
  have hgr := row_grown w8 pb #[.int .i64 P.a, .int .i64 P.b, .int .i64 P.c, .slice A P.xs.length k]
  refine ⟨A, k, hr.row _ _ _ _, OwnI.grown ho hgr ?_, grown_then (grown_of hb _) hgr⟩
  rcases hv : (Value.slice A P.xs.length k).ownBlock with _ | g
  · exact .inl rfl
  · exact .inr (fun e => by have := ho.lt' g hv; cases e; omega)
theorem pend_set4 {w6 w8 : World} {pb : Nat} {P : PatD} {A : Option Addr} {k : Nat} {a b c : Int} {s : Value} (hr : PBox w8 pb a b c s) (hb : Below w6.heap.size w6 w8) (ho : OwnI w8 w6.heap.size (.slice A P.xs.length k) P.xs) (hp : pb < w6.heap.size) : PEnd w6 pb P (set4 w8 pb P.a P.b P.c (.slice A P.xs.length k)) := by
  have hgr := set4_grown w8 pb P.a P.b P.c (.slice A P.xs.length k)
  refine ⟨A, k, hr.put _ _ _ _, OwnI.grown ho hgr ?_, grown_then (grown_of hb _) hgr⟩
  rcases hv : (Value.slice A P.xs.length k).ownBlock with _ | g
  · exact .inl rfl
  · exact .inr (fun e => by have := ho.lt' g hv; cases e; omega)
theorem words_of_split {x : ByteArray} {xs : List ByteArray} (h : xs.map (·.data.toList) = splitL 32 x.data.toList) : xs = wordsS x := by
  have h2 : (wordsS x).map (·.data.toList) = splitL 32 x.data.toList := splitB_one x 32
  rw [← h2] at h
  exact (List.map_inj_right (fun a b e => ByteArray.ext (Array.ext' e))).1 h
theorem words_ne (s : ByteArray) : 0 < (wordsS s).length := by
  have h1 : (wordsS s).length = Lib.countB s ⟨#[32]⟩ + 1 := Lib.splitB_all ⟨#[32]⟩ (by decide) 0 _ s rfl
  omega
end Go.Proofs.YtlinldbbhdpgcaaGreatDoor
