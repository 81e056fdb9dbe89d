/-
  LISTS OF TRUTHS THAT GROW BY APPEND.
-/
import Derived.Test.YtdgmpaijpjkeoaaRefC
namespace Go.Proofs.Ytdgmpaijpjkeoaa
open Go.RowKit
/-- The slice value v holds the truths bs in memory from block B on, and may be appended to. -/
def OwnB (w : World) (B : Nat) (v : Value) (bs : List Bool) : Prop := w.ownsRow B 4 1 v bs.length (bs.map Value.bool)
theorem OwnB.nil (w : World) (B : Nat) : OwnB w B (.slice none 0 0) [] := World.ownsRow_nil _ _ _ _
theorem OwnB.lt {w : World} {B : Nat} {v : Value} {bs : List Bool} (h : OwnB w B v bs) : ∀ g, v.ownBlock = some g → B ≤ g ∧ g < w.heap.size := World.ownsRow.lt h
theorem OwnB.isB {w : World} {B : Nat} {v : Value} {bs : List Bool} (h : OwnB w B v bs) : ∃ A c, v = .slice A bs.length c ∧ IsB w A bs.length bs := by
  rcases h.2 with ⟨hv, h0⟩ | ⟨g, cap, cur, hv, hb, hg, hn, -, hs, ht⟩
  · exact ⟨none, 0, by rw [hv, h0], rfl, fun hp => by omega⟩
  · subst hv
    exact ⟨some ⟨g, 0, none⟩, cap, rfl, (show RowB w g bs from (Row.of_own h).1).isB⟩
/-- append(s, x) of one truth. -/
theorem append_bool {w : World} {ops : Array Oper} {rest : List Oper} {o : Oper} {a : Act} {Q : Exit → Act → World → Prop} (s x : Operand)
    (ho : o.op = .call { callee := .builtin .append, args := #[s, x], argTypes := #[83, 83] }) (hgd : o.guard = none)
    (B : Nat) (v : Value) (bs : List Bool) (k : Bool) (W : World) (hW : w = W.alloc (.cells #[.bool k] 4)) (hs : a.eval s = v) (hown : OwnB W B v bs) (hx : a.eval x = .slice (some ⟨W.heap.size, 0, none⟩) 1 1)
    (hn : bs.length ≤ 1000000) (hB : B ≤ W.heap.size)
    (h : ∀ v' w', OwnB w' B v' (bs ++ [k]) → W.grownBy w' v.ownBlock → (v'.ownBlock = v.ownBlock ∨ v'.ownBlock = some (W.heap.size + 1)) → wpList Try.prog ops Q rest (a.put o.dst v') w') : wpList Try.prog ops Q (o :: rest) a w := by
  subst hW
  obtain ⟨i0, hi, hz0, hz1, hz2⟩ := info_parts boolInfo
  refine wpList_append_lies (P := Try.prog) (w := W.alloc (.cells #[.bool k] 4)) hgd s x 83 ho B 4 i0 (.bool false) 1 1 Try.underlying83 hi hz0 hz1 hz2 rfl (by decide) v bs.length _ hs (World.ownsRow.alloc hown _) ⟨W.heap.size, 0, none⟩ 1 1 [.bool k] hx rfl
    (by intro j u hu; match j, hu with | 0, hu => simp at hu; subst hu; simp [Addr.add]) (by intro u hu; simp at hu; subst hu; rfl) (by omega) (by unfold maxLen; omega) (by omega) (by simp; omega) (W.heap.size + 1) (by simp) ?_
  intro g cap w' h1 h2 h3 h4
  refine h _ w' ?_ ?_ ?_
  · unfold OwnB
    rw [List.length_append, List.map_append]
    exact h1
  · exact ⟨h2.os, h2.tape, h2.output, by have := h2.size; simp at this; omega, fun k hk hne => (h2.block k (by simp; omega) hne).trans (heap_alloc_old W _ hk)⟩
  · rcases h3 with h3 | h3
    · exact .inl h3.symm
    · subst h3; exact .inr rfl
end Go.Proofs.Ytdgmpaijpjkeoaa
