/-
  LISTS OF FRACTIONS THAT GROW BY APPEND.
-/
import Derived.Test.YtdgmpaijpjkeoaaRegF
import Derived.Test.YtdgmpaijpjkeoaaOwn
import Derived.Test.YtdgmpaijpjkeoaaLotA
namespace Go.Proofs.Ytdgmpaijpjkeoaa
open Go.RowKit
def flatP (zs : List (Int × Int)) : List Value := zs.flatMap fun p => [Value.int .i64 p.1, Value.int .i64 p.2]
theorem flatP_append (a b : List (Int × Int)) : flatP (a ++ b) = flatP a ++ flatP b := by simp [flatP]
theorem flatP_length : ∀ zs, (flatP zs).length = zs.length * 2
  | [] => rfl
  | p :: zs => by
    have := flatP_length zs
    simp only [flatP, List.flatMap_cons, List.length_append, List.length_cons, List.length_nil] at *
    omega
theorem flatP_at : ∀ (zs : List (Int × Int)) (k : Nat) (h : k < zs.length), (flatP zs)[k * 2]? = some (.int .i64 zs[k].1) ∧ (flatP zs)[k * 2 + 1]? = some (.int .i64 zs[k].2)
  | p :: zs, 0, _ => by simp [flatP]
  | p :: zs, k + 1, h => by
    have := flatP_at zs k (by simpa using h)
    have e : flatP (p :: zs) = .int .i64 p.1 :: .int .i64 p.2 :: flatP zs := by simp [flatP]
    rw [e, show (k + 1) * 2 = k * 2 + 1 + 1 by omega]
    simp only [List.getElem?_cons_succ, List.getElem_cons_succ]
    exact this
/-- The slice value v holds the fractions zs in memory from block B on, and may be appended to. -/
def OwnR (w : World) (B : Nat) (v : Value) (zs : List (Int × Int)) : Prop := w.ownsRow B 28 2 v zs.length (flatP zs)
theorem OwnR.nil (w : World) (B : Nat) : OwnR w B (.slice none 0 0) [] := World.ownsRow_nil _ _ _ _
theorem OwnR.keep {w w' : World} {B : Nat} {v : Value} {zs : List (Int × Int)} (hb : Below w.heap.size w w') (h : OwnR w B v zs) : OwnR w' B v zs :=
  World.ownsRow.kept h (row := none) ⟨hb.os, hb.tape, hb.output, hb.size, fun k hk _ => hb.block k hk⟩ (by cases v.ownBlock <;> simp)
theorem OwnR.lt {w : World} {B : Nat} {v : Value} {zs : List (Int × Int)} (h : OwnR w B v zs) : ∀ g, v.ownBlock = some g → B ≤ g ∧ g < w.heap.size := World.ownsRow.lt h
theorem OwnR.grown {w w' : World} {B : Nat} {v : Value} {zs : List (Int × Int)} {row : Option Nat} (h : OwnR w B v zs) (hg : w.grownBy w' row) (hne : v.ownBlock = none ∨ v.ownBlock ≠ row) : OwnR w' B v zs := World.ownsRow.kept h hg hne
theorem OwnR.parts {w : World} {B : Nat} {v : Value} {zs : List (Int × Int)} (h : OwnR w B v zs) (hb : ∀ p ∈ zs, I64 p.1 ∧ I64 p.2) : ∃ A c, v = .slice A zs.length c ∧ PartsIn w A zs := by
  rcases h.2 with ⟨hv, h0⟩ | ⟨g, cap, cur, hv, hB, hg, hn, -, hs, ht⟩
  · exact ⟨none, 0, by rw [hv, h0], hb, fun hp => by omega⟩
  · subst hv
    have hr := (Row.of_own h).1
    refine ⟨some ⟨g, 0, none⟩, cap, rfl, hb, fun _ => ⟨g, 0, rfl, hr.lt, fun k hk => ?_⟩⟩
    obtain ⟨h1, h2⟩ := flatP_at zs k hk
    have hl := flatP_length zs
    have q1 := hr.get (k * 2) (by omega)
    have q2 := hr.get (k * 2 + 1) (by omega)
    rw [List.getElem?_eq_getElem (by omega)] at h1 h2
    rw [Nat.zero_add]
    exact ⟨q1.trans h1, q2.trans h2⟩
theorem ratInfo3 : (Try.prog.info? 28).map (fun i => (i.zero, i.size, i.bytes)) = some (some (.agg #[.int .i64 0, .int .i64 0]), 2, 16) := by kernel_rfl
/-- append(s, x) of one fraction. -/
theorem append_rat {w : World} {ops : Array Oper} {rest : List Oper} {o : Oper} {a : Act} {Q : Exit → Act → World → Prop} (s x : Operand)
    (ho : o.op = .call { callee := .builtin .append, args := #[s, x], argTypes := #[52, 52] }) (hgd : o.guard = none)
    (B : Nat) (v : Value) (zs : List (Int × Int)) (p q : Int) (W : World) (hW : w = W.alloc (.cells #[.int .i64 p, .int .i64 q] 28)) (hs : a.eval s = v) (hown : OwnR W B v zs) (hx : a.eval x = .slice (some ⟨W.heap.size, 0, none⟩) 1 1)
    (hn : zs.length ≤ 1000000) (hB : B ≤ W.heap.size)
    (h : ∀ v' w', OwnR w' B v' (zs ++ [(p, q)]) → W.grownBy w' v.ownBlock → (v'.ownBlock = v.ownBlock ∨ v'.ownBlock = some (W.heap.size + 1)) → wpList Try.prog ops Q rest (a.put o.dst v') w') : wpList Try.prog ops Q (o :: rest) a w := by
  subst hW
  obtain ⟨i0, hi, hz0, hz1, hz2⟩ := info_parts ratInfo3
  refine wpList_append_lies (P := Try.prog) (w := W.alloc (.cells #[.int .i64 p, .int .i64 q] 28)) hgd s x 52 ho B 28 i0 (.agg #[.int .i64 0, .int .i64 0]) 2 16 Try.underlying52 hi hz0 hz1 hz2 rfl (by decide) v zs.length _ hs (World.ownsRow.alloc hown _) ⟨W.heap.size, 0, none⟩ 1 1 [.int .i64 p, .int .i64 q] hx rfl
    (by intro j u hu; match j, hu with | 0, hu => simp at hu; subst hu; simp [Addr.add] | 1, hu => simp at hu; subst hu; simp [Addr.add]) (by intro u hu; simp at hu; rcases hu with rfl | rfl <;> rfl) (by omega) (by unfold maxLen; omega) (by omega) (by simp; omega) (W.heap.size + 1) (by simp) ?_
  intro g cap w' h1 h2 h3 h4
  refine h _ w' ?_ ?_ ?_
  · unfold OwnR
    rw [List.length_append, flatP_append]
    exact h1
  · exact ⟨h2.os, h2.tape, h2.output, by have := h2.size; simp at this; omega, fun k hk hne => (h2.block k (by simp; omega) hne).trans (heap_alloc_old W _ hk)⟩
  · rcases h3 with h3 | h3
    · exact .inl h3.symm
    · subst h3; exact .inr rfl
end Go.Proofs.Ytdgmpaijpjkeoaa
