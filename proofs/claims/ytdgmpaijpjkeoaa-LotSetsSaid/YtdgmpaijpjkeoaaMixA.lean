/-
  THE REFERENCE: mixture.
-/
import Derived.Test.YtdgmpaijpjkeoaaWho
import Derived.Test.YtdgmpaijpjkeoaaRefB
import Derived.Test.YtdgmpaijpjkeoaaRegB
namespace Go.Proofs.Ytdgmpaijpjkeoaa
open Go.RowKit
attribute [local go_sem] grow_cell grow_frozen
/-- The slice with address A and length n reads as the truth values bs. -/
def IsB (w : World) (A : Option Addr) (n : Nat) (bs : List Bool) : Prop :=
  bs.length = n ∧ (0 < n → ∃ b o, A = some ⟨b, o, none⟩ ∧ b < w.heap.size ∧ ∀ i, i < n → w.cell? ⟨b, o + i, none⟩ = some (.bool (bs.getD i false)))
theorem IsB.below {w w' : World} {A : Option Addr} {n : Nat} {bs : List Bool} (hb : Below w.heap.size w w') (h : IsB w A n bs) : IsB w' A n bs := by
  refine ⟨h.1, fun hn => ?_⟩
  obtain ⟨b, o, rfl, hlt, hc⟩ := h.2 hn
  exact ⟨b, o, rfl, Nat.lt_of_lt_of_le hlt hb.size, fun i hi => (hb.cell (p := ⟨b, o + i, none⟩) hlt).trans (hc i hi)⟩
/-- A whole number's digits do not lie in v's row. -/
def Sep (A : Option Addr) (n : Nat) (v : Value) : Prop := 0 < n → ∀ b o, A = some ⟨b, o, none⟩ → some b ≠ v.ownBlock
theorem IsW.grownSep {w w' : World} {A : Option Addr} {n a : Nat} {v : Value} (h : IsW w A n a) (hs : Sep A n v) (hg : w.grownBy w' v.ownBlock) : IsW w' A n a := by
  obtain ⟨zs, h1, h2, h3, h4⟩ := h
  refine ⟨zs, h1, h2, h3, fun hn => ?_⟩
  obtain ⟨b, o, hA, hb, hc⟩ := h4 hn
  have hh := hg.block b hb (hs hn b o hA)
  exact ⟨b, o, hA, Nat.lt_of_lt_of_le hb hg.size, fun i hi => (World.cell?_of_block (a := ⟨b, o + i, none⟩) hh).trans (hc i hi)⟩
theorem IsW.lt {w : World} {A : Option Addr} {n a b o : Nat} (h : IsW w A n a) (hn : 0 < n) (hA : A = some ⟨b, o, none⟩) : b < w.heap.size := by
  obtain ⟨zs, h1, h2, h3, h4⟩ := h
  obtain ⟨b', o', hA', hb, -⟩ := h4 hn
  rw [hA] at hA'
  cases hA'
  exact hb
/-- The numerators of the lots below k. -/
def OfR (w0 w : World) (v : Value) (k : Nat) (f : Nat → Nat) : Prop :=
  ∃ vals, w.ownsRow w0.heap.size 80 1 v k vals ∧ ∀ i, i < k → ∃ A n c, vals[i]? = some (.slice A n c) ∧ IsW w A n (f i) ∧ Sep A n v
theorem OfR.nil (w : World) (w0 : World) (f : Nat → Nat) : OfR w0 w (.slice none 0 0) 0 f := ⟨[], World.ownsRow_nil _ _ _ _, fun i hi => absurd hi (by omega)⟩
theorem OfR.keep {w0 w w' : World} {v : Value} {k : Nat} {f : Nat → Nat} (h : OfR w0 w v k f) (hb : Below w.heap.size w w') : OfR w0 w' v k f := by
  obtain ⟨vals, h1, h2⟩ := h
  refine ⟨vals, World.ownsRow.kept h1 (row := none) ⟨hb.os, hb.tape, hb.output, hb.size, fun k hk _ => hb.block k hk⟩ (by cases v.ownBlock <;> simp), fun i hi => ?_⟩
  obtain ⟨A, n, c, e1, e2, e3⟩ := h2 i hi
  exact ⟨A, n, c, e1, e2.below hb, e3⟩
theorem OfR.at_ {w0 w : World} {v : Value} {k : Nat} {f : Nat → Nat} (h : OfR w0 w v k f) (hk : 0 < k) : ∃ g cap, v = .slice (some ⟨g, 0, none⟩) k cap ∧ w0.heap.size ≤ g ∧ g < w.heap.size ∧ ∀ i, i < k → ∃ A n c, w.cell? ⟨g, i, none⟩ = some (.slice A n c) ∧ IsW w A n (f i) := by
  obtain ⟨vals, h1, h2⟩ := h
  rcases h1.2 with ⟨_, h0⟩ | ⟨g, cap, cur, rfl, -⟩
  · omega
  · obtain ⟨hr, -, hg⟩ := Row.of_own h1
    refine ⟨g, cap, rfl, hg, hr.lt, fun i hi => ?_⟩
    obtain ⟨A, n, c, e1, e2, -⟩ := h2 i hi
    obtain ⟨hlt, he⟩ := List.getElem?_eq_some_iff.1 e1
    exact ⟨A, n, c, by rw [hr.get i hlt, he], e2⟩
theorem OfR.lt {w0 w : World} {v : Value} {k : Nat} {f : Nat → Nat} (h : OfR w0 w v k f) : ∀ g, v.ownBlock = some g → w0.heap.size ≤ g ∧ g < w.heap.size := by
  obtain ⟨vals, h1, -⟩ := h
  exact World.ownsRow.lt h1
theorem sep_fresh {w0 w : World} {v : Value} {k : Nat} {f : Nat → Nat} (h : OfR w0 w v k f) {A : Option Addr} {n : Nat} (hf : ∀ x : Addr, A = some x → w.heap.size ≤ x.block) : Sep A n v := by
  intro _ b o hA he
  have h1 := hf _ hA
  have h2 := (h.lt b he.symm).2
  simp at h1
  omega
theorem wholeInfo : (Try.prog.info? 80).map (fun i => (i.zero, i.size, i.bytes)) = some (some (.slice none 0 0), 1, 24) := by kernel_rfl
/-- append(of, n). -/
theorem append_v {w : World} {ops : Array Oper} {rest : List Oper} {o : Oper} {a : Act} {Q : Exit → Act → World → Prop} (s x : Operand)
    (ho : o.op = .call { callee := .builtin .append, args := #[s, x], argTypes := #[113, 113] }) (hgd : o.guard = none)
    (w0 : World) (v : Value) (k : Nat) (f : Nat → Nat) (A : Option Addr) (n c : Nat) (W : World) (hW : w = W.alloc (.cells #[.slice A n c] 80)) (hs : a.eval s = v) (hown : OfR w0 W v k f) (hx : a.eval x = .slice (some ⟨W.heap.size, 0, none⟩) 1 1)
    (hI : IsW W A n (f k)) (hsep : Sep A n v) (hn : k ≤ 1000000) (hB : w0.heap.size ≤ W.heap.size)
    (h : ∀ v' w', OfR w0 w' v' (k + 1) f → W.grownBy w' v.ownBlock → (v'.ownBlock = v.ownBlock ∨ v'.ownBlock = some (W.heap.size + 1)) → wpList Try.prog ops Q rest (a.put o.dst v') w') : wpList Try.prog ops Q (o :: rest) a w := by
  subst hW
  obtain ⟨i0, hi, hz0, hz1, hz2⟩ := info_parts wholeInfo
  obtain ⟨vals, h1, h2⟩ := hown
  have hl : vals.length = k := by have := h1.1; omega
  refine wpList_append_lies (P := Try.prog) (w := W.alloc (.cells #[.slice A n c] 80)) hgd s x 113 ho w0.heap.size 80 i0 (.slice none 0 0) 1 24 Try.underlying113 hi hz0 hz1 hz2 rfl (by decide) v k _ hs (h1.alloc _) ⟨W.heap.size, 0, none⟩ 1 1 [.slice A n c] hx rfl
    (by intro j u hu; match j, hu with | 0, hu => simp at hu; subst hu; simp [Addr.add]) (by intro u hu; simp at hu; subst hu; rfl) (by omega) (by unfold maxLen; omega) (by omega) (by simp; omega) (W.heap.size + 1) (by simp) ?_
  intro g cap w' g1 g2 g3 g4
  have hgr : W.grownBy w' v.ownBlock := ⟨g2.os, g2.tape, g2.output, by have := g2.size; simp at this; omega, fun k hk hne => (g2.block k (by simp; omega) hne).trans (heap_alloc_old W _ hk)⟩
  have hnew : (Value.slice (some ⟨g, 0, none⟩) (k + 1) cap).ownBlock = v.ownBlock ∨ (Value.slice (some ⟨g, 0, none⟩) (k + 1) cap).ownBlock = some (W.heap.size + 1) := by
    rcases g3 with g3 | g3
    · exact .inl g3.symm
    · subst g3; exact .inr rfl
  have hsp : ∀ (A : Option Addr) (n a : Nat), IsW W A n a → Sep A n v → Sep A n (Value.slice (some ⟨g, 0, none⟩) (k + 1) cap) := by
    intro A n a hI hS hn b o hA he
    rcases hnew with e | e
    · rw [e] at he; exact hS hn b o hA he
    · rw [e] at he
      have := hI.lt hn hA
      injection he with he
      omega
  refine h _ w' ⟨vals ++ [.slice A n c], g1, fun i hi => ?_⟩ hgr hnew
  by_cases hik : i < k
  · obtain ⟨A', n', c', e1, e2, e3⟩ := h2 i hik
    exact ⟨A', n', c', by rw [List.getElem?_append_left (by omega)]; exact e1, e2.grownSep e3 hgr, hsp _ _ _ e2 e3⟩
  · obtain rfl : i = k := by omega
    exact ⟨A, n, c, by rw [List.getElem?_append_right (by omega), hl]; simp, hI.grownSep hsep hgr, hsp _ _ _ hI hsep⟩
theorem Sep.app {W : World} {A : Option Addr} {n a : Nat} {v v' : Value} (hI : IsW W A n a) (hS : Sep A n v) (h : v'.ownBlock = v.ownBlock ∨ v'.ownBlock = some (W.heap.size + 1)) : Sep A n v' := by
  intro hn b o hA he
  rcases h with e | e
  · rw [e] at he; exact hS hn b o hA he
  · rw [e] at he
    have := hI.lt hn hA
    injection he with he
    omega
/-- What mixture returns. -/
def RetM (w : World) (a b : Nat) (e : Ending) (w' : World) : Prop := ∃ A n c B n' c', e = .returned (.tuple #[.slice A n c, .slice B n' c']) ∧ IsW w' A n a ∧ IsW w' B n' b ∧ Below w.heap.size w w'
theorem tN_of {l : List LotD} {k : Nat} (hk : k < l.length) : tN l k = if sumP l[k].parts = 0 then 1 else (sumP l[k].parts).toNat := by unfold tN; rw [getD_at' hk]
theorem pr_top {l : List LotD} (hg : GoodAll l) (hl : l.length ≤ 24) {a b : Nat} (hb : b ≤ l.length) : Pr (tN l) a b * 600000 < topW := by
  have h1 := pr_big hg hl (a := a) hb
  have h2 : 600000 ^ 24 * 600000 < topW := by unfold topW; decide +kernel
  exact Nat.lt_of_le_of_lt (Nat.mul_le_mul_right 600000 h1) h2
/-- The sum over the first m parts. -/
def sF (l : List LotD) (f : Nat → Nat) (i m : Nat) : Nat := (((psN l i).take m).map fun p => f p.1 * p.2).sum
theorem sF_succ {l : List LotD} {f : Nat → Nat} {i m : Nat} (hm : m < (psN l i).length) : sF l f i (m + 1) = sF l f i m + f (psN l i)[m].1 * (psN l i)[m].2 := by
  unfold sF
  rw [List.take_succ_eq_append_getElem hm, List.map_append, List.sum_append]
  simp
theorem sum_take_le {ps : List (Nat × Nat)} (m : Nat) : ((ps.take m).map (·.2)).sum ≤ (ps.map (·.2)).sum := by
  conv => rhs; rw [← List.take_append_drop m ps]
  rw [List.map_append, List.sum_append]; omega
theorem sF_le {l : List LotD} (hg : GoodAll l) {f : Nat → Nat} {T i m : Nat} (hf : ∀ j, j < i → f j ≤ T) : sF l f i m ≤ T * tN l i := by
  unfold sF
  have h1 := sum_map_le ((psN l i).take m) (fun p => f p.1 * p.2) (fun p => p.2 * T) (fun p hp => by
    show f p.1 * p.2 ≤ p.2 * T
    rw [Nat.mul_comm]
    exact Nat.mul_le_mul_left _ (hf _ (psN_lt hg i p (List.mem_of_mem_take hp))))
  rw [sum_map_mul_right] at h1
  have h2 := sum_take_le (ps := psN l i) m
  have h3 := psN_sum hg i
  refine Nat.le_trans h1 ?_
  rw [Nat.mul_comm T]
  exact Nat.mul_le_mul_right _ (Nat.le_trans h2 h3)
end Go.Proofs.Ytdgmpaijpjkeoaa
