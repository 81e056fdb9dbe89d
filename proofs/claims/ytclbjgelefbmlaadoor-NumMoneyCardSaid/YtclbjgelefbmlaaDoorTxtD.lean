/-
  SLICES OF STRINGS; Split, THE REFERENCE'S.
-/
import Derived.Test.YtclbjgelefbmlaaDoorTxtA
import Derived.Test.YtclbjgelefbmlaaDoorOwn
namespace Go.Proofs.YtclbjgelefbmlaaDoor
open Go.RowKit Go.Lib
/-- The slice with address A and length n reads as the strings xs. -/
def IsS (w : World) (A : Option Addr) (n : Nat) (xs : List ByteArray) : Prop :=
  xs.length = n ∧ (0 < n → ∃ b o, A = some ⟨b, o, none⟩ ∧ b < w.heap.size ∧ ∀ i (h : i < xs.length), w.cell? ⟨b, o + i, none⟩ = some (.string xs[i]))
theorem IsS.below {w w' : World} {A : Option Addr} {n : Nat} {xs : List ByteArray} (hb : Below w.heap.size w w') (h : IsS w A n xs) : IsS w' A n xs := by
  refine ⟨h.1, fun hn => ?_⟩
  obtain ⟨b, o, rfl, hlt, hc⟩ := h.2 hn
  exact ⟨b, o, rfl, Nat.lt_of_lt_of_le hlt hb.size, fun i hi => (hb.cell (p := ⟨b, o + i, none⟩) hlt).trans (hc i hi)⟩
/-- The slice value v holds the strings xs in memory from block B on, and may be appended to. -/
def OwnS (w : World) (B : Nat) (v : Value) (xs : List ByteArray) : Prop := w.ownsRow B 9 1 v xs.length (xs.map Value.string)
theorem OwnS.nil (w : World) (B : Nat) : OwnS w B (.slice none 0 0) [] := World.ownsRow_nil _ _ _ _
theorem OwnS.isS {w : World} {B : Nat} {v : Value} {xs : List ByteArray} (h : OwnS w B v xs) : ∃ A c, v = .slice A xs.length c ∧ IsS w A xs.length xs ∧ xs.length ≤ c := by
  rcases h.2 with ⟨hv, h0⟩ | ⟨g, cap, cur, hv, hb, hg, hn, -, hs, ht⟩
  · exact ⟨none, 0, by rw [hv, h0], ⟨rfl, fun hp => by omega⟩, by omega⟩
  · subst hv
    have hr := (Row.of_own h).1
    refine ⟨some ⟨g, 0, none⟩, cap, rfl, ⟨rfl, fun _ => ⟨g, 0, rfl, hr.lt, fun i hi => ?_⟩⟩, hn⟩
    rw [Nat.zero_add]
    have := hr.get i (by simpa using hi)
    rw [this]; simp
theorem OwnS.keep {w w' : World} {B : Nat} {v : Value} {xs : List ByteArray} (hb : Below w.heap.size w w') (h : OwnS w B v xs) : OwnS w' B v xs :=
  World.ownsRow.kept h (row := none) ⟨hb.os, hb.tape, hb.output, hb.size, fun k hk _ => hb.block k hk⟩ (by cases v.ownBlock <;> simp)
theorem OwnS.lt {w : World} {B : Nat} {v : Value} {xs : List ByteArray} (h : OwnS w B v xs) : ∀ g, v.ownBlock = some g → B ≤ g ∧ g < w.heap.size := World.ownsRow.lt h
theorem strInfo : (Tryd.prog.info? 9).map (fun i => (i.zero, i.size, i.bytes)) = some (some (.string ByteArray.empty), 1, 16) := by kernel_rfl
/-- append(s, x) of one string: the cell of x lies in the block that was made last. -/
theorem append_str {w : World} {ops : Array Oper} {rest : List Oper} {o : Oper} {a : Act} {Q : Exit → Act → World → Prop} (s x : Operand)
    (ho : o.op = .call { callee := .builtin .append, args := #[s, x], argTypes := #[79, 79] }) (hgd : o.guard = none)
    (B : Nat) (v : Value) (xs : List ByteArray) (k : ByteArray) (W : World) (hW : w = W.alloc (.cells #[.string k] 9)) (hs : a.eval s = v) (hown : OwnS W B v xs) (hx : a.eval x = .slice (some ⟨W.heap.size, 0, none⟩) 1 1)
    (hn : xs.length ≤ 1000000) (hB : B ≤ W.heap.size)
    (h : ∀ v' w', OwnS w' B v' (xs ++ [k]) → W.grownBy w' v.ownBlock → (v'.ownBlock = v.ownBlock ∨ v'.ownBlock = some (W.heap.size + 1)) → wpList Tryd.prog ops Q rest (a.put o.dst v') w') : wpList Tryd.prog ops Q (o :: rest) a w := by
  subst hW
  obtain ⟨i0, hi, hz0, hz1, hz2⟩ := info_parts strInfo
  refine wpList_append_lies (P := Tryd.prog) (w := W.alloc (.cells #[.string k] 9)) hgd s x 79 ho B 9 i0 _ 1 16 Tryd.underlying79 hi hz0 hz1 hz2 rfl (by decide) v xs.length _ hs (World.ownsRow.alloc hown _) ⟨W.heap.size, 0, none⟩ 1 1 [.string k] hx rfl
    (by intro j u hu; match j, hu with | 0, hu => simp at hu; subst hu; simp [Addr.add]) (by intro u hu; simp at hu; subst hu; rfl) (by omega) (by unfold maxLen; omega) (by omega) (by simp; omega) (W.heap.size + 1) (by simp) ?_
  intro g cap w' h1 h2 h3 h4
  refine h _ w' ?_ ?_ ?_
  · unfold OwnS
    rw [List.length_append, List.map_append]
    exact h1
  · exact ⟨h2.os, h2.tape, h2.output, by have := h2.size; simp at this; omega, fun k hk hne => (h2.block k (by simp; omega) hne).trans (heap_alloc_old W _ hk)⟩
  · rcases h3 with h3 | h3
    · exact .inl h3.symm
    · subst h3; exact .inr rfl
end Go.Proofs.YtclbjgelefbmlaaDoor
