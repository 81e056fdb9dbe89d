/-
  NATURAL NUMBERS IN DIGITS TO THE BASE 2^24: PLAIN.
-/
import Derived.Test.YtdgmpaijpjkeoaaNat
import Derived.Test.YtdgmpaijpjkeoaaOwn
import Derived.Deep.DeepCutAuto
import Derived.Deep.CutBlock
import Derived.Test.YtdgmpaijpjkeoaaLotJ
namespace Go.Proofs.Ytdgmpaijpjkeoaa
def vlW : List Nat → Nat
  | [] => 0
  | z :: r => z + 16777216 * vlW r
theorem pwW_pos (i : Nat) : 0 < 16777216 ^ i := Nat.pow_pos (by decide)
theorem vlW_append (xs ys : List Nat) : vlW (xs ++ ys) = vlW xs + 16777216 ^ xs.length * vlW ys := by
  induction xs with
  | nil => simp [vlW]
  | cons x xs ih =>
    simp only [List.cons_append, vlW, ih, List.length_cons, Nat.pow_succ]
    rw [Nat.mul_add, ← Nat.mul_assoc, Nat.mul_comm 16777216 (16777216 ^ xs.length), Nat.add_assoc]
theorem vlW_snoc (xs : List Nat) (z : Nat) : vlW (xs ++ [z]) = vlW xs + 16777216 ^ xs.length * z := by
  rw [vlW_append]; simp [vlW]
theorem vlW_take {xs : List Nat} {k : Nat} (h : k < xs.length) : vlW (xs.take (k + 1)) = vlW (xs.take k) + 16777216 ^ k * xs[k] := by
  rw [List.take_succ_eq_append_getElem h, vlW_snoc, List.length_take, Nat.min_eq_left (by omega)]
theorem vlW_lt {xs : List Nat} (h : ∀ z ∈ xs, z < 16777216) : vlW xs < 16777216 ^ xs.length := by
  induction xs with
  | nil => simp [vlW]
  | cons x xs ih =>
    have h1 := h x (by simp)
    have h2 := ih (fun z hz => h z (by simp [hz]))
    simp only [vlW, List.length_cons, Nat.pow_succ]
    omega
/-- The digits of a, without zeros at the end. -/
structure WN (zs : List Nat) (a : Nat) : Prop where
  dg : ∀ z ∈ zs, z < 16777216
  vl : vlW zs = a
  top : 0 < zs.length → 16777216 ^ (zs.length - 1) ≤ a
theorem WN.nil : WN [] 0 := ⟨by simp, rfl, by simp⟩
theorem WN.lt {zs : List Nat} {a : Nat} (h : WN zs a) : a < 16777216 ^ zs.length := by rw [← h.vl]; exact vlW_lt h.dg
theorem WN.zero_iff {zs : List Nat} {a : Nat} (h : WN zs a) : zs.length = 0 ↔ a = 0 := by
  constructor
  · intro h0
    have := h.lt
    rw [h0] at this
    simpa using this
  · intro h0
    rcases Nat.eq_zero_or_pos zs.length with e | e
    · exact e
    · have := h.top e
      have := pwW_pos (zs.length - 1)
      omega
theorem WN.dgAt {zs : List Nat} {a : Nat} (h : WN zs a) {k : Nat} (hk : k < zs.length) : zs[k] < 16777216 := h.dg _ (List.getElem_mem hk)
theorem pwW_le {i j : Nat} (h : i ≤ j) : 16777216 ^ i ≤ 16777216 ^ j := Nat.pow_le_pow_right (by decide) h
/-- No more digits than the bound has. -/
theorem WN.len_le {zs : List Nat} {a n : Nat} (h : WN zs a) (ha : a < 16777216 ^ n) : zs.length ≤ n := by
  rcases Nat.lt_or_ge n zs.length with g | g
  · have h1 := h.top (by omega)
    have h2 := pwW_le (show n ≤ zs.length - 1 by omega)
    omega
  · exact g
theorem WN.unique {zs ys : List Nat} {a : Nat} (h : WN zs a) (g : WN ys a) : zs = ys := by
  have hl : zs.length = ys.length := Nat.le_antisymm (h.len_le g.lt) (g.len_le h.lt)
  have hv : vlW zs = vlW ys := h.vl.trans g.vl.symm
  have hz := h.dg
  have gz := g.dg
  clear h g
  induction zs generalizing ys a with
  | nil => cases ys with
    | nil => rfl
    | cons y ys => simp at hl
  | cons z zs ih => cases ys with
    | nil => simp at hl
    | cons y ys =>
      simp only [vlW] at hv
      have h1 := hz z (by simp)
      have h2 := gz y (by simp)
      have e1 : z = y := by omega
      have e2 : vlW zs = vlW ys := by omega
      rw [e1, ih (a := a) (by simpa using hl) e2 (fun x hx => hz x (by simp [hx])) (fun x hx => gz x (by simp [hx]))]
/-- A number that is being made: the digits xs, then c still to be written; T in all. -/
structure MkW (xs : List Nat) (c T : Nat) : Prop where
  dg : ∀ z ∈ xs, z < 16777216
  vl : vlW xs + 16777216 ^ xs.length * c = T
  top : 0 < xs.length → 16777216 ^ (xs.length - 1) ≤ T
theorem MkW.start (T : Nat) : MkW [] T T := ⟨by simp, by simp [vlW], by simp⟩
theorem MkW.done {xs : List Nat} {T : Nat} (h : MkW xs 0 T) : WN xs T := ⟨h.dg, by have := h.vl; simpa using this, h.top⟩
theorem MkW.step {xs : List Nat} {c T : Nat} (h : MkW xs c T) (hc : 0 < c) : MkW (xs ++ [c % 16777216]) (c / 16777216) T := by
  refine ⟨?_, ?_, fun _ => ?_⟩
  · intro z hz
    rcases List.mem_append.1 hz with hz | hz
    · exact h.dg z hz
    · simp at hz; subst hz; exact Nat.mod_lt _ (by decide)
  · rw [vlW_snoc, List.length_append, List.length_singleton, Nat.pow_succ, Nat.mul_assoc, Nat.add_assoc, ← Nat.mul_add, Nat.mod_add_div]
    exact h.vl
  · rw [List.length_append, List.length_singleton, Nat.add_sub_cancel]
    have h1 := h.vl
    have : 16777216 ^ xs.length * 1 ≤ 16777216 ^ xs.length * c := Nat.mul_le_mul_left _ hc
    omega
/-- .. where so many digits are written whatever is left. -/
structure MkK (xs : List Nat) (c T : Nat) : Prop where
  dg : ∀ z ∈ xs, z < 16777216
  vl : vlW xs + 16777216 ^ xs.length * c = T
theorem MkK.start (c : Nat) : MkK [] c c := ⟨by simp, by simp [vlW]⟩
theorem MkK.step {xs : List Nat} {c T : Nat} (h : MkK xs c T) : MkK (xs ++ [c % 16777216]) (c / 16777216) T := by
  refine ⟨?_, ?_⟩
  · intro z hz
    rcases List.mem_append.1 hz with hz | hz
    · exact h.dg z hz
    · simp at hz; subst hz; exact Nat.mod_lt _ (by decide)
  · rw [vlW_snoc, List.length_append, List.length_singleton, Nat.pow_succ, Nat.mul_assoc, Nat.add_assoc, ← Nat.mul_add, Nat.mod_add_div]
    exact h.vl
theorem MkK.add {xs : List Nat} {c T : Nat} (h : MkK xs c T) (d : Nat) : MkK xs (c + d) (T + 16777216 ^ xs.length * d) := ⟨h.dg, by rw [Nat.mul_add, ← Nat.add_assoc, h.vl]⟩
theorem MkK.top {xs : List Nat} {c T : Nat} (h : MkK xs c T) (ht : 0 < xs.length → 16777216 ^ (xs.length - 1) ≤ T) : MkW xs c T := ⟨h.dg, h.vl, ht⟩
/-- Times: the digits below k are through. -/
theorem times_step {zs xs : List Nat} {c m k : Nat} (hl : xs.length = k) (h : MkK xs c (vlW (zs.take k) * m)) (hk : k < zs.length) :
    MkK (xs ++ [(c + zs[k] * m) % 16777216]) ((c + zs[k] * m) / 16777216) (vlW (zs.take (k + 1)) * m) := by
  rw [vlW_take hk, Nat.add_mul, Nat.mul_assoc]
  have := (h.add (zs[k] * m)).step
  rw [hl] at this
  exact this
theorem times_carry {c d m : Nat} (hc : c ≤ m) (hd : d < 16777216) : (c + d * m) / 16777216 ≤ m := by
  have : d * m ≤ 16777215 * m := Nat.mul_le_mul_right _ (by omega)
  omega
theorem times_top {zs : List Nat} {a m : Nat} (h : WN zs a) (hm : 0 < m) : 0 < zs.length → 16777216 ^ (zs.length - 1) ≤ a * m := fun hp => by
  have := h.top hp
  have : a * 1 ≤ a * m := Nat.mul_le_mul_left _ hm
  omega
/-- Plus. -/
def atW (zs : List Nat) (k : Nat) : Nat := zs.getD k 0
theorem vlW_take' (xs : List Nat) (k : Nat) : vlW (xs.take (k + 1)) = vlW (xs.take k) + 16777216 ^ k * atW xs k := by
  by_cases h : k < xs.length
  · rw [vlW_take h, atW, List.getD_eq_getElem?_getD, List.getElem?_eq_getElem h]; rfl
  · rw [List.take_of_length_le (by omega), List.take_of_length_le (by omega), atW, List.getD_eq_getElem?_getD, List.getElem?_eq_none (by omega)]; simp
theorem plus_step {zs ys xs : List Nat} {c k : Nat} (hl : xs.length = k) (h : MkK xs c (vlW (zs.take k) + vlW (ys.take k))) :
    MkK (xs ++ [(c + (atW zs k + atW ys k)) % 16777216]) ((c + (atW zs k + atW ys k)) / 16777216) (vlW (zs.take (k + 1)) + vlW (ys.take (k + 1))) := by
  rw [vlW_take', vlW_take', ← hl]
  have := (h.add (atW zs xs.length + atW ys xs.length)).step
  rw [← hl] at this
  have e : vlW (zs.take xs.length) + vlW (ys.take xs.length) + 16777216 ^ xs.length * (atW zs xs.length + atW ys xs.length) = vlW (zs.take xs.length) + 16777216 ^ xs.length * atW zs xs.length + (vlW (ys.take xs.length) + 16777216 ^ xs.length * atW ys xs.length) := by rw [Nat.mul_add]; omega
  rw [e] at this
  exact this
/-- By: from the top down. D: the digits of the quotient found so far (those from k on), r: what is left. -/
theorem by_step {a b q r k d m : Nat} (h : a / 16777216 ^ (k + 1) = q * m + r) (hd : a / 16777216 ^ k = (a / 16777216 ^ (k + 1)) * 16777216 + d) (_hm : 0 < m) (hb : b = r * 16777216 + d) :
    a / 16777216 ^ k = (q * 16777216 + b / m) * m + b % m := by
  rw [hd, h, Nat.add_mul, Nat.add_mul (q * 16777216), Nat.mul_comm (b / m), Nat.add_assoc (q * 16777216 * m), Nat.div_add_mod, hb, Nat.mul_right_comm]
  omega
theorem drop_div {zs : List Nat} (h : ∀ z ∈ zs, z < 16777216) (k : Nat) : vlW zs / 16777216 ^ k = vlW (zs.drop k) := by
  by_cases hk : k ≤ zs.length
  · have e : vlW zs = vlW (zs.take k) + 16777216 ^ k * vlW (zs.drop k) := by
      conv => lhs; rw [← List.take_append_drop k zs, vlW_append, List.length_take, Nat.min_eq_left hk]
    have hl : vlW (zs.take k) < 16777216 ^ k := by
      have := vlW_lt (xs := zs.take k) (fun z hz => h z (List.mem_of_mem_take hz))
      rwa [List.length_take, Nat.min_eq_left hk] at this
    rw [e, Nat.add_mul_div_left _ _ (pwW_pos k), Nat.div_eq_of_lt hl, Nat.zero_add]
  · rw [List.drop_eq_nil_of_le (by omega), Nat.div_eq_of_lt]
    · rfl
    · exact Nat.lt_of_lt_of_le (vlW_lt h) (pwW_le (by omega))
theorem drop_cons {zs : List Nat} {k : Nat} (hk : k < zs.length) : vlW (zs.drop k) = zs[k] + 16777216 * vlW (zs.drop (k + 1)) := by
  rw [List.drop_eq_getElem_cons hk, vlW]
/-- Striking zeros at the end. -/
theorem strike_last {xs : List Nat} {k : Nat} (hk : k < xs.length) (h0 : xs[k] = 0) : vlW (xs.take (k + 1)) = vlW (xs.take k) := by rw [vlW_take hk, h0]; simp
theorem stop_last {xs : List Nat} {k a : Nat} (hd : ∀ z ∈ xs, z < 16777216) (hv : vlW (xs.take (k + 1)) = a) (hk : k < xs.length) (h0 : xs[k] ≠ 0) : WN (xs.take (k + 1)) a := by
  refine ⟨fun z hz => hd z (List.mem_of_mem_take hz), hv, fun _ => ?_⟩
  rw [List.length_take, Nat.min_eq_left (by omega), Nat.add_sub_cancel, ← hv, vlW_take hk]
  have : 16777216 ^ k * 1 ≤ 16777216 ^ k * xs[k] := Nat.mul_le_mul_left _ (by omega)
  omega
/-- Comparing. -/
theorem cmp_len {zs ys : List Nat} {a b : Nat} (h : WN zs a) (g : WN ys b) (hl : zs.length < ys.length) : a < b := by
  have h1 := h.lt
  have h2 := g.top (by omega)
  have h3 := pwW_le (show zs.length ≤ ys.length - 1 by omega)
  omega
theorem cmp_digit {zs ys : List Nat} {k : Nat} (hz : ∀ z ∈ zs, z < 16777216) (_hy : ∀ z ∈ ys, z < 16777216) (h1 : k < zs.length) (h2 : k < ys.length) (he : vlW (zs.drop (k + 1)) = vlW (ys.drop (k + 1))) (hd : zs[k] < ys[k]) : vlW zs < vlW ys := by
  have e1 : vlW zs = vlW (zs.take k) + 16777216 ^ k * vlW (zs.drop k) := by
    conv => lhs; rw [← List.take_append_drop k zs, vlW_append, List.length_take, Nat.min_eq_left (by omega)]
  have e2 : vlW ys = vlW (ys.take k) + 16777216 ^ k * vlW (ys.drop k) := by
    conv => lhs; rw [← List.take_append_drop k ys, vlW_append, List.length_take, Nat.min_eq_left (by omega)]
  have hl : vlW (zs.take k) < 16777216 ^ k := by
    have := vlW_lt (xs := zs.take k) (fun z hz' => hz z (List.mem_of_mem_take hz'))
    rwa [List.length_take, Nat.min_eq_left (by omega)] at this
  rw [e1, e2, drop_cons h1, drop_cons h2, he]
  have : 16777216 ^ k * (zs[k] + 16777216 * vlW (ys.drop (k + 1)) + 1) ≤ 16777216 ^ k * (ys[k] + 16777216 * vlW (ys.drop (k + 1))) := Nat.mul_le_mul_left _ (by omega)
  rw [Nat.mul_add _ _ 1, Nat.mul_one] at this
  omega
theorem cmp_same {zs ys : List Nat} {k : Nat} (h1 : k < zs.length) (h2 : k < ys.length) (he : vlW (zs.drop (k + 1)) = vlW (ys.drop (k + 1))) (hd : zs[k] = ys[k]) : vlW (zs.drop k) = vlW (ys.drop k) := by
  rw [drop_cons h1, drop_cons h2, he, hd]
end Go.Proofs.Ytdgmpaijpjkeoaa
/-
  WHOLE NUMBERS IN DIGITS TO THE BASE 2^24: how they lie in memory; Small, Times.
-/
namespace Go.Proofs.Ytdgmpaijpjkeoaa
open Go.RowKit
def casts (zs : List Nat) : List Int := zs.map (fun z : Nat => (z : Int))
theorem casts_length (zs : List Nat) : (casts zs).length = zs.length := by simp [casts]
theorem casts_getD {zs : List Nat} {k : Nat} (h : k < zs.length) : (casts zs).getD k 0 = (zs[k] : Int) := by
  rw [List.getD_eq_getElem?_getD]; simp [casts, h]
theorem casts_snoc (zs : List Nat) (z : Nat) : casts (zs ++ [z]) = casts zs ++ [(z : Int)] := by simp [casts]
/-- The slice with address A and length n reads as the digits of a. -/
def IsW (w : World) (A : Option Addr) (n a : Nat) : Prop := ∃ zs : List Nat, WN zs a ∧ zs.length = n ∧ IsL w A n (casts zs)
theorem IsW.below {w w' : World} {A : Option Addr} {n a : Nat} (hb : Below w.heap.size w w') (h : IsW w A n a) : IsW w' A n a := by
  obtain ⟨zs, h1, h2, h3⟩ := h
  exact ⟨zs, h1, h2, h3.below hb⟩
theorem IsL.digit {w : World} {A : Option Addr} {n : Nat} {zs : List Nat} (h : IsL w A n (casts zs)) {k : Nat} (hk : k < zs.length) (hn : zs.length = n) : ∃ b o, A = some ⟨b, o, none⟩ ∧ b < w.heap.size ∧ w.cell? ⟨b, o + k, none⟩ = some (.int .i64 (zs[k] : Int)) := by
  obtain ⟨b, o, hA, hb, hc⟩ := h.2 (by omega)
  exact ⟨b, o, hA, hb, by rw [hc k (by omega), casts_getD hk]⟩
theorem IsW.zero {w : World} : IsW w none 0 0 := ⟨[], WN.nil, rfl, rfl, fun h => absurd h (by omega)⟩
/-- What a function that makes the whole number a returns. -/
def RetW (w : World) (a : Nat) (e : Ending) (w' : World) : Prop := ∃ A n c, e = .returned (.slice A n c) ∧ IsW w' A n a ∧ Below w.heap.size w w' ∧ ∀ x : Addr, A = some x → w.heap.size ≤ x.block
/-- .. or hands on. -/
def RetC (w : World) (a : Nat) (e : Ending) (w' : World) : Prop := ∃ A n c, e = .returned (.slice A n c) ∧ IsW w' A n a ∧ Below w.heap.size w w'
/-- The bound that all keep. -/
def topW : Nat := 16777216 ^ 100
theorem WN.len100 {zs : List Nat} {a : Nat} (h : WN zs a) (ha : a < topW) : zs.length ≤ 100 := h.len_le ha
theorem MkW.len {xs : List Nat} {c T : Nat} (h : MkW xs c T) (hT : T < 16777216 ^ 200) : xs.length ≤ 200 := by
  rcases Nat.lt_or_ge 200 xs.length with g | g
  · have h1 := h.top (by omega)
    have h2 := pwW_le (show 200 ≤ xs.length - 1 by omega)
    omega
  · exact g
theorem topW_mul {a k : Nat} (ha : a < topW) (hk : k ≤ 274877906944) : a * k < 16777216 ^ 200 := by
  have h1 : a * k ≤ topW * 274877906944 := Nat.mul_le_mul (Nat.le_of_lt ha) hk
  have h2 : topW * 274877906944 < 16777216 ^ 200 := by unfold topW; decide +kernel
  omega
/-- append(s, x) of one digit. -/
theorem append_w {w : World} {ops : Array Oper} {rest : List Oper} {o : Oper} {a : Act} {Q : Exit → Act → World → Prop} (s x : Operand)
    (ho : o.op = .call { callee := .builtin .append, args := #[s, x], argTypes := #[80, 80] }) (hgd : o.guard = none)
    (B : Nat) (v : Value) (zs : List Int) (k : Int) (W : World) (hW : w = W.alloc (.cells #[.int .i64 k] 3)) (hs : a.eval s = v) (hown : OwnI W B v zs) (hx : a.eval x = .slice (some ⟨W.heap.size, 0, none⟩) 1 1)
    (hn : zs.length ≤ 1000000) (hB : B ≤ W.heap.size)
    (h : ∀ v' w', OwnI w' B v' (zs ++ [k]) → W.grownBy w' v.ownBlock → (v'.ownBlock = v.ownBlock ∨ v'.ownBlock = some (W.heap.size + 1)) → wpList Try.prog ops Q rest (a.put o.dst v') w') : wpList Try.prog ops Q (o :: rest) a w := by
  subst hW
  obtain ⟨i0, hi, hz0, hz1, hz2⟩ := info_parts intInfo
  refine wpList_append_lies (P := Try.prog) (w := W.alloc (.cells #[.int .i64 k] 3)) hgd s x 80 ho B 3 i0 (.int .i64 0) 1 8 Try.underlying80 hi hz0 hz1 hz2 rfl (by decide) v zs.length _ hs (hown.alloc _) ⟨W.heap.size, 0, none⟩ 1 1 [.int .i64 k] hx rfl
    (by intro j u hu; match j, hu with | 0, hu => simp at hu; subst hu; simp [Addr.add]) (by intro u hu; simp at hu; subst hu; rfl) (by omega) (by unfold maxLen; omega) (by omega) (by simp; omega) (W.heap.size + 1) (by simp) ?_
  intro g cap w' h1 h2 h3 h4
  refine h _ w' ?_ ?_ ?_
  · unfold OwnI
    rw [List.length_append, List.map_append]
    exact h1
  · exact ⟨h2.os, h2.tape, h2.output, by have := h2.size; simp at this; omega, fun k hk hne => (h2.block k (by simp; omega) hne).trans (heap_alloc_old W _ hk)⟩
  · rcases h3 with h3 | h3
    · exact .inl h3.symm
    · subst h3; exact .inr rfl
/-- The digits xs in a row of one's own. -/
def OwnW (w0 w : World) (v : Value) (xs : List Nat) : Prop := OwnI w w0.heap.size v (casts xs) ∧ Below w0.heap.size w0 w
theorem OwnW.nil (w : World) : OwnW w w (.slice none 0 0) [] := ⟨OwnI.nil _ _, Below.refl _ _⟩
theorem OwnW.keep {w0 w w' : World} {v : Value} {xs : List Nat} (h : OwnW w0 w v xs) (hb : Below w.heap.size w w') : OwnW w0 w' v xs := ⟨h.1.keep hb, h.2.trans (hb.mono h.2.size)⟩
theorem OwnW.app {w0 w w' : World} {v v' : Value} {xs : List Nat} {z : Nat} (h : OwnW w0 w v xs) (h1 : OwnI w' w0.heap.size v' (casts xs ++ [(z : Int)])) (h2 : w.grownBy w' v.ownBlock) : OwnW w0 w' v' (xs ++ [z]) := by
  refine ⟨by rw [casts_snoc]; exact h1, h.2.grown h2 h.2.size (fun k hk => ?_)⟩
  exact (World.ownsRow.lt h.1 k hk).1
theorem OwnW.ret {w0 w : World} {v : Value} {xs : List Nat} {a : Nat} (h : OwnW w0 w v xs) (hw : WN xs a) : RetW w0 a (.returned v) w := by
  have hlt := World.ownsRow.lt h.1
  obtain ⟨A, c, rfl, hL⟩ := h.1.isL
  rw [casts_length] at hL
  refine ⟨A, xs.length, c, by rw [casts_length], ⟨xs, hw, rfl, hL⟩, h.2, fun x hx => ?_⟩
  subst hx
  exact (hlt x.block rfl).1
theorem OwnW.slice {w0 w : World} {v : Value} {xs : List Nat} (h : OwnW w0 w v xs) : ∃ A c, v = .slice A xs.length c ∧ IsL w A xs.length (casts xs) := by
  obtain ⟨A, c, rfl, hL⟩ := h.1.isL
  rw [casts_length] at hL
  exact ⟨A, c, by rw [casts_length], hL⟩
set_option maxRecDepth 100000 in
set_option maxHeartbeats 1000000 in
theorem wsmall_any (n : Nat) (hn : n ≤ 1000000000000000000) (w : World) :
    Calls Try.prog 90 #[.int .i64 n] w (RetW w n) := by
  have HT := Lib.hid (show n < 16777216 ^ 200 from Nat.lt_of_le_of_lt hn (by decide +kernel))
  go_enter Try.func90, Try.ntmps90
  go_wp2
  go_loopw [0, 3] (fun t v wr => ∃ (xs : List Nat) (c : Nat), t = .int .i64 c ∧ c ≤ n ∧ Hid (MkW xs c n ∧ OwnW w wr v xs)) (fun t _ _ => (intOf t).toNat)
  case atStart => exact ⟨[], n, rfl, Nat.le_refl _, MkW.start n, OwnW.nil w⟩
  case round =>
    obtain ⟨xs, c, rfl, hc, hr⟩ := hrel
    by_cases h0 : 0 < c
    · have hlen := hr.out.1.len HT.out
      have hst := hr.out.1.step h0
      have HST := Lib.hid hst
      have hsz := hr.out.2.2.size
      clear hst
      go_wp2_with (at_builtin; refine append_w (.tmp 6) (.tmp 9) rfl rfl w.heap.size _ _ _ wr rfl rfl hr.out.2.1 rfl (by rw [casts_length]; omega) hsz ?_; intro v' w1 ho hg _)
      have h1 := Lib.hid (hr.out.2.app (z := c % 16777216) ho hg)
      clear ho hg
      go_wp2
      go_roundw
      case rel => exact ⟨xs ++ [c % 16777216], c / 16777216, by go_num, by omega, HST.out, h1.out⟩
      case measure => simp [intOf]; omega
    · obtain rfl : c = 0 := by omega
      go_wp2
      go_ret
      exact hr.out.2.ret hr.out.1.done
end Go.Proofs.Ytdgmpaijpjkeoaa
/-
  WHOLE NUMBERS: Times, Plus.
-/
namespace Go.Proofs.Ytdgmpaijpjkeoaa
open Go.RowKit
set_option maxRecDepth 100000 in
set_option maxHeartbeats 1000000 in
theorem wtimes_any (A : Option Addr) (n c a m : Nat) (hm : m ≤ 274877906944) (ha : a < topW) (w : World) (hW : IsW w A n a) :
    Calls Try.prog 91 #[.slice A n c, .int .i64 m] w (RetW w (a * m)) := by
  obtain ⟨zs, hwn, rfl, hL⟩ := hW
  have hlen := hwn.len100 ha
  have HWN := Lib.hid hwn
  have HL := Lib.hid hL
  have HT := Lib.hid (topW_mul ha hm)
  clear hwn hL ha
  by_cases hm0 : m = 0
  · subst hm0
    show Calls Try.prog 91 #[.slice A zs.length c, .int .i64 0] w (RetW w (a * 0))
    by_cases hz : 0 < zs.length
    · have d1 : decide (0 < zs.length) = true := decide_eq_true hz
      go_enter Try.func91, Try.ntmps91
      go_wp2
      go_loopw [5, 6, 7] (fun v t i wr => v = .slice none 0 0 ∧ t = .int .i64 0 ∧ i = .int .i64 0 ∧ wr = w) (fun _ _ _ _ => 0)
      case atStart => exact ⟨rfl, rfl, rfl, rfl⟩
      case round =>
        obtain ⟨rfl, rfl, rfl, rfl⟩ := hrel
        go_wp2
        go_loopw [5, 6] (fun v t wx => v = .slice none 0 0 ∧ t = .int .i64 0 ∧ wx = wr) (fun _ _ _ => 0)
        case atStart => exact ⟨rfl, rfl, rfl⟩
        case round =>
          obtain ⟨rfl, rfl, rfl⟩ := hrel
          go_wp2
          go_ret
          rw [Nat.mul_zero]
          exact ⟨none, 0, 0, rfl, IsW.zero, Below.refl _ _, fun _ h => by cases h⟩
    · have hz0 : zs.length = 0 := by omega
      have d1 : decide (0 < zs.length) = false := decide_eq_false hz
      go_enter Try.func91, Try.ntmps91
      go_wp2
      go_loopw [5, 6, 7] (fun v t i wr => v = .slice none 0 0 ∧ t = .int .i64 0 ∧ i = .int .i64 0 ∧ wr = w) (fun _ _ _ _ => 0)
      case atStart => exact ⟨rfl, rfl, rfl, rfl⟩
      case round =>
        obtain ⟨rfl, rfl, rfl, rfl⟩ := hrel
        go_wp2
        go_loopw [5, 6] (fun v t wx => v = .slice none 0 0 ∧ t = .int .i64 0 ∧ wx = wr) (fun _ _ _ => 0)
        case atStart => exact ⟨rfl, rfl, rfl⟩
        case round =>
          obtain ⟨rfl, rfl, rfl⟩ := hrel
          go_wp2
          go_ret
          rw [Nat.mul_zero]
          exact ⟨none, 0, 0, rfl, IsW.zero, Below.refl _ _, fun _ h => by cases h⟩
  · have hmp : 0 < m := by omega
    clear hm0
    go_enter Try.func91, Try.ntmps91
    go_wp2
    go_loopw [5, 6, 7] (fun v t i wr => ∃ (xs : List Nat) (cy k : Nat), t = .int .i64 cy ∧ i = .int .i64 k ∧ cy ≤ m ∧ k ≤ zs.length ∧ Hid (xs.length = k ∧ MkK xs cy (vlW (zs.take k) * m) ∧ OwnW w wr v xs)) (fun _ _ i _ => zs.length - (intOf i).toNat)
    case atStart => exact ⟨[], 0, 0, rfl, rfl, by omega, by omega, Lib.hid ⟨rfl, by simpa [vlW] using MkK.start 0, OwnW.nil w⟩⟩
    case round =>
      obtain ⟨xs, cy, k, rfl, rfl, hcy, hk, hr⟩ := hrel
      have hsz := hr.out.2.2.2.size
      by_cases hlt : k < zs.length
      · obtain ⟨b, o, rfl, hb, hc⟩ := (HL.out.below hr.out.2.2.2).digit hlt rfl
        have hz := HWN.out.dgAt hlt
        have hst := times_step hr.out.1 hr.out.2.1 hlt
        obtain ⟨z, hzz⟩ : ∃ z, z = zs[k] := ⟨_, rfl⟩
        rw [← hzz] at hc hz hst
        obtain ⟨x, hx⟩ : ∃ x, z * m = x := ⟨_, rfl⟩
        have hx2 : x ≤ 4611686001247518720 := by rw [← hx]; exact Nat.le_trans (Nat.mul_le_mul (show z ≤ 16777215 by omega) hm) (by decide)
        have hxi : (z : Int) * (m : Int) = (x : Int) := by rw [← hx]; simp
        have hcr := times_carry hcy hz
        rw [hx] at hst hcr
        have HST := Lib.hid hst
        have HX := Lib.hid hx
        have hxl : xs.length ≤ 100 := by rw [hr.out.1]; omega
        have LEN := Lib.hid hr.out.1
        clear hx hst hzz
        go_wp2_with (at_builtin; refine append_w (.tmp 26) (.tmp 29) rfl rfl w.heap.size _ _ _ wr rfl rfl hr.out.2.2.1 rfl (by rw [casts_length]; omega) hsz ?_; intro v' w1 ho hg _)
        have h1 := Lib.hid (hr.out.2.2.app (z := (cy + x) % 16777216) ho hg)
        clear ho hg
        go_wp2
        go_roundw
        case rel => exact ⟨xs ++ [(cy + x) % 16777216], (cy + x) / 16777216, k + 1, by go_num, by go_num, hcr, by omega, Lib.hid ⟨by rw [List.length_append, LEN.out]; rfl, HST.out, h1.out⟩⟩
        case measure => simp [intOf]; omega
      · obtain rfl : k = zs.length := by omega
        have hmw := hr.out.2.1.top (by rw [hr.out.1, List.take_length, HWN.out.vl]; exact times_top HWN.out hmp)
        rw [List.take_length, HWN.out.vl] at hmw
        have HM := Lib.hid (show MkW xs cy (a * m) ∧ OwnW w wr u5 xs from ⟨hmw, hr.out.2.2⟩)
        clear hmw hr
        go_wp2
        go_loopw [5, 6] (fun v t wr => ∃ (xs : List Nat) (cy : Nat), t = .int .i64 cy ∧ cy ≤ m ∧ Hid (MkW xs cy (a * m) ∧ OwnW w wr v xs)) (fun _ t _ => (intOf t).toNat)
        case atStart => exact ⟨xs, cy, rfl, hcy, HM⟩
        case round =>
          clear HM hsz
          obtain ⟨xs, cy, rfl, hcy, hr⟩ := hrel
          have hsz := hr.out.2.2.size
          by_cases h0 : 0 < cy
          · have hlen2 := hr.out.1.len HT.out
            have hst := hr.out.1.step h0
            have HST := Lib.hid hst
            clear hst
            go_wp2_with (at_builtin; refine append_w (.tmp 35) (.tmp 38) rfl rfl w.heap.size _ _ _ wr rfl rfl hr.out.2.1 rfl (by rw [casts_length]; omega) hsz ?_; intro v' w1 ho hg _)
            have h1 := Lib.hid (hr.out.2.app (z := cy % 16777216) ho hg)
            clear ho hg
            go_wp2
            go_roundw
            case rel => exact ⟨xs ++ [cy % 16777216], cy / 16777216, by go_num, by omega, Lib.hid ⟨HST.out, h1.out⟩⟩
            case measure => simp [intOf]; omega
          · obtain rfl : cy = 0 := by omega
            go_wp2
            go_ret
            exact hr.out.2.ret hr.out.1.done
end Go.Proofs.Ytdgmpaijpjkeoaa
/-
  WHOLE NUMBERS: Plus, Compare, even.
-/
namespace Go.Proofs.Ytdgmpaijpjkeoaa
open Go.RowKit
theorem atW_at {zs : List Nat} {k : Nat} (h : k < zs.length) : atW zs k = zs[k] := by rw [atW, List.getD_eq_getElem?_getD, List.getElem?_eq_getElem h]; rfl
theorem atW_out {zs : List Nat} {k : Nat} (h : zs.length ≤ k) : atW zs k = 0 := by rw [atW, List.getD_eq_getElem?_getD, List.getElem?_eq_none h]; rfl
theorem plus_lt {a b : Nat} (ha : a < topW) (hb : b < topW) : a + b < 16777216 ^ 101 := by
  have : topW + topW < 16777216 ^ 101 := by unfold topW; decide +kernel
  omega
theorem plus_len {k s : Nat} (h : 0 < k → 16777216 ^ (k - 1) ≤ s) (hs : s < 16777216 ^ 101) : k ≤ 101 := by
  rcases Nat.lt_or_ge 101 k with g | g
  · have h1 := h (by omega)
    have h2 := pwW_le (show 101 ≤ k - 1 by omega)
    omega
  · exact g
theorem plus_done {zs ys xs : List Nat} {a b k : Nat} (hz : WN zs a) (hy : WN ys b) (hl : xs.length = k) (h : MkK xs 0 (vlW (zs.take k) + vlW (ys.take k))) (h1 : zs.length ≤ k) (h2 : ys.length ≤ k) (ht : 0 < k → 16777216 ^ (k - 1) ≤ a + b) : WN xs (a + b) := by
  rw [List.take_of_length_le h1, List.take_of_length_le h2, hz.vl, hy.vl] at h
  exact (h.top (by rw [hl]; exact ht)).done
theorem plus_step' {zs ys xs : List Nat} {c k z y : Nat} (hl : xs.length = k) (h : MkK xs c (vlW (zs.take k) + vlW (ys.take k))) (hz : atW zs k = z) (hy : atW ys k = y) :
    MkK (xs ++ [(c + z + y) % 16777216]) ((c + z + y) / 16777216) (vlW (zs.take (k + 1)) + vlW (ys.take (k + 1))) := by
  have := plus_step hl h
  rw [hz, hy, ← Nat.add_assoc] at this
  exact this
set_option maxRecDepth 100000 in
set_option maxHeartbeats 1000000 in
theorem wplus_any (A : Option Addr) (n c a : Nat) (B : Option Addr) (n' c' b : Nat) (ha : a < topW) (hb : b < topW) (w : World) (hW : IsW w A n a) (hX : IsW w B n' b) :
    Calls Try.prog 92 #[.slice A n c, .slice B n' c'] w (RetW w (a + b)) := by
  obtain ⟨zs, hwn, rfl, hL⟩ := hW
  obtain ⟨ys, hyn, rfl, hM⟩ := hX
  have hlen := hwn.len100 ha
  have hlen2 := hyn.len100 hb
  have HZ := Lib.hid hwn
  have HY := Lib.hid hyn
  have HL := Lib.hid hL
  have HM := Lib.hid hM
  have HS := Lib.hid (plus_lt ha hb)
  clear hwn hL hyn hM ha hb
  go_enter Try.func92, Try.ntmps92
  go_wp2
  go_loopw [5, 6, 7] (fun v t i wr => ∃ (xs : List Nat) (cy k : Nat), t = .int .i64 cy ∧ i = .int .i64 k ∧ cy ≤ 1 ∧ Hid (xs.length = k ∧ MkK xs cy (vlW (zs.take k) + vlW (ys.take k)) ∧ (0 < k → 16777216 ^ (k - 1) ≤ a + b) ∧ OwnW w wr v xs)) (fun _ _ i _ => 200 - (intOf i).toNat)
  case atStart => exact ⟨[], 0, 0, rfl, rfl, by omega, Lib.hid ⟨rfl, by simpa [vlW] using MkK.start 0, by simp, OwnW.nil w⟩⟩
  case round =>
    obtain ⟨xs, cy, k, rfl, rfl, hcy, hr⟩ := hrel
    have hsz := hr.out.2.2.2.2.size
    have hk := plus_len hr.out.2.2.1 HS.out
    have hxl : xs.length ≤ 101 := by rw [hr.out.1]; omega
    by_cases h1 : k < zs.length
    · obtain ⟨p, o, rfl, hp, hc⟩ := (HL.out.below hr.out.2.2.2.2).digit h1 rfl
      have hz := HZ.out.dgAt h1
      have hza := atW_at h1
      have htp := HZ.out.top (by omega)
      have hpw := pwW_le (show k ≤ zs.length - 1 by omega)
      have HTP := Lib.hid (show 16777216 ^ k ≤ a + b by omega)
      obtain ⟨z, hzz⟩ : ∃ z, z = zs[k] := ⟨_, rfl⟩
      rw [← hzz] at hc hz hza
      clear htp hpw hzz
      by_cases h2 : k < ys.length
      · obtain ⟨p', o', rfl, hp', hc'⟩ := (HM.out.below hr.out.2.2.2.2).digit h2 rfl
        have hy := HY.out.dgAt h2
        have hya := atW_at h2
        obtain ⟨y, hyy⟩ : ∃ y, y = ys[k] := ⟨_, rfl⟩
        rw [← hyy] at hc' hy hya
        have HST := Lib.hid (plus_step' hr.out.1 hr.out.2.1 hza hya)
        have LEN := Lib.hid hr.out.1
        clear hza hya hyy
        go_wp2_with (at_builtin; refine append_w (.tmp 44) (.tmp 47) rfl rfl w.heap.size _ _ _ wr rfl rfl hr.out.2.2.2.1 rfl (by rw [casts_length]; omega) hsz ?_; intro v' w1 ho hg _)
        have h3 := Lib.hid (hr.out.2.2.2.app (z := (cy + z + y) % 16777216) ho hg)
        clear ho hg
        go_wp2
        go_roundw
        case rel => exact ⟨xs ++ [(cy + z + y) % 16777216], (cy + z + y) / 16777216, k + 1, by go_num, by go_num, by omega, Lib.hid ⟨by rw [List.length_append, LEN.out]; rfl, HST.out, fun _ => HTP.out, h3.out⟩⟩
        case measure => simp [intOf]; omega
      · have HST := Lib.hid (plus_step' hr.out.1 hr.out.2.1 hza (atW_out (by omega)))
        have LEN := Lib.hid hr.out.1
        have d2 : decide (k < ys.length) = false := decide_eq_false h2
        clear hza
        go_wp2_with (at_builtin; refine append_w (.tmp 44) (.tmp 47) rfl rfl w.heap.size _ _ _ wr rfl rfl hr.out.2.2.2.1 rfl (by rw [casts_length]; omega) hsz ?_; intro v' w1 ho hg _)
        have h3 := Lib.hid (hr.out.2.2.2.app (z := (cy + z + 0) % 16777216) ho hg)
        clear ho hg
        go_wp2
        go_roundw
        case rel => exact ⟨xs ++ [(cy + z + 0) % 16777216], (cy + z + 0) / 16777216, k + 1, by go_num, by go_num, by omega, Lib.hid ⟨by rw [List.length_append, LEN.out]; rfl, HST.out, fun _ => HTP.out, h3.out⟩⟩
        case measure => simp [intOf]; omega
    · have d1 : decide (k < zs.length) = false := decide_eq_false h1
      by_cases h2 : k < ys.length
      · obtain ⟨p', o', rfl, hp', hc'⟩ := (HM.out.below hr.out.2.2.2.2).digit h2 rfl
        have hy := HY.out.dgAt h2
        have hya := atW_at h2
        have htp := HY.out.top (by omega)
        have hpw := pwW_le (show k ≤ ys.length - 1 by omega)
        have HTP := Lib.hid (show 16777216 ^ k ≤ a + b by omega)
        obtain ⟨y, hyy⟩ : ∃ y, y = ys[k] := ⟨_, rfl⟩
        rw [← hyy] at hc' hy hya
        have HST := Lib.hid (plus_step' hr.out.1 hr.out.2.1 (atW_out (by omega)) hya)
        have LEN := Lib.hid hr.out.1
        clear hya hyy htp hpw
        go_wp2_with (at_builtin; refine append_w (.tmp 44) (.tmp 47) rfl rfl w.heap.size _ _ _ wr rfl rfl hr.out.2.2.2.1 rfl (by rw [casts_length]; omega) hsz ?_; intro v' w1 ho hg _)
        have h3 := Lib.hid (hr.out.2.2.2.app (z := (cy + 0 + y) % 16777216) ho hg)
        clear ho hg
        go_wp2
        go_roundw
        case rel => exact ⟨xs ++ [(cy + 0 + y) % 16777216], (cy + 0 + y) / 16777216, k + 1, by go_num, by go_num, by omega, Lib.hid ⟨by rw [List.length_append, LEN.out]; rfl, HST.out, fun _ => HTP.out, h3.out⟩⟩
        case measure => simp [intOf]; omega
      · have d2 : decide (k < ys.length) = false := decide_eq_false h2
        by_cases h0 : 0 < cy
        · have HST := Lib.hid (plus_step' hr.out.1 hr.out.2.1 (atW_out (by omega)) (atW_out (by omega)))
          have hvl := hr.out.2.1.vl
          rw [List.take_of_length_le (by omega), List.take_of_length_le (by omega), HZ.out.vl, HY.out.vl, hr.out.1] at hvl
          have : 16777216 ^ k * 1 ≤ 16777216 ^ k * cy := Nat.mul_le_mul_left _ h0
          have HTP := Lib.hid (show 16777216 ^ k ≤ a + b by omega)
          have LEN := Lib.hid hr.out.1
          clear hvl this
          go_wp2_with (at_builtin; refine append_w (.tmp 44) (.tmp 47) rfl rfl w.heap.size _ _ _ wr rfl rfl hr.out.2.2.2.1 rfl (by rw [casts_length]; omega) hsz ?_; intro v' w1 ho hg _)
          have h3 := Lib.hid (hr.out.2.2.2.app (z := (cy + 0 + 0) % 16777216) ho hg)
          clear ho hg
          go_wp2
          go_roundw
          case rel => exact ⟨xs ++ [(cy + 0 + 0) % 16777216], (cy + 0 + 0) / 16777216, k + 1, by go_num, by go_num, by omega, Lib.hid ⟨by rw [List.length_append, LEN.out]; rfl, HST.out, fun _ => HTP.out, h3.out⟩⟩
          case measure => simp [intOf]; omega
        · obtain rfl : cy = 0 := by omega
          have HD := Lib.hid (plus_done HZ.out HY.out hr.out.1 hr.out.2.1 (by omega) (by omega) hr.out.2.2.1)
          go_wp2
          go_ret
          exact hr.out.2.2.2.ret HD.out
end Go.Proofs.Ytdgmpaijpjkeoaa
/-
  WHOLE NUMBERS: Compare, even.
-/
namespace Go.Proofs.Ytdgmpaijpjkeoaa
open Go.RowKit
theorem wcmp_lt {zs ys : List Nat} {a b k : Nat} (hz : WN zs a) (hy : WN ys b) (h1 : k < zs.length) (h2 : k < ys.length) (he : vlW (zs.drop (k + 1)) = vlW (ys.drop (k + 1))) (hd : zs[k] < ys[k]) : a < b := by
  have := cmp_digit hz.dg hy.dg h1 h2 he hd
  rw [hz.vl, hy.vl] at this
  exact this
set_option maxRecDepth 100000 in
set_option maxHeartbeats 1000000 in
theorem wcompare_any (A : Option Addr) (n c a : Nat) (B : Option Addr) (n' c' b : Nat) (hn : n ≤ 1000) (hn' : n' ≤ 1000) (w : World) (hW : IsW w A n a) (hX : IsW w B n' b) :
    Calls Try.prog 107 #[.slice A n c, .slice B n' c'] w fun e w' => e = .returned (.int .i64 (cmpN a b)) ∧ Below w.heap.size w w' := by
  obtain ⟨zs, hwn, rfl, hL⟩ := hW
  obtain ⟨ys, hyn, rfl, hM⟩ := hX
  have HZ := Lib.hid hwn
  have HY := Lib.hid hyn
  have HL := Lib.hid hL
  have HM := Lib.hid hM
  rcases Nat.lt_trichotomy zs.length ys.length with h | h | h
  · have hlt := cmp_len hwn hyn h
    have HR := Lib.hid (show cmpN a b = -1 by rw [cmpN, if_pos hlt])
    have d0 : ((zs.length : Int) != ys.length) = true := by rw [bne_iff_ne]; omega
    have d1 : ((zs.length : Int) == ys.length) = false := by rw [beq_eq_false_iff_ne]; omega
    clear hwn hL hyn hM hlt
    go_enter Try.func107, Try.ntmps107
    go_wp2
    go_ret
    exact ⟨by rw [HR.out]; rfl, Below.refl _ _⟩
  · have d0 : ((zs.length : Int) != ys.length) = false := by rw [h]; simp
    have d1 : ((zs.length : Int) == ys.length) = true := by rw [h]; simp
    have HH := Lib.hid h
    have hle : zs.length ≤ ys.length := by omega
    have hle2 : ys.length ≤ zs.length := by omega
    clear hwn hL hyn hM h
    go_enter Try.func107, Try.ntmps107
    go_wp2
    go_loopw [5] (fun i wr => ∃ k nd : Nat, i = .int .i64 ((k : Int) - 1) ∧ k ≤ zs.length ∧ Hid (vlW (zs.drop k) = vlW (ys.drop k)) ∧ wr = w.drewN nd) (fun i _ => (intOf i + 1).toNat)
    case atStart => exact ⟨zs.length, 0, rfl, by omega, Lib.hid (by rw [List.drop_length, HH.out, List.drop_length]), rfl⟩
    case round =>
      obtain ⟨k, nd, rfl, hk, hu, rfl⟩ := hrel
      cases k with
      | zero =>
        have hab : a = b := by
          have := hu.out
          rw [List.drop_zero, List.drop_zero, HZ.out.vl, HY.out.vl] at this
          exact this
        have HAB := Lib.hid (show cmpN a b = 0 by rw [hab, cmpN, if_neg (by omega), if_neg (by omega)])
        clear hab
        go_wp2
        go_ret
        exact ⟨by rw [HAB.out]; rfl, (by repeat' (first | (with_reducible exact Below.refl _ _) | (with_reducible assumption) | (with_reducible refine below_drewN ?_ _) | (with_reducible refine below_step (by assumption) ?_ ?_) | (with_reducible refine Below.alloc ?_ ?_ _) | (with_reducible refine Below.setCell ?_ ?_ _) | (with_reducible refine Below.drew ?_) | go_size | (exact Below.size (by assumption)) | (refine Nat.le_trans (Below.size (by assumption)) ?_)))⟩
      | succ k =>
        rw [show ((k + 1 : Nat) : Int) - 1 = (k : Int) by omega]
        have h1 : k < zs.length := by omega
        have h2 : k < ys.length := by omega
        obtain ⟨p, o, rfl, hp, hc⟩ := HL.out.digit h1 rfl
        obtain ⟨p', o', rfl, hp', hc'⟩ := HM.out.digit h2 rfl
        have hlt := fun hd => wcmp_lt HZ.out HY.out h1 h2 hu.out hd
        have hgt := fun hd => wcmp_lt HY.out HZ.out h2 h1 hu.out.symm hd
        have hsm := fun hd => cmp_same h1 h2 hu.out hd
        obtain ⟨z, hz⟩ : ∃ z, z = zs[k] := ⟨_, rfl⟩
        obtain ⟨y, hy⟩ : ∃ y, y = ys[k] := ⟨_, rfl⟩
        rw [← hz] at hc hlt hgt hsm
        rw [← hy] at hc' hlt hgt hsm
        have HLT := Lib.hid hlt
        have HGT := Lib.hid hgt
        have HSM := Lib.hid hsm
        clear hz hy hlt hgt hsm
        rcases Nat.lt_trichotomy z y with h | h | h
        · have HAB := Lib.hid (show cmpN a b = -1 by rw [cmpN, if_pos (HLT.out h)])
          have e1 : decide ((z : Int) < (y : Int)) = true := decide_eq_true (by omega)
          go_wp2
          go_quiet (fail)
          go_wp2
          go_ret
          exact ⟨by rw [HAB.out]; rfl, (by repeat' (first | (with_reducible exact Below.refl _ _) | (with_reducible assumption) | (with_reducible refine below_drewN ?_ _) | (with_reducible refine below_step (by assumption) ?_ ?_) | (with_reducible refine Below.alloc ?_ ?_ _) | (with_reducible refine Below.setCell ?_ ?_ _) | (with_reducible refine Below.drew ?_) | go_size | (exact Below.size (by assumption)) | (refine Nat.le_trans (Below.size (by assumption)) ?_)))⟩
        · subst h
          have HU := Lib.hid (HSM.out rfl)
          go_wp2
          go_quiet (fail)
          go_wp2
          go_quiet (fail)
          go_wp2
          go_roundw
          case rel => exact ⟨k, _, by go_num, by omega, HU, rfl⟩
          case measure => simp [intOf]
        · have hgt := HGT.out h
          have HAB := Lib.hid (show cmpN a b = 1 by rw [cmpN, if_neg (by omega), if_pos hgt])
          clear hgt
          have e1 : decide ((z : Int) < (y : Int)) = false := decide_eq_false (by omega)
          go_wp2
          go_quiet (fail)
          go_wp2
          go_quiet (fail)
          go_wp2
          go_ret
          exact ⟨by rw [HAB.out]; rfl, (by repeat' (first | (with_reducible exact Below.refl _ _) | (with_reducible assumption) | (with_reducible refine below_drewN ?_ _) | (with_reducible refine below_step (by assumption) ?_ ?_) | (with_reducible refine Below.alloc ?_ ?_ _) | (with_reducible refine Below.setCell ?_ ?_ _) | (with_reducible refine Below.drew ?_) | go_size | (exact Below.size (by assumption)) | (refine Nat.le_trans (Below.size (by assumption)) ?_)))⟩
  · have hlt := cmp_len hyn hwn h
    have HR := Lib.hid (show cmpN a b = 1 by rw [cmpN, if_neg (by omega), if_pos hlt])
    have d0 : ((zs.length : Int) != ys.length) = true := by rw [bne_iff_ne]; omega
    have d1 : ((zs.length : Int) == ys.length) = false := by rw [beq_eq_false_iff_ne]; omega
    have d2 : decide (zs.length < ys.length) = false := decide_eq_false (by omega)
    clear hwn hL hyn hM hlt
    go_enter Try.func107, Try.ntmps107
    go_wp2
    go_ret
    exact ⟨by rw [HR.out]; rfl, Below.refl _ _⟩
theorem even_digit {z : Nat} {r : List Nat} {a : Nat} (h : WN (z :: r) a) : a % 2 = z % 2 := by
  have := h.vl
  simp only [vlW] at this
  omega
set_option maxRecDepth 100000 in
theorem weven_any (A : Option Addr) (n c a : Nat) (r : Bool) (hr : (a % 2 == 0) = r) (w : World) (hW : IsW w A n a) (hn : n ≤ 1000) :
    Calls Try.prog 114 #[.slice A n c] w fun e w' => e = .returned (.bool r) ∧ w = w' := by
  obtain ⟨zs, hwn, rfl, hL⟩ := hW
  cases zs with
  | nil =>
    have ha : a = 0 := hwn.vl.symm
    subst ha
    have HR := Lib.hid (show true = r by rw [← hr]; rfl)
    clear hr hwn hL
    go_enter Try.func114, Try.ntmps114
    go_wp2
    go_ret
    exact ⟨by rw [← HR.out]; rfl, rfl⟩
  | cons z t =>
    have he := even_digit hwn
    have hz := hwn.dg z (by simp)
    obtain ⟨p, o, rfl, hp, hc⟩ := hL.digit (k := 0) (by simp) rfl
    simp only [List.getElem_cons_zero] at hc
    have d0 : ((((z :: t).length : Nat) : Int) == 0) = false := by rw [beq_eq_false_iff_ne, List.length_cons]; omega
    obtain ⟨L, hL2⟩ : ∃ L, L = (z :: t).length := ⟨_, rfl⟩
    have hL0 : 0 < L := by rw [hL2]; simp
    rw [← hL2] at d0 hn ⊢
    have HR := Lib.hid (show ((z : Int) % 2 == 0) = r by rw [← hr, he]; rw [Bool.eq_iff_iff]; simp; omega)
    clear hr hwn hL he hL2
    rw [Nat.add_zero] at hc
    go_enter Try.func114, Try.ntmps114
    go_wp2
    go_ret
    exact ⟨by rw [← HR.out]; rfl, rfl⟩
end Go.Proofs.Ytdgmpaijpjkeoaa
/-
  WHOLE NUMBERS: By.
-/
namespace Go.Proofs.Ytdgmpaijpjkeoaa
open Go.RowKit
theorem make_w (n : Nat) (hn : n ≤ 1000000) (w : World) : (Instr.makeSlice 80 (.int .i64 (n : Int)) (.int .i64 (n : Int))).run Try.prog w = .ok (.slice (some ⟨w.heap.size, 0, none⟩) n n) (w.alloc (.cells (zcells n) 3)) := by
  obtain ⟨i0, hi, hz0, hz1, hz2⟩ := info_parts intInfo
  have hr := run_make (P := Try.prog) w 80 3 i0 (.int .i64 0) Try.underlying80 hi hz0 .i64 .i64 n n (by omega) (Int.le_refl _) (by rw [hz2]; omega) (by omega)
  rw [hz1] at hr
  simp only [Int.toNat_natCast, zcells_made] at hr
  exact hr
/-- The length of a slice. -/
def lenV (v : Value) : Nat := match v with | .slice _ n _ => n | _ => 0
theorem set_drop {xs : List Nat} {k q : Nat} (h : k < xs.length) : (xs.set k q).drop k = q :: xs.drop (k + 1) := by
  rw [List.drop_eq_getElem_cons (by rw [List.length_set]; exact h), List.getElem_set_self]
  congr 1
  rw [List.drop_set_of_lt (by omega)]
theorem casts_set (xs : List Nat) (k q : Nat) : casts (xs.set k q) = (casts xs).set k (q : Int) := by simp [casts, List.map_set]
theorem casts_zero (n : Nat) : casts (List.replicate n 0) = List.replicate n 0 := by simp [casts]
theorem dg_set {xs : List Nat} {k q : Nat} (h : ∀ z ∈ xs, z < 16777216) (hq : q < 16777216) : ∀ z ∈ xs.set k q, z < 16777216 := by
  intro z hz
  rcases List.mem_or_eq_of_mem_set hz with h1 | h1
  · exact h z h1
  · omega
theorem by_round {zs xs : List Nat} {k r m : Nat} (hk : k < zs.length) (hl : xs.length = zs.length) (h : vlW (zs.drop (k + 1)) = vlW (xs.drop (k + 1)) * m + r) :
    vlW (zs.drop k) = vlW ((xs.set k ((r * 16777216 + zs[k]) / m)).drop k) * m + (r * 16777216 + zs[k]) % m := by
  rw [set_drop (by omega), drop_cons hk, h, vlW, Nat.add_mul, Nat.mul_comm ((r * 16777216 + zs[k]) / m) m]
  have := Nat.div_add_mod (r * 16777216 + zs[k]) m
  rw [Nat.mul_add, Nat.mul_assoc]
  omega
theorem by_digit {r z m : Nat} (hr : r < m) (hz : z < 16777216) : (r * 16777216 + z) / m < 16777216 := by
  rw [Nat.div_lt_iff_lt_mul (by omega)]
  have : (r + 1) * 16777216 ≤ m * 16777216 := Nat.mul_le_mul_right _ hr
  rw [Nat.mul_comm m] at this
  omega
theorem casts_take (xs : List Nat) (k : Nat) : casts (xs.take k) = (casts xs).take k := by simp [casts, List.map_take]
theorem row_take {w : World} {g : Nat} {xs : List Nat} {k : Nat} (h : RowI w g (casts xs)) (hk : k ≤ xs.length) : IsL w (some ⟨g, 0, none⟩) k (casts (xs.take k)) := by
  refine ⟨by rw [casts_length, List.length_take]; omega, fun _ => ⟨g, 0, rfl, Row.lt h, fun i hi => ?_⟩⟩
  rw [Nat.zero_add, h.get i (by rw [casts_length]; omega), casts_getD (by omega), casts_getD (by rw [List.length_take]; omega), List.getElem_take]
set_option maxRecDepth 100000 in
set_option maxHeartbeats 1000000 in
theorem wby_any (A : Option Addr) (n c a m : Nat) (hm : 0 < m) (hm2 : m ≤ 274877906944) (hn : n ≤ 1000) (w : World) (hW : IsW w A n a) :
    Calls Try.prog 93 #[.slice A n c, .int .i64 m] w (RetW w (a / m)) := by
  obtain ⟨zs, hwn, rfl, hL⟩ := hW
  have hmk := fun w => make_w zs.length (by omega) w
  have HZ := Lib.hid hwn
  have HL := Lib.hid hL
  clear hwn hL
  go_enter Try.func93, Try.ntmps93
  go_wp2
  obtain ⟨W, hW⟩ : ∃ W, W = w.alloc (.cells (zcells zs.length) 3) := ⟨_, rfl⟩
  rw [← hW]
  have H0 := Lib.hid (show RowI W w.heap.size (casts (List.replicate zs.length 0)) ∧ Below w.heap.size w W by rw [hW, casts_zero]; exact ⟨RowI.zeros _ _, (by repeat' (first | (with_reducible exact Below.refl _ _) | (with_reducible assumption) | (with_reducible refine below_drewN ?_ _) | (with_reducible refine below_step (by assumption) ?_ ?_) | (with_reducible refine Below.alloc ?_ ?_ _) | (with_reducible refine Below.setCell ?_ ?_ _) | (with_reducible refine Below.drew ?_) | go_size | (exact Below.size (by assumption)) | (refine Nat.le_trans (Below.size (by assumption)) ?_)))⟩)
  clear hW hmk
  go_loopw [6, 7] (fun t i wr => ∃ (xs : List Nat) (r k : Nat), t = .int .i64 r ∧ i = .int .i64 ((k : Int) - 1) ∧ r < m ∧ k ≤ zs.length ∧ Hid (xs.length = zs.length ∧ (∀ z ∈ xs, z < 16777216) ∧ vlW (zs.drop k) = vlW (xs.drop k) * m + r ∧ RowI wr w.heap.size (casts xs) ∧ Below w.heap.size w wr)) (fun _ i _ => (intOf i + 1).toNat)
  case atStart => exact ⟨List.replicate zs.length 0, 0, zs.length, rfl, rfl, hm, Nat.le_refl _, Lib.hid ⟨by simp, fun z hz => by simp at hz; omega, by rw [List.drop_length, List.drop_eq_nil_of_le (by simp)]; simp [vlW], H0.out.1, H0.out.2⟩⟩
  case round =>
    clear H0
    obtain ⟨xs, r, k, rfl, rfl, hr, hk, hq⟩ := hrel
    cases k with
    | zero =>
      have hdiv : vlW xs = a / m := by
        have := hq.out.2.2.1
        rw [List.drop_zero, List.drop_zero, HZ.out.vl] at this
        rw [this, Nat.mul_comm, Nat.mul_add_div hm, Nat.div_eq_of_lt hr, Nat.add_zero]
      have HD := Lib.hid (show (∀ z ∈ xs, z < 16777216) ∧ vlW (xs.take zs.length) = a / m ∧ xs.length = zs.length from ⟨hq.out.2.1, by rw [List.take_of_length_le (by rw [hq.out.1]; omega)]; exact hdiv, hq.out.1⟩)
      have HQ := Lib.hid (show RowI wr w.heap.size (casts xs) ∧ Below w.heap.size w wr from hq.out.2.2.2)
      clear hdiv hq
      go_wp2
      go_loopw [5] (fun v wx => ∃ j : Nat, v = .slice (some ⟨w.heap.size, 0, none⟩) j zs.length ∧ j ≤ zs.length ∧ Hid (vlW (xs.take j) = a / m ∧ wx = wr)) (fun v _ => lenV v)
      case atStart => exact ⟨zs.length, rfl, Nat.le_refl _, Lib.hid ⟨HD.out.2.1, rfl⟩⟩
      case round =>
        obtain ⟨j, rfl, hj, hv⟩ := hrel
        have hwr := hv.out.2
        subst hwr
        have HV := Lib.hid hv.out.1
        clear hv
        by_cases hz : j = 0
        · subst hz
          have HA := Lib.hid (show 0 = a / m from HV.out)
          show Code.wp _ _ _ _ _
          go_wp2
          go_ret
          refine ⟨some ⟨w.heap.size, 0, none⟩, 0, zs.length, rfl, ?_, HQ.out.2, fun _ h => by cases h; exact Nat.le_refl _⟩
          rw [← HA.out]
          exact ⟨[], WN.nil, rfl, rfl, fun h => absurd h (by omega)⟩
        · obtain ⟨j', hj'⟩ : ∃ j', j = j' + 1 := ⟨j - 1, by omega⟩
          have he : (j : Int) - 1 = (j' : Int) := by omega
          have hjp : 0 < j := by omega
          have hj2 : j' < zs.length := by omega
          have hj3 : j' < j := by omega
          have hc := HQ.out.1.get j' (by rw [casts_length, HD.out.2.2]; omega)
          have hlt := Row.lt HQ.out.1
          rw [casts_getD (by rw [HD.out.2.2]; omega)] at hc
          have hxl : j' < xs.length := by rw [HD.out.2.2]; omega
          have hstr := strike_last hxl
          have hstop := stop_last (a := a / m) HD.out.1 (by rw [← hj']; exact HV.out) hxl
          rw [← hj'] at hstr hstop
          have HSR := Lib.hid hstr
          have HSO := Lib.hid hstop
          obtain ⟨z, hzz⟩ : ∃ z, z = xs[j'] := ⟨_, rfl⟩
          rw [← hzz] at hc HSR HSO
          have HJ := Lib.hid hj'
          clear hz hj' hstr hstop hzz hxl
          by_cases h0 : z = 0
          · have HS2 := Lib.hid (HSR.out h0)
            have d0 : ((z : Int) == 0) = true := by rw [beq_iff_eq]; omega
            clear h0
            go_wp2
            go_roundw
            case rel => exact ⟨j', rfl, by omega, Lib.hid ⟨by rw [← HS2.out]; exact HV.out, trivial⟩⟩
            case measure => simp [lenV]; omega
          · have HS2 := Lib.hid (HSO.out h0)
            have d0 : ((z : Int) == 0) = false := by rw [beq_eq_false_iff_ne]; omega
            clear h0
            go_wp2
            go_ret
            exact ⟨some ⟨w.heap.size, 0, none⟩, j, zs.length, rfl, ⟨xs.take j, HS2.out, by rw [List.length_take, HD.out.2.2]; omega, row_take HQ.out.1 (by rw [HD.out.2.2]; omega)⟩, HQ.out.2, fun _ h => by cases h; exact Nat.le_refl _⟩
    | succ k =>
      rw [show ((k + 1 : Nat) : Int) - 1 = (k : Int) by omega]
      have h1 : k < zs.length := by omega
      obtain ⟨p, o, rfl, hp, hc⟩ := (HL.out.below hq.out.2.2.2.2).digit h1 rfl
      have hz := HZ.out.dgAt h1
      have hst := by_round h1 hq.out.1 hq.out.2.2.1
      obtain ⟨z, hzz⟩ : ∃ z, z = zs[k] := ⟨_, rfl⟩
      rw [← hzz] at hc hz hst
      have hdg := by_digit hr hz
      have hmod := Nat.mod_lt (r * 16777216 + z) hm
      have hcell := hq.out.2.2.2.1.get k (by rw [casts_length, hq.out.1]; exact h1)
      have hfz : wr.frozen? ⟨w.heap.size, k, none⟩ = false := Row.free hq.out.2.2.2.1 k
      have hlt := Row.lt hq.out.2.2.2.1
      obtain ⟨q, hqq⟩ : ∃ q, q = (r * 16777216 + z) / m := ⟨_, rfl⟩
      obtain ⟨r', hrr⟩ : ∃ r', r' = (r * 16777216 + z) % m := ⟨_, rfl⟩
      have e1 : ((r : Int) * 16777216 + (z : Int)) / (m : Int) = (q : Int) := by rw [hqq]; simp
      have e2 : ((r : Int) * 16777216 + (z : Int)) % (m : Int) = (r' : Int) := by rw [hrr]; simp
      rw [← hqq] at hdg hst
      rw [← hrr] at hmod hst
      have HST := Lib.hid hst
      have HDG := Lib.hid hdg
      clear hst hzz hqq hrr hdg
      go_wp2
      go_roundw
      case rel => exact ⟨xs.set k q, r', k, by rw [e2], rfl, hmod, by omega, Lib.hid ⟨by rw [List.length_set]; exact hq.out.1, dg_set hq.out.2.1 HDG.out, HST.out, by rw [casts_set]; first | exact hq.out.2.2.2.1.set k _ | (rw [e1]; exact hq.out.2.2.2.1.set k _), hq.out.2.2.2.2.setCell (by simp) _⟩⟩
      case measure => simp [intOf]
end Go.Proofs.Ytdgmpaijpjkeoaa
/-
  WHOLE NUMBERS: Minus.
-/
namespace Go.Proofs.Ytdgmpaijpjkeoaa
open Go.RowKit
attribute [local go_sem] grow_cell grow_frozen
/-- append(Whole with no digits, x...). -/
theorem append_all {w : World} {ops : Array Oper} {rest : List Oper} {o : Oper} {a : Act} {Q : Exit → Act → World → Prop} (s x : Operand)
    (ho : o.op = .call { callee := .builtin .append, args := #[s, x], argTypes := #[80, 80] }) (hgd : o.guard = none)
    (W : World) (hW : w = W.alloc (.cells #[] 3)) (hs : a.eval s = .slice (some ⟨W.heap.size, 0, none⟩) 0 0) (b off n c : Nat) (xs : List Int) (hx : a.eval x = .slice (some ⟨b, off, none⟩) n c)
    (hL : IsL W (some ⟨b, off, none⟩) n xs) (hn0 : 0 < n) (hn : n ≤ 1000000)
    (h : ∀ g cap w', RowI w' g xs → W.heap.size ≤ g → n ≤ cap → Below W.heap.size W w' → wpList Try.prog ops Q rest (a.put o.dst (.slice (some ⟨g, 0, none⟩) n cap)) w') : wpList Try.prog ops Q (o :: rest) a w := by
  subst hW
  obtain ⟨hl, hc⟩ := hL
  obtain ⟨b', o', hA, hb, hcs⟩ := hc hn0
  cases hA
  obtain ⟨i0, hi, hz0, hz1, hz2⟩ := info_parts intInfo
  have hown : (W.alloc (.cells #[] 3)).ownsRow W.heap.size 3 1 (.slice (some ⟨W.heap.size, 0, none⟩) 0 0) 0 [] := ⟨rfl, .inr ⟨W.heap.size, 0, #[], rfl, Nat.le_refl _, heap_alloc_new W _, Nat.le_refl _, by unfold maxLen; omega, rfl, rfl⟩⟩
  refine wpList_append_lies (P := Try.prog) (w := W.alloc (.cells #[] 3)) hgd s x 80 ho W.heap.size 3 i0 (.int .i64 0) 1 8 Try.underlying80 hi hz0 hz1 hz2 rfl (by decide) _ 0 [] hs hown ⟨b, off, none⟩ n c (xs.map (Value.int .i64)) hx (by simp; omega)
    (by
      intro j u hu
      have hj : j < n := by
        have := (List.getElem?_eq_some_iff.1 hu).1
        simp at this; omega
      have e : u = .int .i64 (xs.getD j 0) := by
        have hj2 : j < xs.length := by omega
        simp [hj2] at hu
        rw [← hu]; simp [hj2]
      have ha : (⟨b, off, none⟩ : Addr).add j = ⟨b, off + j, none⟩ := by simp [Addr.add]
      rw [ha, e, World.cell?_of_block (a := ⟨b, off + j, none⟩) (heap_alloc_old W _ hb)]
      exact hcs j hj) (by intro u hu; obtain ⟨z, _, rfl⟩ := List.mem_map.1 hu; rfl) hn0 (by unfold maxLen; omega) (by omega) (by simp) (W.heap.size + 1) (by simp) ?_
  intro g cap w' h1 h2 h3 h4
  rw [Nat.zero_add, List.nil_append] at h1
  rw [Nat.zero_add]
  have hr := Row.of_own h1
  have hcap : n ≤ cap := by
    rcases h1.2 with ⟨hv, _⟩ | ⟨g', cap', cur, hv, _, _, hh, _⟩
    · cases hv
    · cases hv; exact hh
  refine h g cap w' hr.1 hr.2.2 hcap ?_
  exact ((Below.refl W.heap.size W).alloc (Nat.le_refl _) (.cells #[] 3)).grown h2 (by simp) (by intro k hk; simp [Value.ownBlock] at hk; omega)
theorem getD_i {xs : List Int} {k : Nat} (h : k < xs.length) : xs[k] = xs.getD k 0 := by
  rw [List.getD_eq_getElem?_getD, List.getElem?_eq_getElem h]; rfl
def vlI : List Int → Int
  | [] => 0
  | z :: r => z + 16777216 * vlI r
theorem vlI_casts (zs : List Nat) : vlI (casts zs) = (vlW zs : Int) := by
  induction zs with
  | nil => rfl
  | cons z r ih =>
    have e : casts (z :: r) = (z : Int) :: casts r := rfl
    rw [e, vlI, ih, vlW]; omega
theorem vlI_append (xs ys : List Int) : vlI (xs ++ ys) = vlI xs + ((16777216 ^ xs.length : Nat) : Int) * vlI ys := by
  induction xs with
  | nil => simp [vlI]
  | cons x xs ih =>
    simp only [List.cons_append, vlI, ih, List.length_cons, Nat.pow_succ]
    rw [Int.mul_add, Int.natCast_mul, Int.mul_comm (((16777216 ^ xs.length : Nat) : Int)) ((16777216 : Nat) : Int), Int.mul_assoc]
    omega
theorem vlI_set {xs : List Int} {k : Nat} (h : k < xs.length) (v : Int) : vlI (xs.set k v) = vlI xs + ((16777216 ^ k : Nat) : Int) * (v - xs.getD k 0) := by
  have e1 : xs = xs.take k ++ xs[k] :: xs.drop (k + 1) := by
    conv => lhs; rw [← List.take_append_drop k xs, List.drop_eq_getElem_cons h]
  have e2 : xs.set k v = xs.take k ++ v :: xs.drop (k + 1) := by rw [List.set_eq_take_append_cons_drop, if_pos h]
  have hl : (xs.take k).length = k := by rw [List.length_take]; omega
  have e3 : vlI xs = vlI (xs.take k) + ((16777216 ^ k : Nat) : Int) * (xs[k] + 16777216 * vlI (xs.drop (k + 1))) := by
    conv => lhs; rw [e1, vlI_append, vlI, hl]
  rw [← getD_i h, e2, vlI_append, vlI, hl, e3, Int.mul_add, Int.mul_add, Int.mul_sub]
  omega
/-- Digits that are all in range are those of a natural number. -/
theorem casts_of {xs : List Int} (h : ∀ j, j < xs.length → 0 ≤ xs.getD j 0 ∧ xs.getD j 0 < 16777216) : ∃ zs : List Nat, casts zs = xs ∧ ∀ z ∈ zs, z < 16777216 := by
  refine ⟨xs.map Int.toNat, ?_, ?_⟩
  · apply List.ext_getElem
    · simp [casts]
    · intro i h1 h2
      have := h i h2
      rw [← getD_i h2] at this
      simp [casts]; omega
  · intro z hz
    obtain ⟨x, hx, rfl⟩ := List.mem_map.1 hz
    obtain ⟨i, hi, rfl⟩ := List.getElem_of_mem hx
    have := h i hi
    rw [← getD_i hi] at this
    omega
theorem getD_set {xs : List Int} {k j : Nat} (v : Int) (hk : k < xs.length) : (xs.set k v).getD j 0 = if j = k then v else xs.getD j 0 := by
  rw [List.getD_eq_getElem?_getD, List.getElem?_set, List.getD_eq_getElem?_getD]
  by_cases h : k = j
  · subst h; rw [if_pos rfl, if_pos hk, if_pos rfl]; rfl
  · rw [if_neg h, if_neg (fun e => h e.symm)]
/-- Digits below k in range, the last of them below 0: the number is below 0. -/
theorem vlI_low {xs : List Int} (h : ∀ j, j < xs.length → 0 ≤ xs.getD j 0 ∧ xs.getD j 0 < 16777216) : 0 ≤ vlI xs ∧ vlI xs < ((16777216 ^ xs.length : Nat) : Int) := by
  obtain ⟨zs, rfl, hz⟩ := casts_of h
  have := vlW_lt hz
  rw [vlI_casts, casts_length]
  omega
theorem last_neg {xs : List Int} {k : Nat} (hk : xs.length = k + 1) (h : ∀ j, j < k → 0 ≤ xs.getD j 0 ∧ xs.getD j 0 < 16777216) (hv : 0 ≤ vlI xs) : 0 ≤ xs.getD k 0 := by
  have e1 : xs = xs.take k ++ [xs[k]] := by
    conv => lhs; rw [← List.take_append_drop k xs, List.drop_eq_getElem_cons (by omega), List.drop_eq_nil_of_le (by omega)]
  have hl : (xs.take k).length = k := by rw [List.length_take]; omega
  have h2 := vlI_low (xs := xs.take k) (fun j hj => by
    rw [hl] at hj
    have := h j hj
    rw [List.getD_eq_getElem?_getD, List.getElem?_take, if_pos hj, ← List.getD_eq_getElem?_getD]
    exact this)
  rw [hl] at h2
  rw [e1, vlI_append, hl] at hv
  rw [← getD_i (by omega)]
  simp only [vlI, Int.mul_zero, Int.add_zero] at hv
  rcases Int.lt_or_le (xs[k]'(by omega)) 0 with g | g
  · have : ((16777216 ^ k : Nat) : Int) * (xs[k]'(by omega)) ≤ ((16777216 ^ k : Nat) : Int) * (-1) := Int.mul_le_mul_of_nonneg_left (by omega) (by omega)
    omega
  · exact g
end Go.Proofs.Ytdgmpaijpjkeoaa
/-
  WHOLE NUMBERS: Minus, the walk.
-/
namespace Go.Proofs.Ytdgmpaijpjkeoaa
open Go.RowKit
attribute [local go_sem] grow_cell grow_frozen
/-- The first loop: the digits of b below k are taken off. -/
structure MnA (xs : List Int) (n k : Nat) (ys : List Nat) (a : Nat) : Prop where
  len : xs.length = n
  lo : ∀ j, j < n → -16777216 < xs.getD j 0 ∧ xs.getD j 0 < 16777216
  hi : ∀ j, k ≤ j → j < n → 0 ≤ xs.getD j 0
  vl : vlI xs = (a : Int) - (vlW (ys.take k) : Int)
theorem MnA.start {zs : List Nat} {a : Nat} (h : WN zs a) (ys : List Nat) : MnA (casts zs) zs.length 0 ys a :=
  ⟨casts_length _, fun j hj => by rw [casts_getD hj]; have := h.dgAt hj; omega, fun j _ hj => by rw [casts_getD hj]; omega, by rw [vlI_casts, h.vl]; simp [vlW]⟩
theorem MnA.step {xs : List Int} {n k : Nat} {ys : List Nat} {a b : Nat} (h : MnA xs n k ys a) (hy : WN ys b) (hk : k < ys.length) (hn : k < n) : MnA (xs.set k (xs.getD k 0 - (ys[k] : Int))) n (k + 1) ys a := by
  have h1 := hy.dgAt hk
  have h2 := h.lo k hn
  have h3 := h.hi k (Nat.le_refl _) hn
  have hkx : k < xs.length := by rw [h.len]; exact hn
  refine ⟨by rw [List.length_set]; exact h.len, fun j hj => ?_, fun j hj hjn => ?_, ?_⟩
  · rw [getD_set _ hkx]
    split
    · omega
    · exact h.lo j hj
  · rw [getD_set _ hkx, if_neg (by omega)]
    exact h.hi j (by omega) hjn
  · rw [vlI_set hkx, h.vl, vlW_take hk, Int.natCast_add, Int.natCast_mul]
    have : xs.getD k 0 - (ys[k] : Int) - xs.getD k 0 = -(ys[k] : Int) := by omega
    rw [this, Int.mul_neg]
    omega
/-- The second loop: the digits below k are in range. -/
structure MnB (xs : List Int) (n k : Nat) (d : Nat) : Prop where
  len : xs.length = n
  dg : ∀ j, j < k → j < n → 0 ≤ xs.getD j 0 ∧ xs.getD j 0 < 16777216
  at_ : k < n → -16777216 ≤ xs.getD k 0 ∧ xs.getD k 0 < 16777216
  lo : ∀ j, k < j → j < n → -16777216 < xs.getD j 0 ∧ xs.getD j 0 < 16777216
  vl : vlI xs = (d : Int)
theorem MnA.toB {xs : List Int} {n : Nat} {ys : List Nat} {a b : Nat} (h : MnA xs n ys.length ys a) (hy : WN ys b) (hba : b ≤ a) : MnB xs n 0 (a - b) :=
  ⟨h.len, fun j hj => absurd hj (by omega), fun hn => by have := h.lo 0 hn; omega, fun j _ hj => h.lo j hj, by rw [h.vl, List.take_length, hy.vl]; omega⟩
theorem MnB.keep {xs : List Int} {n k d : Nat} (h : MnB xs n k d) (hk : k < n) (h0 : 0 ≤ xs.getD k 0) : MnB xs n (k + 1) d := by
  refine ⟨h.len, fun j hj hn => ?_, fun hn => ?_, fun j hj hn => h.lo j (by omega) hn, h.vl⟩
  · rcases Nat.lt_succ_iff_lt_or_eq.1 hj with g | rfl
    · exact h.dg j g hn
    · exact ⟨h0, (h.at_ hk).2⟩
  · have := h.lo (k + 1) (by omega) hn; omega
theorem MnB.inner {xs : List Int} {n k d : Nat} (h : MnB xs n k d) (hk : k < n) (h0 : xs.getD k 0 < 0) : k + 1 < n := by
  rcases Nat.lt_or_ge (k + 1) n with g | g
  · exact g
  · have := last_neg (xs := xs) (k := k) (by rw [h.len]; omega) (fun j hj => h.dg j hj (by omega)) (by rw [h.vl]; omega)
    omega
theorem MnB.borrow {xs : List Int} {n k d : Nat} (h : MnB xs n k d) (hk : k + 1 < n) (h0 : xs.getD k 0 < 0) : MnB ((xs.set k (xs.getD k 0 + 16777216)).set (k + 1) (xs.getD (k + 1) 0 - 1)) n (k + 1) d := by
  have hkx : k < xs.length := by rw [h.len]; omega
  have hkx2 : k + 1 < (xs.set k (xs.getD k 0 + 16777216)).length := by rw [List.length_set, h.len]; omega
  have hat := h.at_ (by omega)
  have hlo := h.lo (k + 1) (by omega) hk
  refine ⟨by rw [List.length_set, List.length_set]; exact h.len, fun j hj hn => ?_, fun hn => ?_, fun j hj hn => ?_, ?_⟩
  · rw [getD_set _ hkx2, if_neg (by omega), getD_set _ hkx]
    split
    · omega
    · exact h.dg j (by omega) hn
  · rw [getD_set _ hkx2, if_pos rfl]; omega
  · rw [getD_set _ hkx2, if_neg (by omega), getD_set _ hkx, if_neg (by omega)]
    exact h.lo j (by omega) hn
  · rw [vlI_set hkx2, vlI_set hkx, h.vl, getD_set _ hkx, if_neg (by omega), Nat.pow_succ, Int.natCast_mul]
    have e1 : xs.getD k 0 + 16777216 - xs.getD k 0 = 16777216 := by omega
    have e2 : xs.getD (k + 1) 0 - 1 - xs.getD (k + 1) 0 = -1 := by omega
    rw [e1, e2]
    omega
theorem MnB.done {xs : List Int} {n d : Nat} (h : MnB xs n n d) : ∃ zs : List Nat, casts zs = xs ∧ zs.length = n ∧ (∀ z ∈ zs, z < 16777216) ∧ vlW zs = d := by
  obtain ⟨zs, hz, hd⟩ := casts_of (xs := xs) (fun j hj => h.dg j (by rw [← h.len]; exact hj) (by rw [← h.len]; exact hj))
  refine ⟨zs, hz, by rw [← casts_length, hz, h.len], hd, ?_⟩
  have := h.vl
  rw [← hz, vlI_casts] at this
  omega
set_option maxRecDepth 100000 in
set_option maxHeartbeats 1000000 in
theorem wminus_any (A : Option Addr) (n c a : Nat) (B : Option Addr) (n' c' b : Nat) (hn : n ≤ 1000) (ha : 0 < a) (hba : b ≤ a) (w : World) (hW : IsW w A n a) (hX : IsW w B n' b) :
    Calls Try.prog 115 #[.slice A n c, .slice B n' c'] w (RetW w (a - b)) := by
  obtain ⟨zs, hwn, rfl, hL⟩ := hW
  obtain ⟨ys, hyn, rfl, hM⟩ := hX
  have hz0 : 0 < zs.length := Nat.pos_of_ne_zero (fun e => by have := hwn.zero_iff.1 e; omega)
  have hyz : ys.length ≤ zs.length := by
    rcases Nat.lt_or_ge zs.length ys.length with g | g
    · have := cmp_len hwn hyn g; omega
    · exact g
  obtain ⟨p, o, rfl, hp, -⟩ := hL.2 hz0
  have HZ := Lib.hid hwn
  have HY := Lib.hid hyn
  have HL := Lib.hid hL
  have HM := Lib.hid hM
  have HBA := Lib.hid hba
  clear hwn hyn hL hM hba
  go_enter Try.func115, Try.ntmps115
  go_wp2_with (at_builtin; refine append_all (.tmp 8) (.tmp 9) rfl rfl w rfl rfl p o zs.length c _ rfl HL.out hz0 (by omega) ?_; intro g cap w1 hrow hg hcap hb1)
  have H0 := Lib.hid (show RowI w1 g (casts zs) ∧ Below w.heap.size w w1 from ⟨hrow, hb1⟩)
  clear hrow hb1
  go_loopw [6] (fun i wr => ∃ (xs : List Int) (k : Nat), i = .int .i64 k ∧ k ≤ ys.length ∧ Hid (MnA xs zs.length k ys a ∧ RowI wr g xs ∧ Below w.heap.size w wr)) (fun i _ => ys.length - (intOf i).toNat)
  case atStart => exact ⟨casts zs, 0, rfl, by omega, Lib.hid ⟨MnA.start HZ.out ys, H0.out⟩⟩
  case round =>
    clear H0
    obtain ⟨xs, k, rfl, hk, hr⟩ := hrel
    by_cases hlt : k < ys.length
    · obtain ⟨p', o', rfl, hp', hc'⟩ := (HM.out.below hr.out.2.2).digit hlt rfl
      have hkz : k < zs.length := by omega
      have hst := hr.out.1.step HY.out hlt hkz
      have hyd := HY.out.dgAt hlt
      have hlo := hr.out.1.lo k hkz
      have hcx := hr.out.2.1.get k (by rw [hr.out.1.len]; exact hkz)
      have hfx : wr.frozen? ⟨g, k, none⟩ = false := Row.free hr.out.2.1 k
      have hgl := Row.lt hr.out.2.1
      obtain ⟨y, hy⟩ : ∃ y, y = ys[k] := ⟨_, rfl⟩
      obtain ⟨x, hx⟩ : ∃ x, x = xs.getD k 0 := ⟨_, rfl⟩
      rw [← hy] at hc' hst hyd
      rw [← hx] at hst hlo hcx
      have HST := Lib.hid hst
      have HX := Lib.hid hx
      clear hst hy hx
      go_wp2
      refine region_grow_tail 10 (by kernel_rfl) (by kernel_rfl) ?_
      simp only [List.take_succ_cons, List.take_zero, List.drop_succ_cons, List.drop_zero]
      repeat (go_big_quiet_step (fail))
      refine wpQuiet_nil ?_
      rintro w2 ⟨xg, hxg⟩
      have hb2 := below_grow wr xg
      rw [← hxg] at hb2
      clear hxg xg
      have h2 := Lib.hid (show RowI w2 g xs ∧ Below w.heap.size w w2 from ⟨hr.out.2.1.keep hb2, hr.out.2.2.trans (hb2.mono hr.out.2.2.size)⟩)
      have hcx2 := h2.out.1.get k (by rw [hr.out.1.len]; exact hkz)
      rw [← HX.out] at hcx2
      have hfx2 : w2.frozen? ⟨g, k, none⟩ = false := Row.free h2.out.1 k
      clear hc' hcx hfx hb2 hr
      go_wp2
      go_roundw
      case rel => exact ⟨xs.set k (x - y), k + 1, by go_num, by omega, Lib.hid ⟨HST.out, h2.out.1.set k _, h2.out.2.setCell (by simpa using hg) _⟩⟩
      case measure => simp [intOf]; omega
    · obtain rfl : k = ys.length := by omega
      have HB := Lib.hid (show MnB xs zs.length 0 (a - b) ∧ RowI wr g xs ∧ Below w.heap.size w wr from ⟨hr.out.1.toB HY.out HBA.out, hr.out.2⟩)
      clear hr
      go_wp2
      go_loopw [7] (fun i wr => ∃ (xs : List Int) (k : Nat), i = .int .i64 k ∧ k ≤ zs.length ∧ Hid (MnB xs zs.length k (a - b) ∧ RowI wr g xs ∧ Below w.heap.size w wr)) (fun i _ => zs.length - (intOf i).toNat)
      case atStart => exact ⟨xs, 0, rfl, by omega, HB⟩
      case round =>
        clear HB
        obtain ⟨xs, k, rfl, hk, hr⟩ := hrel
        by_cases hlt2 : k < zs.length
        · have hat := hr.out.1.at_ hlt2
          have hcx := hr.out.2.1.get k (by rw [hr.out.1.len]; exact hlt2)
          have hfx : wr.frozen? ⟨g, k, none⟩ = false := Row.free hr.out.2.1 k
          have hgl := Row.lt hr.out.2.1
          have hkeep := hr.out.1.keep hlt2
          have hin := hr.out.1.inner hlt2
          have hbor := fun h => hr.out.1.borrow (k := k) h
          obtain ⟨x, hx⟩ : ∃ x, x = xs.getD k 0 := ⟨_, rfl⟩
          rw [← hx] at hat hcx hkeep hin hbor
          have HX := Lib.hid hx
          have HK := Lib.hid hkeep
          have HBO := Lib.hid hbor
          by_cases hneg : x < 0
          · have hk2 := hin hneg
            have hlo := hr.out.1.lo (k + 1) (by omega) hk2
            have hcy := hr.out.2.1.get (k + 1) (by rw [hr.out.1.len]; exact hk2)
            have hfy : wr.frozen? ⟨g, k + 1, none⟩ = false := Row.free hr.out.2.1 (k + 1)
            obtain ⟨y, hy⟩ : ∃ y, y = xs.getD (k + 1) 0 := ⟨_, rfl⟩
            rw [← hy] at hcy hlo
            have HST := Lib.hid (HBO.out hk2 hneg)
            rw [← hy] at HST
            clear hx hkeep hbor hin hy
            go_upto_region 11 with fail
            obtain ⟨wa, hwa⟩ : ∃ wa, wa = wr.setCell ⟨g, k, none⟩ (.int .i64 (x + 16777216)) := ⟨_, rfl⟩
            rw [← hwa]
            have ha2 := Lib.hid (show RowI wa g (xs.set k (x + 16777216)) ∧ Below w.heap.size w wa by rw [hwa]; exact ⟨hr.out.2.1.set k _, hr.out.2.2.setCell (by simpa using hg) _⟩)
            have hkl : k < xs.length := by rw [hr.out.1.len]; exact hlt2
            have hcy2 : wa.cell? ⟨g, k + 1, none⟩ = some (.int .i64 y) := by
              rw [ha2.out.1.get (k + 1) (by rw [List.length_set, hr.out.1.len]; exact hk2), getD_set _ hkl, if_neg (by omega)]
              exact (hr.out.2.1.get (k + 1) (by rw [hr.out.1.len]; exact hk2)).symm.trans hcy
            have hfy2 : wa.frozen? ⟨g, k + 1, none⟩ = false := Row.free ha2.out.1 (k + 1)
            clear hwa hcx hfx hcy hfy hr hkl
            go_wp2
            go_roundw
            case rel => exact ⟨(xs.set k (x + 16777216)).set (k + 1) (y - 1), k + 1, by go_num, by omega, Lib.hid ⟨HST.out, ha2.out.1.set (k + 1) _, ha2.out.2.setCell (by simpa using hg) _⟩⟩
            case measure => simp [intOf]; omega
          · have HK2 := Lib.hid (HK.out (by omega))
            clear hx hkeep hbor hin
            go_wp2
            go_roundw
            case rel => exact ⟨xs, k + 1, by go_num, by omega, Lib.hid ⟨HK2.out, hr.out.2⟩⟩
            case measure => simp [intOf]; omega
        · obtain rfl : k = zs.length := by omega
          obtain ⟨ds, hds, hdl, hdd, hdv⟩ := hr.out.1.done
          subst hds
          have HD := Lib.hid (show (∀ z ∈ ds, z < 16777216) ∧ vlW (ds.take zs.length) = a - b ∧ ds.length = zs.length from ⟨hdd, by rw [List.take_of_length_le (by omega)]; exact hdv, hdl⟩)
          have HQ := Lib.hid (show RowI wr g (casts ds) ∧ Below w.heap.size w wr from hr.out.2)
          clear hdl hdd hdv hr
          obtain ⟨m, hm⟩ : ∃ m, m = zs.length := ⟨_, rfl⟩
          go_wp2
          go_loopw [5] (fun v wx => ∃ j : Nat, v = .slice (some ⟨g, 0, none⟩) j cap ∧ j ≤ zs.length ∧ Hid (vlW (ds.take j) = a - b ∧ wx = wr)) (fun v _ => lenV v)
          case atStart => exact ⟨zs.length, rfl, Nat.le_refl _, Lib.hid ⟨HD.out.2.1, rfl⟩⟩
          case round =>
            obtain ⟨j, rfl, hj, hv⟩ := hrel
            have hwr := hv.out.2
            subst hwr
            have HV := Lib.hid hv.out.1
            clear hv hm
            by_cases hz : j = 0
            · subst hz
              have HA := Lib.hid (show 0 = a - b from HV.out)
              go_wp2
              go_ret
              refine ⟨some ⟨g, 0, none⟩, 0, cap, rfl, ?_, HQ.out.2, fun _ h => by cases h; exact hg⟩
              rw [← HA.out]
              exact ⟨[], WN.nil, rfl, rfl, fun h => absurd h (by omega)⟩
            · obtain ⟨j', hj'⟩ : ∃ j', j = j' + 1 := ⟨j - 1, by omega⟩
              have he : (j : Int) - 1 = (j' : Int) := by omega
              have hjp : 0 < j := by omega
              have hj2 : j' < zs.length := by omega
              have hj3 : j' < j := by omega
              have hj4 : j' ≤ cap := by omega
              have hc := HQ.out.1.get j' (by rw [casts_length, HD.out.2.2]; omega)
              have hlt := Row.lt HQ.out.1
              rw [casts_getD (by rw [HD.out.2.2]; omega)] at hc
              have hxl : j' < ds.length := by rw [HD.out.2.2]; omega
              have hstr := strike_last hxl
              have hstop := stop_last (a := a - b) HD.out.1 (by rw [← hj']; exact HV.out) hxl
              rw [← hj'] at hstr hstop
              have HSR := Lib.hid hstr
              have HSO := Lib.hid hstop
              obtain ⟨z, hzz⟩ : ∃ z, z = ds[j'] := ⟨_, rfl⟩
              rw [← hzz] at hc HSR HSO
              have HJ := Lib.hid hj'
              clear hz hj' hstr hstop hzz hxl
              by_cases h0 : z = 0
              · have HS2 := Lib.hid (HSR.out h0)
                have d0 : ((z : Int) == 0) = true := by rw [beq_iff_eq]; omega
                clear h0
                go_wp2
                go_roundw
                case rel => exact ⟨j', rfl, by omega, Lib.hid ⟨by rw [← HS2.out]; exact HV.out, trivial⟩⟩
                case measure => simp [lenV]; omega
              · have HS2 := Lib.hid (HSO.out h0)
                have d0 : ((z : Int) == 0) = false := by rw [beq_eq_false_iff_ne]; omega
                clear h0
                go_wp2
                go_ret
                exact ⟨some ⟨g, 0, none⟩, j, cap, rfl, ⟨ds.take j, HS2.out, by rw [List.length_take, HD.out.2.2]; omega, row_take HQ.out.1 (by rw [HD.out.2.2]; omega)⟩, HQ.out.2, fun _ h => by cases h; exact hg⟩
end Go.Proofs.Ytdgmpaijpjkeoaa
/-
  WHOLE NUMBERS: the greatest common divisor.
-/
namespace Go.Proofs.Ytdgmpaijpjkeoaa
open Go.RowKit
theorem IsW.len {w : World} {A : Option Addr} {n a : Nat} (h : IsW w A n a) (ha : a < topW) : n ≤ 100 := by
  obtain ⟨zs, h1, rfl, -⟩ := h
  exact h1.len100 ha
theorem IsW.zero_iff {w : World} {A : Option Addr} {n a : Nat} (h : IsW w A n a) : n = 0 ↔ a = 0 := by
  obtain ⟨zs, h1, rfl, -⟩ := h
  exact h1.zero_iff
/-- The number in a slice, read off its digits. -/
def digS (w : World) (b o : Nat) : Nat → Nat
  | 0 => 0
  | k + 1 => digS w b o k + 16777216 ^ k * (match w.cell? ⟨b, o + k, none⟩ with | some (.int _ z) => z.toNat | _ => 0)
def valS (w : World) (v : Value) : Nat := match v with | .slice (some ⟨b, o, none⟩) n _ => digS w b o n | _ => 0
theorem IsW.val {w : World} {A : Option Addr} {n a c : Nat} (h : IsW w A n a) : valS w (.slice A n c) = a := by
  obtain ⟨zs, h1, rfl, h3⟩ := h
  rcases Nat.eq_zero_or_pos zs.length with e | e
  · have ha := h1.zero_iff.1 e
    rw [e, ha]
    rcases A with _ | ⟨b, o, _ | _⟩ <;> rfl
  · obtain ⟨b, o, rfl, hb, hc⟩ := h3.2 e
    have key : ∀ k, k ≤ zs.length → digS w b o k = vlW (zs.take k) := by
      intro k
      induction k with
      | zero => intro _; rfl
      | succ k ih =>
        intro hk
        rw [digS, ih (by omega), hc k (by omega), vlW_take (show k < zs.length by omega), casts_getD (show k < zs.length by omega)]
        simp
    show digS w b o zs.length = a
    rw [key _ (Nat.le_refl _), List.take_length, h1.vl]
theorem pow_le100 {k x a : Nat} (h : 2 ^ k * x = a) (hx : 0 < x) (ha : a < topW) : k ≤ 2400 ∧ x ≤ a := by
  have h1 : 2 ^ k * 1 ≤ 2 ^ k * x := Nat.mul_le_mul_left _ hx
  have h2 : 1 * x ≤ 2 ^ k * x := Nat.mul_le_mul_right _ (Nat.pow_pos (by decide))
  obtain ⟨p, hp⟩ : ∃ p, p = 24 * 100 := ⟨_, rfl⟩
  have ht : topW = 2 ^ p := by
    unfold topW
    rw [show (16777216 : Nat) = 2 ^ 24 by decide, ← Nat.pow_mul, hp]
  refine ⟨?_, by omega⟩
  have : 2 ^ k < 2 ^ p := by omega
  have := (Nat.pow_lt_pow_iff_right (show 1 < 2 by decide)).1 this
  omega
set_option maxRecDepth 100000 in
set_option maxHeartbeats 1000000 in
theorem wcommon_any (A : Option Addr) (n c a : Nat) (B : Option Addr) (n' c' b : Nat) (ha : a < topW) (hb : b < topW) (ha0 : 0 < a) (hb0 : 0 < b) (w : World) (hW : IsW w A n a) (hX : IsW w B n' b) :
    Calls Try.prog 94 #[.slice A n c, .slice B n' c'] w (RetC w (Nat.gcd a b)) := by
  have HA := Lib.hid ha
  have HB := Lib.hid hb
  have HA0 := Lib.hid ha0
  have HB0 := Lib.hid hb0
  have h0 := Lib.hid (show IsW w A n a ∧ IsW w B n' b ∧ Below w.heap.size w w from ⟨hW, hX, Below.refl _ _⟩)
  clear ha hb ha0 hb0 hW hX
  go_enter Try.func94, Try.ntmps94
  go_wp2
  go_loopw [0, 1, 5] (fun v u t wr => ∃ (A : Option Addr) (n c : Nat) (B : Option Addr) (n' c' k x y : Nat), v = .slice A n c ∧ u = .slice B n' c' ∧ t = .int .i64 k ∧ k ≤ 2400 ∧ Hid (2 ^ k * x = a ∧ 2 ^ k * y = b ∧ IsW wr A n x ∧ IsW wr B n' y ∧ Below w.heap.size w wr)) (fun v _ _ wr => valS wr v)
  case atStart => exact ⟨A, n, c, B, n', c', 0, a, b, rfl, rfl, rfl, by omega, by rw [Nat.pow_zero, Nat.one_mul, Nat.one_mul]; exact ⟨rfl, rfl, h0.out⟩⟩
  case round =>
    clear h0
    obtain ⟨A, n, c, B, n', c', k, x, y, rfl, rfl, rfl, hk, hr⟩ := hrel
    have hx0 : 0 < x := by
      have h1 := hr.out.1
      have h2 := HA0.out
      rcases Nat.eq_zero_or_pos x with h | h
      · rw [h] at h1; simp at h1; omega
      · exact h
    have hy0 : 0 < y := by
      have h1 := hr.out.2.1
      have h2 := HB0.out
      rcases Nat.eq_zero_or_pos y with h | h
      · rw [h] at h1; simp at h1; omega
      · exact h
    have hxa := pow_le100 hr.out.1 hx0 HA.out
    have hyb := pow_le100 hr.out.2.1 hy0 HB.out
    have XT := Lib.hid (Nat.lt_of_le_of_lt hxa.2 HA.out)
    have YT := Lib.hid (Nat.lt_of_le_of_lt hyb.2 HB.out)
    have hn := hr.out.2.2.1.len XT.out
    have hn' := hr.out.2.2.2.1.len YT.out
    have X0 := Lib.hid hx0
    have Y0 := Lib.hid hy0
    clear hx0 hy0 hxa hyb
    go_upto_region 2 with fail
    go_cut [11] (fun s wx => ∃ e : Bool, s = .bool e ∧ Hid (e = true ↔ x % 2 = 0 ∧ y % 2 = 0) ∧ wr = wx)
    case first =>
      by_cases hx : x % 2 = 0
      · by_cases hy : y % 2 = 0
        · have HP := Lib.hid (show x % 2 = 0 ∧ y % 2 = 0 from ⟨hx, hy⟩)
          have e1 := Lib.hid (show (x % 2 == 0) = true by rw [beq_iff_eq]; exact hx)
          have e2 := Lib.hid (show (y % 2 == 0) = true by rw [beq_iff_eq]; exact hy)
          clear hx hy
          go_wp2_with fail
          refine (weven_any A n c x true e1.out _ hr.out.2.2.1 (by omega)).mono ?_
          rintro e w' ⟨rfl, rfl⟩
          go_wp2_with fail
          refine (weven_any B n' c' y true e2.out _ hr.out.2.2.2.1 (by omega)).mono ?_
          rintro e w' ⟨rfl, rfl⟩
          go_wp2_with fail
          go_meet
          exact ⟨true, rfl, Lib.hid ⟨fun _ => HP.out, fun _ => rfl⟩, rfl⟩
        · have HP := Lib.hid (show ¬ (x % 2 = 0 ∧ y % 2 = 0) from fun h => hy h.2)
          have e1 := Lib.hid (show (x % 2 == 0) = true by rw [beq_iff_eq]; exact hx)
          have e2 := Lib.hid (show (y % 2 == 0) = false by rw [beq_eq_false_iff_ne]; exact hy)
          clear hx hy
          go_wp2_with fail
          refine (weven_any A n c x true e1.out _ hr.out.2.2.1 (by omega)).mono ?_
          rintro e w' ⟨rfl, rfl⟩
          go_wp2_with fail
          refine (weven_any B n' c' y false e2.out _ hr.out.2.2.2.1 (by omega)).mono ?_
          rintro e w' ⟨rfl, rfl⟩
          go_wp2_with fail
          go_meet
          exact ⟨false, rfl, Lib.hid ⟨(fun h => by cases h), fun h => absurd h HP.out⟩, rfl⟩
      · have HP := Lib.hid (show ¬ (x % 2 = 0 ∧ y % 2 = 0) from fun h => hx h.1)
        have e1 := Lib.hid (show (x % 2 == 0) = false by rw [beq_eq_false_iff_ne]; exact hx)
        clear hx
        go_wp2_with fail
        refine (weven_any A n c x false e1.out _ hr.out.2.2.1 (by omega)).mono ?_
        rintro e w' ⟨rfl, rfl⟩
        go_wp2_with fail
        go_meet
        exact ⟨false, rfl, Lib.hid ⟨(fun h => by cases h), fun h => absurd h HP.out⟩, rfl⟩
    case rest =>
    obtain ⟨e, rfl, he, rfl⟩ := hcut
    cases e with
    | true =>
      have hev := he.out.1 rfl
      have e1 : 2 ^ (k + 1) * (x / 2) = a := by rw [Nat.pow_succ, Nat.mul_assoc, Nat.mul_comm 2, show x / 2 * 2 = x by omega]; exact hr.out.1
      have e2 : 2 ^ (k + 1) * (y / 2) = b := by rw [Nat.pow_succ, Nat.mul_assoc, Nat.mul_comm 2, show y / 2 * 2 = y by omega]; exact hr.out.2.1
      have hk2 := (pow_le100 e1 (by have := X0.out; omega) HA.out).1
      have E1 := Lib.hid e1
      have E2 := Lib.hid e2
      clear e1 e2 hev he
      go_wp2_with fail
      refine (wby_any A n c x 2 (by omega) (by omega) (by omega) _ hr.out.2.2.1).mono ?_
      rintro e w1 ⟨A1, n1, c1, rfl, hw1, hb1, -⟩
      have H1 := Lib.hid (show IsW w1 A1 n1 (x / 2) ∧ IsW w1 B n' y ∧ Below w.heap.size w w1 from ⟨hw1, hr.out.2.2.2.1.below hb1, hr.out.2.2.2.2.trans (hb1.mono hr.out.2.2.2.2.size)⟩)
      clear hw1 hb1
      go_wp2_with fail
      refine (wby_any B n' c' y 2 (by omega) (by omega) (by omega) _ H1.out.2.1).mono ?_
      rintro e w2 ⟨A2, n2, c2, rfl, hw2, hb2, -⟩
      have H2 := Lib.hid (show IsW w2 A1 n1 (x / 2) ∧ IsW w2 A2 n2 (y / 2) ∧ Below w.heap.size w w2 from ⟨H1.out.1.below hb2, hw2, H1.out.2.2.trans (hb2.mono H1.out.2.2.size)⟩)
      clear hw2 hb2 H1
      go_wp2
      go_roundw
      case rel => exact ⟨A1, n1, c1, A2, n2, c2, k + 1, x / 2, y / 2, rfl, rfl, by go_num, hk2, E1.out, E2.out, H2.out⟩
      case measure =>
        rw [H2.out.1.val, hr.out.2.2.1.val]
        have := X0.out
        omega
    | false =>
      have HO := Lib.hid (gcd_odd (a := x) (b := y) (fun h => by have := he.out.2 h; cases this))
      have HG := Lib.hid (show 2 ^ k * Nat.gcd x y = Nat.gcd a b by rw [← Nat.gcd_mul_left, hr.out.1, hr.out.2.1])
      obtain ⟨g, hg⟩ : ∃ g, g = Nat.gcd x y := ⟨_, rfl⟩
      rw [← hg] at HG HO
      have h1 := Lib.hid (show Nat.gcd x y = g ∧ x < topW ∧ y < topW ∧ IsW wr A n x ∧ IsW wr B n' y ∧ Below w.heap.size w wr from ⟨hg.symm, XT.out, YT.out, hr.out.2.2⟩)
      clear hg he hr XT YT X0 Y0 hn hn'
      go_upto_block 2 with fail
      go_cut [0, 1] (fun v u wx => ∃ (A : Option Addr) (n c : Nat) (B : Option Addr) (n' c' x y : Nat), v = .slice A n c ∧ u = .slice B n' c' ∧ Hid ((x = 0 ∧ y = g ∨ x = g ∧ y = 0) ∧ IsW wx A n x ∧ IsW wx B n' y ∧ Below w.heap.size w wx))
      case first =>
        as_aux_lemma =>
          go_wp2
          go_loopw [0, 1] (fun v u wr => ∃ (A : Option Addr) (n c : Nat) (B : Option Addr) (n' c' x y : Nat), v = .slice A n c ∧ u = .slice B n' c' ∧ Hid (Nat.gcd x y = g ∧ x < topW ∧ y < topW ∧ IsW wr A n x ∧ IsW wr B n' y ∧ Below w.heap.size w wr)) (fun v u wr => valS wr v + valS wr u)
          case atStart => exact ⟨A, n, c, B, n', c', x, y, rfl, rfl, h1⟩
          case round =>
            clear h1 HG
            obtain ⟨A, n, c, B, n', c', x, y, rfl, rfl, hr⟩ := hrel
            have hn := hr.out.2.2.2.1.len hr.out.2.1
            have hn' := hr.out.2.2.2.2.1.len hr.out.2.2.1
            by_cases hx : n = 0
            · have HX := Lib.hid (hr.out.2.2.2.1.zero_iff.1 hx)
              subst hx
              go_wp2
              go_meet
              exact ⟨A, 0, c, B, n', c', x, y, rfl, rfl, Lib.hid ⟨.inl ⟨HX.out, by rw [← hr.out.1, HX.out, Nat.gcd_zero_left]⟩, hr.out.2.2.2⟩⟩
            · have hnp : 0 < n := by omega
              by_cases hy : n' = 0
              · have HY := Lib.hid (hr.out.2.2.2.2.1.zero_iff.1 hy)
                subst hy
                clear hx
                go_wp2
                go_meet
                exact ⟨A, n, c, B, 0, c', x, y, rfl, rfl, Lib.hid ⟨.inr ⟨by rw [← hr.out.1, HY.out, Nat.gcd_zero_right], HY.out⟩, hr.out.2.2.2⟩⟩
              · have hnp' : 0 < n' := by omega
                have X0 := Lib.hid (Nat.pos_of_ne_zero (fun e => hx (hr.out.2.2.2.1.zero_iff.2 e)))
                have Y0 := Lib.hid (Nat.pos_of_ne_zero (fun e => hy (hr.out.2.2.2.2.1.zero_iff.2 e)))
                clear hx hy
                go_wp2
                go_loopw [0] (fun v wq => ∃ (A : Option Addr) (n c x' : Nat), v = .slice A n c ∧ Hid (Nat.gcd x' y = g ∧ 0 < x' ∧ x' ≤ x ∧ IsW wq A n x' ∧ IsW wq B n' y ∧ Below w.heap.size w wq)) (fun v wq => valS wq v)
                case atStart => exact ⟨A, n, c, x, rfl, Lib.hid ⟨hr.out.1, X0.out, Nat.le_refl _, hr.out.2.2.2⟩⟩
                case round =>
                  clear hn hnp
                  obtain ⟨A1, n1, c1, x1, rfl, h1⟩ := hrel
                  have XT := Lib.hid (Nat.lt_of_le_of_lt h1.out.2.2.1 hr.out.2.1)
                  have hn1 := h1.out.2.2.2.1.len XT.out
                  by_cases hx : x1 % 2 = 0
                  · have e1 := Lib.hid (show (x1 % 2 == 0) = true by rw [beq_iff_eq]; exact hx)
                    have HX := Lib.hid hx
                    clear hx
                    go_wp2_with fail
                    refine (weven_any A1 n1 c1 x1 true e1.out _ h1.out.2.2.2.1 (by omega)).mono ?_
                    rintro e w' ⟨rfl, rfl⟩
                    go_wp2_with fail
                    refine (wby_any A1 n1 c1 x1 2 (by omega) (by omega) (by omega) _ h1.out.2.2.2.1).mono ?_
                    rintro e w1 ⟨A2, n2, c2, rfl, hw2, hb2, -⟩
                    have H2 := Lib.hid (show IsW w1 A2 n2 (x1 / 2) ∧ IsW w1 B n' y ∧ Below w.heap.size w w1 from ⟨hw2, h1.out.2.2.2.2.1.below hb2, h1.out.2.2.2.2.2.trans (hb2.mono h1.out.2.2.2.2.2.size)⟩)
                    clear hw2 hb2
                    go_wp2
                    go_roundw
                    case rel => exact ⟨A2, n2, c2, x1 / 2, rfl, Lib.hid ⟨by rw [gcd_half_left HX.out (by rw [h1.out.1]; exact HO.out)]; exact h1.out.1, by have := h1.out.2.1; have := HX.out; omega, by have := h1.out.2.2.1; omega, H2.out⟩⟩
                    case measure =>
                      rw [H2.out.1.val, h1.out.2.2.2.1.val]
                      have := h1.out.2.1
                      omega
                  · have e1 := Lib.hid (show (x1 % 2 == 0) = false by rw [beq_eq_false_iff_ne]; exact hx)
                    clear hx
                    go_wp2_with fail
                    refine (weven_any A1 n1 c1 x1 false e1.out _ h1.out.2.2.2.1 (by omega)).mono ?_
                    rintro e w' ⟨rfl, rfl⟩
                    go_wp2
                    go_loopw [1] (fun v wq => ∃ (A : Option Addr) (n c y' : Nat), v = .slice A n c ∧ Hid (Nat.gcd x1 y' = g ∧ 0 < y' ∧ y' ≤ y ∧ IsW wq A n y' ∧ IsW wq A1 n1 x1 ∧ Below w.heap.size w wq)) (fun v wq => valS wq v)
                    case atStart => exact ⟨B, n', c', y, rfl, Lib.hid ⟨h1.out.1, Y0.out, Nat.le_refl _, h1.out.2.2.2.2.1, h1.out.2.2.2.1, h1.out.2.2.2.2.2⟩⟩
                    case round =>
                      clear hn' hnp'
                      obtain ⟨B1, n2, c2, y1, rfl, h2⟩ := hrel
                      have YT := Lib.hid (Nat.lt_of_le_of_lt h2.out.2.2.1 hr.out.2.2.1)
                      have hn2 := h2.out.2.2.2.1.len YT.out
                      by_cases hy : y1 % 2 = 0
                      · have e2 := Lib.hid (show (y1 % 2 == 0) = true by rw [beq_iff_eq]; exact hy)
                        have HY := Lib.hid hy
                        clear hy
                        go_wp2_with fail
                        refine (weven_any B1 n2 c2 y1 true e2.out _ h2.out.2.2.2.1 (by omega)).mono ?_
                        rintro e w' ⟨rfl, rfl⟩
                        go_wp2_with fail
                        refine (wby_any B1 n2 c2 y1 2 (by omega) (by omega) (by omega) _ h2.out.2.2.2.1).mono ?_
                        rintro e w1 ⟨A2, n3, c3, rfl, hw2, hb2, -⟩
                        have H2 := Lib.hid (show IsW w1 A2 n3 (y1 / 2) ∧ IsW w1 A1 n1 x1 ∧ Below w.heap.size w w1 from ⟨hw2, h2.out.2.2.2.2.1.below hb2, h2.out.2.2.2.2.2.trans (hb2.mono h2.out.2.2.2.2.2.size)⟩)
                        clear hw2 hb2
                        go_wp2
                        go_roundw
                        case rel => exact ⟨A2, n3, c3, y1 / 2, rfl, Lib.hid ⟨by rw [gcd_half_right HY.out (by rw [h2.out.1]; exact HO.out)]; exact h2.out.1, by have := h2.out.2.1; have := HY.out; omega, by have := h2.out.2.2.1; omega, H2.out⟩⟩
                        case measure =>
                          rw [H2.out.1.val, h2.out.2.2.2.1.val]
                          have := h2.out.2.1
                          omega
                      · have e2 := Lib.hid (show (y1 % 2 == 0) = false by rw [beq_eq_false_iff_ne]; exact hy)
                        clear hy
                        go_wp2_with fail
                        refine (weven_any B1 n2 c2 y1 false e2.out _ h2.out.2.2.2.1 (by omega)).mono ?_
                        rintro e w' ⟨rfl, rfl⟩
                        by_cases hle : y1 ≤ x1
                        · have hc1 : 0 ≤ cmpN x1 y1 := by rw [cmpN, if_neg (by omega)]; split <;> simp
                          obtain ⟨cc, hcc⟩ : ∃ cc, cc = cmpN x1 y1 := ⟨_, rfl⟩
                          rw [← hcc] at hc1
                          have HC1 := Lib.hid hcc
                          have HLE := Lib.hid hle
                          clear hcc hle
                          go_wp2_with fail
                          refine (wcompare_any A1 n1 c1 x1 B1 n2 c2 y1 (by omega) (by omega) _ h2.out.2.2.2.2.1 h2.out.2.2.2.1).mono ?_
                          rw [← HC1.out]
                          rintro e w1 ⟨rfl, hb1⟩
                          have H1 := Lib.hid (show IsW w1 A1 n1 x1 ∧ IsW w1 B1 n2 y1 ∧ Below w.heap.size w w1 from ⟨h2.out.2.2.2.2.1.below hb1, h2.out.2.2.2.1.below hb1, h2.out.2.2.2.2.2.trans (hb1.mono h2.out.2.2.2.2.2.size)⟩)
                          clear hb1
                          go_wp2_with fail
                          refine (wminus_any A1 n1 c1 x1 B1 n2 c2 y1 (by omega) h1.out.2.1 HLE.out _ H1.out.1 H1.out.2.1).mono ?_
                          rintro e w3 ⟨A3, n3, c3, rfl, hw3, hb3, -⟩
                          have H3 := Lib.hid (show IsW w3 A3 n3 (x1 - y1) ∧ IsW w3 B1 n2 y1 ∧ Below w.heap.size w w3 from ⟨hw3, H1.out.2.1.below hb3, H1.out.2.2.trans (hb3.mono H1.out.2.2.size)⟩)
                          clear hw3 hb3 H1
                          go_wp2
                          go_roundw
                          case rel => exact ⟨A3, n3, c3, B1, n2, c2, x1 - y1, y1, rfl, rfl, Lib.hid ⟨by rw [gcd_minus HLE.out]; exact h2.out.1, by have := XT.out; omega, YT.out, H3.out⟩⟩
                          case measure =>
                            rw [H3.out.1.val, H3.out.2.1.val, hr.out.2.2.2.1.val, hr.out.2.2.2.2.1.val]
                            have := h1.out.2.2.1
                            have := h2.out.2.1
                            have := h2.out.2.2.1
                            have := HLE.out
                            omega
                        · have hlt : x1 < y1 := by omega
                          have hc1 : cmpN x1 y1 = -1 := by rw [cmpN, if_pos hlt]
                          have HC1 := Lib.hid hc1
                          have HLE := Lib.hid (Nat.le_of_lt hlt)
                          have HLT := Lib.hid hlt
                          clear hc1 hlt hle
                          go_wp2_with fail
                          refine (wcompare_any A1 n1 c1 x1 B1 n2 c2 y1 (by omega) (by omega) _ h2.out.2.2.2.2.1 h2.out.2.2.2.1).mono ?_
                          rw [HC1.out]
                          rintro e w1 ⟨rfl, hb1⟩
                          have H1 := Lib.hid (show IsW w1 A1 n1 x1 ∧ IsW w1 B1 n2 y1 ∧ Below w.heap.size w w1 from ⟨h2.out.2.2.2.2.1.below hb1, h2.out.2.2.2.1.below hb1, h2.out.2.2.2.2.2.trans (hb1.mono h2.out.2.2.2.2.2.size)⟩)
                          clear hb1
                          go_wp2_with fail
                          refine (wminus_any B1 n2 c2 y1 A1 n1 c1 x1 (by omega) h2.out.2.1 HLE.out _ H1.out.2.1 H1.out.1).mono ?_
                          rintro e w3 ⟨A3, n3, c3, rfl, hw3, hb3, -⟩
                          have H3 := Lib.hid (show IsW w3 A1 n1 x1 ∧ IsW w3 A3 n3 (y1 - x1) ∧ Below w.heap.size w w3 from ⟨H1.out.1.below hb3, hw3, H1.out.2.2.trans (hb3.mono H1.out.2.2.size)⟩)
                          clear hw3 hb3 H1
                          go_wp2
                          go_roundw
                          case rel => exact ⟨A1, n1, c1, A3, n3, c3, x1, y1 - x1, rfl, rfl, Lib.hid ⟨by rw [Nat.gcd_comm, gcd_minus HLE.out, Nat.gcd_comm]; exact h2.out.1, XT.out, by have := YT.out; omega, H3.out⟩⟩
                          case measure =>
                            rw [H3.out.1.val, H3.out.2.1.val, hr.out.2.2.2.1.val, hr.out.2.2.2.2.1.val]
                            have := h1.out.2.1
                            have := h1.out.2.2.1
                            have := h2.out.2.2.1
                            have := HLT.out
                            omega
      case rest =>
        obtain ⟨A1, n1, c1, B1, n2, c2, x1, y1, rfl, rfl, hq⟩ := hcut
        have HG0 := Lib.hid (show 0 < g by
          have := Nat.gcd_pos_of_pos_left b HA0.out
          rcases Nat.eq_zero_or_pos g with e | e
          · rw [← HG.out, e] at this; simp at this
          · exact e)
        have HGT := Lib.hid (show Nat.gcd a b < topW from Nat.lt_of_le_of_lt (Nat.gcd_le_left _ HA0.out) HA.out)
        clear h1
        go_upto_if 46 with fail
        go_cut [0] (fun v wx => ∃ (A : Option Addr) (n c : Nat), v = .slice A n c ∧ Hid (IsW wx A n g ∧ Below w.heap.size w wx))
        case first =>
          rcases hq.out.1 with h | h
          · have hn1 : n1 = 0 := hq.out.2.1.zero_iff.2 h.1
            subst hn1
            have HY := Lib.hid h.2
            clear h
            go_wp2_with fail
            go_meet
            exact ⟨B1, n2, c2, rfl, Lib.hid ⟨HY.out ▸ hq.out.2.2.1, hq.out.2.2.2⟩⟩
          · have hn1 : 0 < n1 := Nat.pos_of_ne_zero (fun e => by have := hq.out.2.1.zero_iff.1 e; have := HG0.out; omega)
            have d0 : ((n1 : Int) == 0) = false := by rw [beq_eq_false_iff_ne]; omega
            have HX := Lib.hid h.1
            clear h
            go_wp2_with fail
            go_meet
            exact ⟨A1, n1, c1, rfl, Lib.hid ⟨HX.out ▸ hq.out.2.1, hq.out.2.2.2⟩⟩
        case rest =>
          clear hq
          obtain ⟨A2, n3, c3, rfl, hq⟩ := hcut
          go_wp2
          go_loopw [0, 5] (fun v t wr => ∃ (A : Option Addr) (n c j z : Nat), v = .slice A n c ∧ t = .int .i64 j ∧ j ≤ 2400 ∧ Hid (2 ^ j * z = Nat.gcd a b ∧ IsW wr A n z ∧ Below w.heap.size w wr)) (fun _ t _ => (intOf t).toNat)
          case atStart => exact ⟨A2, n3, c3, k, g, rfl, rfl, hk, Lib.hid ⟨HG.out, hq.out⟩⟩
          case round =>
            clear hq
            obtain ⟨A, n, c, j, z, rfl, rfl, hj, hr⟩ := hrel
            by_cases hz : j = 0
            · subst hz
              have hzz := hr.out.1
              rw [Nat.pow_zero, Nat.one_mul] at hzz
              have HZ := Lib.hid hzz
              clear hzz
              go_wp2
              go_ret
              exact ⟨A, n, c, rfl, HZ.out ▸ hr.out.2.1, hr.out.2.2⟩
            · obtain ⟨j', hj'⟩ : ∃ j', j = j' + 1 := ⟨j - 1, by omega⟩
              have he : (j : Int) - 1 = (j' : Int) := by omega
              have hjp : 0 < j := by omega
              have hjl : j' < j := by omega
              have hzt : z < topW := by
                have h1 := hr.out.1
                have h2 := HGT.out
                have : 1 * z ≤ 2 ^ j * z := Nat.mul_le_mul_right _ (Nat.pow_pos (by decide))
                omega
              have ZT := Lib.hid hzt
              have HE := Lib.hid (show 2 ^ j' * (z * 2) = Nat.gcd a b by rw [← hr.out.1, hj', Nat.pow_succ, Nat.mul_assoc, Nat.mul_comm z])
              clear hz hj' hzt
              go_wp2_with fail
              refine (wtimes_any A n c z 2 (by omega) ZT.out _ hr.out.2.1).mono ?_
              rintro e w1 ⟨A3, n4, c4, rfl, hw1, hb1, -⟩
              have H1 := Lib.hid (show IsW w1 A3 n4 (z * 2) ∧ Below w.heap.size w w1 from ⟨hw1, hr.out.2.2.trans (hb1.mono hr.out.2.2.size)⟩)
              clear hw1 hb1
              go_wp2
              go_roundw
              case rel => exact ⟨A3, n4, c4, j', z * 2, rfl, rfl, by omega, Lib.hid ⟨HE.out, H1.out⟩⟩
              case measure => simp [intOf]; omega
end Go.Proofs.Ytdgmpaijpjkeoaa
/-
  WHOLE NUMBERS: how often one is contained in another one; fractions.
-/
namespace Go.Proofs.Ytdgmpaijpjkeoaa
open Go.RowKit
/-- What times returns. -/
def tmQ (q : Nat) : Int := if 1048576 < q then 0 else (q : Int)
def tmB (q : Nat) : Bool := !decide (1048576 < q)
theorem cmp_mul {g m q : Nat} (hg : 0 < g) : (cmpN (g * m) (g * q) < 0) ↔ m < q := by
  have h := Nat.mul_lt_mul_left (b := m) (c := q) hg
  unfold cmpN
  split
  · rename_i g; simp [h.1 g]
  · rename_i g
    have : ¬ m < q := fun x => g (h.2 x)
    split <;> simp [this]
set_option maxRecDepth 100000 in
set_option maxHeartbeats 1000000 in
theorem wtm_any (A : Option Addr) (n c a : Nat) (B : Option Addr) (n' c' g q : Nat) (ha : a < topW) (hg : g < topW) (hg0 : 0 < g) (hq : a = g * q) (w : World) (hW : IsW w A n a) (hX : IsW w B n' g) :
    Calls Try.prog 95 #[.slice A n c, .slice B n' c', .int .i64 1048576] w fun e w' => e = .returned (.tuple #[.int .i64 (tmQ q), .bool (tmB q)]) ∧ Below w.heap.size w w' := by
  have hn := hW.len ha
  have HG := Lib.hid hg
  have HG0 := Lib.hid hg0
  have HQ := Lib.hid hq
  have h0 := Lib.hid (show IsW w A n a ∧ IsW w B n' g from ⟨hW, hX⟩)
  clear hW hX ha hg hg0 hq
  have hlen : ∀ m, m ≤ 1048576 → ∀ A2 n2 w2, IsW w2 A2 n2 (g * m) → n2 ≤ 1000 := fun m hm A2 n2 w2 h => by
    obtain ⟨zs, h1, rfl, -⟩ := h
    have := h1.len_le (topW_mul HG.out (show m ≤ 274877906944 by omega))
    omega
  have HLEN := Lib.hid hlen
  clear hlen
  go_enter Try.func95, Try.ntmps95
  go_wp2_with fail
  refine (wtimes_any B n' c' g 1048576 (by omega) HG.out _ h0.out.2).mono ?_
  rintro e w1 ⟨A1, n1, c1, rfl, hw1, hb1, -⟩
  have hn1 := HLEN.out _ (Nat.le_refl _) _ _ _ hw1
  have H1 := Lib.hid (show IsW w1 A1 n1 (g * 1048576) ∧ IsW w1 A n a ∧ IsW w1 B n' g ∧ Below w.heap.size w w1 from ⟨hw1, h0.out.1.below hb1, h0.out.2.below hb1, hb1⟩)
  clear hw1 hb1 h0
  have hcm := cmp_mul (m := 1048576) (q := q) HG0.out
  rw [← HQ.out] at hcm
  obtain ⟨cc, hcc⟩ : ∃ cc, cc = cmpN (g * 1048576) a := ⟨_, rfl⟩
  rw [← hcc] at hcm
  have HCC := Lib.hid hcc
  clear hcc
  go_wp2_with fail
  refine (wcompare_any A1 n1 c1 _ A n c a (by omega) (by omega) _ H1.out.1 H1.out.2.1).mono ?_
  rw [← HCC.out]
  rintro e w2 ⟨rfl, hb2⟩
  have H2 := Lib.hid (show IsW w2 A n a ∧ IsW w2 B n' g ∧ Below w.heap.size w w2 from ⟨H1.out.2.1.below hb2, H1.out.2.2.1.below hb2, H1.out.2.2.2.trans (hb2.mono H1.out.2.2.2.size)⟩)
  clear hb2 H1
  by_cases hbig : 1048576 < q
  · have hneg := hcm.2 hbig
    have E1 := Lib.hid (show tmQ q = 0 by rw [tmQ, if_pos hbig])
    have E2 := Lib.hid (show tmB q = false by rw [tmB, decide_eq_true hbig]; rfl)
    clear hcm hbig
    go_wp2
    go_ret2
    exact ⟨by rw [E1.out, E2.out]; rfl, H2.out.2.2⟩
  · have hneg : ¬ cc < 0 := fun h => hbig (hcm.1 h)
    have hpos : 0 ≤ cc := by omega
    have E1 := Lib.hid (show tmQ q = q by rw [tmQ, if_neg hbig])
    have E2 := Lib.hid (show tmB q = true by rw [tmB, decide_eq_false hbig]; rfl)
    have hqm : q ≤ 1048576 := by omega
    clear hcm hbig hneg
    go_wp2
    go_loopw [8, 9] (fun s t wr => ∃ lo hi : Nat, s = .int .i64 lo ∧ t = .int .i64 hi ∧ lo ≤ q ∧ q ≤ hi ∧ hi ≤ 1048576 ∧ Hid (IsW wr A n a ∧ IsW wr B n' g ∧ Below w.heap.size w wr)) (fun s t _ => (intOf t).toNat - (intOf s).toNat)
    case atStart => exact ⟨0, 1048576, rfl, rfl, by omega, hqm, by omega, H2⟩
    case round =>
      clear H2 hpos
      obtain ⟨lo, hi, rfl, rfl, hlo, hhi, hh, hr⟩ := hrel
      by_cases hlt : lo < hi
      · obtain ⟨md, hmd⟩ : ∃ md, md = (lo + hi) / 2 := ⟨_, rfl⟩
        have hmi : ((lo : Int) + (hi : Int)) / 2 = (md : Int) := by rw [hmd]; omega
        have hmd1 : lo ≤ md := by omega
        have hmd2 : md < hi := by omega
        have hcm := cmp_mul (m := md) (q := q) HG0.out
        rw [← HQ.out] at hcm
        obtain ⟨cc2, hcc2⟩ : ∃ cc2, cc2 = cmpN (g * md) a := ⟨_, rfl⟩
        rw [← hcc2] at hcm
        have HCC2 := Lib.hid hcc2
        clear hcc2 hmd
        go_wp2_with fail
        refine (wtimes_any B n' c' g md (by omega) HG.out _ hr.out.2.1).mono ?_
        rintro e w3 ⟨A3, n3, c3, rfl, hw3, hb3, -⟩
        have hn3 := HLEN.out md (by omega) _ _ _ hw3
        have H3 := Lib.hid (show IsW w3 A3 n3 (g * md) ∧ IsW w3 A n a ∧ IsW w3 B n' g ∧ Below w.heap.size w w3 from ⟨hw3, hr.out.1.below hb3, hr.out.2.1.below hb3, hr.out.2.2.trans (hb3.mono hr.out.2.2.size)⟩)
        clear hw3 hb3 hr
        go_wp2_with fail
        refine (wcompare_any A3 n3 c3 _ A n c a (by omega) (by omega) _ H3.out.1 H3.out.2.1).mono ?_
        rw [← HCC2.out]
        rintro e w4 ⟨rfl, hb4⟩
        have H4 := Lib.hid (show IsW w4 A n a ∧ IsW w4 B n' g ∧ Below w.heap.size w w4 from ⟨H3.out.2.1.below hb4, H3.out.2.2.1.below hb4, H3.out.2.2.2.trans (hb4.mono H3.out.2.2.2.size)⟩)
        clear hb4 H3
        by_cases hml : md < q
        · have hneg := hcm.2 hml
          clear hcm
          go_wp2
          go_roundw
          case rel => exact ⟨md + 1, hi, by go_num, rfl, by omega, hhi, hh, H4⟩
          case measure => simp [intOf]; omega
        · have hneg : 0 ≤ cc2 := by
            have : ¬ cc2 < 0 := fun h => hml (hcm.1 h)
            omega
          clear hcm
          go_wp2
          go_roundw
          case rel => exact ⟨lo, md, rfl, rfl, hlo, by omega, by omega, H4⟩
          case measure => simp [intOf]; omega
      · obtain rfl : lo = q := by omega
        go_wp2
        go_ret2
        exact ⟨by rw [E1.out, E2.out]; rfl, hr.out.2.2⟩
theorem tmQ_le {q : Nat} (h : q ≤ 1048576) : tmQ q = q ∧ tmB q = true := by
  refine ⟨by rw [tmQ, if_neg (by omega)], by rw [tmB, decide_eq_false (by omega)]; rfl⟩
theorem tmQ_gt {q : Nat} (h : 1048576 < q) : tmQ q = 0 ∧ tmB q = false := by
  refine ⟨by rw [tmQ, if_pos h], by rw [tmB, decide_eq_true h]; rfl⟩
theorem ret_ratw {a b d e : Int} {c f : Bool} (h : (a, b, c) = (d, e, f)) : Ending.returned (.tuple #[.agg #[.int .i64 a, .int .i64 b], .bool c]) = .returned (.tuple #[.agg #[.int .i64 d, .int .i64 e], .bool f]) := by
  simp only [Prod.mk.injEq] at h
  obtain ⟨rfl, rfl, rfl⟩ := h
  rfl
set_option maxRecDepth 100000 in
set_option maxHeartbeats 1000000 in
theorem rfraction_any (A : Option Addr) (n c a : Nat) (B : Option Addr) (n' c' b : Nat) (p q z : Int) (hm : frE a b = (p, q, z)) (hab : a ≤ b) (hb : b < topW) (w : World) (hW : IsW w A n a) (hX : IsW w B n' b) :
    Calls Try.prog 64 #[.slice A n c, .slice B n' c'] w fun e w' => e = .returned (.tuple #[.agg #[.int .i64 p, .int .i64 q], .bool (z == 0)]) ∧ Below w.heap.size w w' := by
  have hn := hW.len (show a < topW by omega)
  have HM := Lib.hid hm
  have HB := Lib.hid hb
  have HAB := Lib.hid hab
  have h0 := Lib.hid (show IsW w A n a ∧ IsW w B n' b from ⟨hW, hX⟩)
  clear hm hb hW hX hab
  by_cases hz : n = 0
  · have ha0 := h0.out.1.zero_iff.1 hz
    have HE := Lib.hid (HM.out.symm.trans (show frE a b = (0, 1, 0) by rw [frE, if_pos ha0]))
    subst hz
    clear ha0
    go_enter Try.func64, Try.ntmps64
    go_wp2
    refine bodyPost_ret (v := .tuple #[.agg #[.int .i64 0, .int .i64 1], .bool true]) (by simp only [results, Try.results64]; go_simp) rfl ⟨?_, ?_⟩
    · have := HE.out
      simp only [Prod.mk.injEq] at this
      obtain ⟨rfl, rfl, rfl⟩ := this
      rfl
    · exact (by repeat' (first | (with_reducible exact Below.refl _ _) | (with_reducible assumption) | (with_reducible refine below_drewN ?_ _) | (with_reducible refine below_step (by assumption) ?_ ?_) | (with_reducible refine Below.alloc ?_ ?_ _) | (with_reducible refine Below.setCell ?_ ?_ _) | (with_reducible refine Below.drew ?_) | go_size | (exact Below.size (by assumption)) | (refine Nat.le_trans (Below.size (by assumption)) ?_)))
  · have ha0 : 0 < a := Nat.pos_of_ne_zero (fun e => hz (h0.out.1.zero_iff.2 e))
    have hab := HAB.out
    have hb0 : 0 < b := by omega
    obtain ⟨g, hg⟩ : ∃ g, g = Nat.gcd a b := ⟨_, rfl⟩
    have hg0 : 0 < g := by rw [hg]; exact Nat.gcd_pos_of_pos_left _ ha0
    have hga : g ≤ a := by rw [hg]; exact Nat.gcd_le_left _ ha0
    have hd1 : a = g * (a / g) := by rw [hg]; exact (Nat.mul_div_cancel' (Nat.gcd_dvd_left a b)).symm
    have hd2 : b = g * (b / g) := by rw [hg]; exact (Nat.mul_div_cancel' (Nat.gcd_dvd_right a b)).symm
    have hle : a / g ≤ b / g := Nat.div_le_div_right hab
    have hfr : frE a b = if 1048576 < b / g then (0, 0, 4) else (((a / g : Nat) : Int), ((b / g : Nat) : Int), 0) := by rw [frE, if_neg (by omega), ← hg]
    obtain ⟨x, hx⟩ : ∃ x, x = a / g := ⟨_, rfl⟩
    obtain ⟨y, hy⟩ : ∃ y, y = b / g := ⟨_, rfl⟩
    rw [← hx] at hd1 hle hfr
    rw [← hy] at hd2 hle hfr
    rw [HM.out] at hfr
    have d0 : ((n : Int) == 0) = false := by rw [beq_eq_false_iff_ne]; omega
    have HD1 := Lib.hid hd1
    have HD2 := Lib.hid hd2
    have HFR := Lib.hid hfr
    have HG := Lib.hid hg
    have HG0 := Lib.hid hg0
    have HGT := Lib.hid (show g < topW by have := HB.out; omega)
    have HA0 := Lib.hid ha0
    have HB0 := Lib.hid hb0
    have HAT := Lib.hid (show a < topW by have := HB.out; omega)
    clear hz ha0 hab hb0 hg hg0 hga hd1 hd2 hfr hx hy
    go_enter Try.func64, Try.ntmps64
    go_wp2_with fail
    obtain ⟨W, hW⟩ : ∃ W, W = w.alloc (.cells #[.int .i64 0, .int .i64 0] 28) := ⟨_, rfl⟩
    rw [← hW]
    have hb := Lib.hid (show Below w.heap.size w W by rw [hW]; exact (by repeat' (first | (with_reducible exact Below.refl _ _) | (with_reducible assumption) | (with_reducible refine below_drewN ?_ _) | (with_reducible refine below_step (by assumption) ?_ ?_) | (with_reducible refine Below.alloc ?_ ?_ _) | (with_reducible refine Below.setCell ?_ ?_ _) | (with_reducible refine Below.drew ?_) | go_size | (exact Below.size (by assumption)) | (refine Nat.le_trans (Below.size (by assumption)) ?_))))
    have hx : Box2 W w.heap.size (.int .i64 0) (.int .i64 0) := by rw [hW]; exact Box2.new _ _ _ _
    have h1 := Lib.hid (show IsW W A n a ∧ IsW W B n' b from ⟨h0.out.1.below hb.out, h0.out.2.below hb.out⟩)
    clear hW h0
    refine (wcommon_any A n c a B n' c' b HAT.out HB.out HA0.out HB0.out _ h1.out.1 h1.out.2).mono ?_
    rw [← HG.out]
    rintro e w1 ⟨A1, n1, c1, rfl, hw1, hb1⟩
    have H1 := Lib.hid (show IsW w1 A1 n1 g ∧ IsW w1 A n a ∧ IsW w1 B n' b ∧ Below w.heap.size w w1 from ⟨hw1, h1.out.1.below hb1, h1.out.2.below hb1, hb.out.trans (hb1.mono hb.out.size)⟩)
    have hx1 := hx.keep hb1
    clear hw1 hb1 h1 hx hb
    go_wp2_with fail
    refine (wtm_any B n' c' b A1 n1 c1 g y HB.out HGT.out HG0.out HD2.out _ H1.out.2.2.1 H1.out.1).mono ?_
    by_cases hbig : 1048576 < y
    · obtain ⟨e1, e2⟩ := tmQ_gt hbig
      have HF2 := Lib.hid (HFR.out.trans (if_pos hbig))
      rw [e1, e2]
      clear e1 e2 hbig
      rintro e w2 ⟨rfl, hb2⟩
      have H2 := Lib.hid (H1.out.2.2.2.trans (hb2.mono H1.out.2.2.2.size))
      obtain ⟨x0, x1, x2, x3, x4⟩ := hx1.keep hb2
      clear hx1 hb2 H1
      go_wp2
      refine bodyPost_ret (v := .tuple #[.agg #[.int .i64 0, .int .i64 0], .bool false]) (by simp only [results, Try.results64]; go_simp) rfl ⟨?_, ?_⟩
      · have := HF2.out
        simp only [Prod.mk.injEq] at this
        obtain ⟨rfl, rfl, rfl⟩ := this
        rfl
      · exact (H2.out.setCell (by simp) _).setCell (by simp) _
    · obtain ⟨e1, e2⟩ := tmQ_le (show y ≤ 1048576 by omega)
      obtain ⟨e3, e4⟩ := tmQ_le (show x ≤ 1048576 by omega)
      have HF2 := Lib.hid (HFR.out.trans (if_neg hbig))
      have E3 := Lib.hid e3
      rw [e1, e2]
      clear e1 e2 hbig e3 e4
      rintro e w2 ⟨rfl, hb2⟩
      have H2 := Lib.hid (show IsW w2 A1 n1 g ∧ IsW w2 A n a ∧ Below w.heap.size w w2 from ⟨H1.out.1.below hb2, H1.out.2.1.below hb2, H1.out.2.2.2.trans (hb2.mono H1.out.2.2.2.size)⟩)
      have hx2 := hx1.keep hb2
      clear hx1 hb2 H1
      go_wp2_with fail
      refine (wtm_any A n c a A1 n1 c1 g x HAT.out HGT.out HG0.out HD1.out _ H2.out.2.1 H2.out.1).mono ?_
      rw [E3.out]
      rintro e w3 ⟨rfl, hb3⟩
      have H3 := Lib.hid (H2.out.2.2.trans (hb3.mono H2.out.2.2.size))
      obtain ⟨x0, x1, x2, x3, x4⟩ := hx2.keep hb3
      clear hx2 hb3 H2
      go_wp2
      refine bodyPost_ret (v := .tuple #[.agg #[.int .i64 x, .int .i64 y], .bool true]) (by simp only [results, Try.results64]; go_simp) rfl ⟨?_, ?_⟩
      · have := HF2.out
        simp only [Prod.mk.injEq] at this
        obtain ⟨rfl, rfl, rfl⟩ := this
        rfl
      · exact (H3.out.setCell (by simp) _).setCell (by simp) _
end Go.Proofs.Ytdgmpaijpjkeoaa
