/-
  NATURAL NUMBERS IN DIGITS TO THE BASE 2^24: PLAIN.
-/
import Derived.Test.YtdgmpaijpjkeoaaNatM
namespace Go.Proofs.Ytdgmpaijpjkeoaa
def vlW : List Nat → Nat
  | [] => 0
  | z :: r => z + 16777216 * vlW r
theorem pwW_pos (i : Nat) : 0 < 16777216 ^ i := Nat.pow_pos (by decide)
theorem vlW_append (xs ys : List Nat) : vlW (xs ++ ys) = vlW xs + 16777216 ^ xs.length * vlW ys := by
  induction xs with
  | nil => simp [vlW]
  | cons x xs ih =>
    simp only [List.cons_append, vlW, ih, List.length_cons, Nat.pow_succ]
    rw [Nat.mul_add, ← Nat.mul_assoc, Nat.mul_comm 16777216 (16777216 ^ xs.length), Nat.add_assoc]
theorem vlW_snoc (xs : List Nat) (z : Nat) : vlW (xs ++ [z]) = vlW xs + 16777216 ^ xs.length * z := by
  rw [vlW_append]; simp [vlW]
theorem vlW_take {xs : List Nat} {k : Nat} (h : k < xs.length) : vlW (xs.take (k + 1)) = vlW (xs.take k) + 16777216 ^ k * xs[k] := by
  rw [List.take_succ_eq_append_getElem h, vlW_snoc, List.length_take, Nat.min_eq_left (by omega)]
theorem vlW_lt {xs : List Nat} (h : ∀ z ∈ xs, z < 16777216) : vlW xs < 16777216 ^ xs.length := by
  induction xs with
  | nil => simp [vlW]
  | cons x xs ih =>
    have h1 := h x (by simp)
    have h2 := ih (fun z hz => h z (by simp [hz]))
    simp only [vlW, List.length_cons, Nat.pow_succ]
    omega
/-- The digits of a, without zeros at the end. -/
structure WN (zs : List Nat) (a : Nat) : Prop where
  dg : ∀ z ∈ zs, z < 16777216
  vl : vlW zs = a
  top : 0 < zs.length → 16777216 ^ (zs.length - 1) ≤ a
theorem WN.nil : WN [] 0 := ⟨by simp, rfl, by simp⟩
theorem WN.lt {zs : List Nat} {a : Nat} (h : WN zs a) : a < 16777216 ^ zs.length := by rw [← h.vl]; exact vlW_lt h.dg
theorem WN.zero_iff {zs : List Nat} {a : Nat} (h : WN zs a) : zs.length = 0 ↔ a = 0 := by
  constructor
  · intro h0
    have := h.lt
    rw [h0] at this
    simpa using this
  · intro h0
    rcases Nat.eq_zero_or_pos zs.length with e | e
    · exact e
    · have := h.top e
      have := pwW_pos (zs.length - 1)
      omega
theorem WN.dgAt {zs : List Nat} {a : Nat} (h : WN zs a) {k : Nat} (hk : k < zs.length) : zs[k] < 16777216 := h.dg _ (List.getElem_mem hk)
theorem pwW_le {i j : Nat} (h : i ≤ j) : 16777216 ^ i ≤ 16777216 ^ j := Nat.pow_le_pow_right (by decide) h
/-- No more digits than the bound has. -/
theorem WN.len_le {zs : List Nat} {a n : Nat} (h : WN zs a) (ha : a < 16777216 ^ n) : zs.length ≤ n := by
  rcases Nat.lt_or_ge n zs.length with g | g
  · have h1 := h.top (by omega)
    have h2 := pwW_le (show n ≤ zs.length - 1 by omega)
    omega
  · exact g
theorem WN.unique {zs ys : List Nat} {a : Nat} (h : WN zs a) (g : WN ys a) : zs = ys := by
  have hl : zs.length = ys.length := Nat.le_antisymm (h.len_le g.lt) (g.len_le h.lt)
  have hv : vlW zs = vlW ys := h.vl.trans g.vl.symm
  have hz := h.dg
  have gz := g.dg
  clear h g
  induction zs generalizing ys a with
  | nil => cases ys with
    | nil => rfl
    | cons y ys => simp at hl
  | cons z zs ih => cases ys with
    | nil => simp at hl
    | cons y ys =>
      simp only [vlW] at hv
      have h1 := hz z (by simp)
      have h2 := gz y (by simp)
      have e1 : z = y := by omega
      have e2 : vlW zs = vlW ys := by omega
      rw [e1, ih (a := a) (by simpa using hl) e2 (fun x hx => hz x (by simp [hx])) (fun x hx => gz x (by simp [hx]))]
/-- A number that is being made: the digits xs, then c still to be written; T in all. -/
structure MkW (xs : List Nat) (c T : Nat) : Prop where
  dg : ∀ z ∈ xs, z < 16777216
  vl : vlW xs + 16777216 ^ xs.length * c = T
  top : 0 < xs.length → 16777216 ^ (xs.length - 1) ≤ T
theorem MkW.start (T : Nat) : MkW [] T T := ⟨by simp, by simp [vlW], by simp⟩
theorem MkW.done {xs : List Nat} {T : Nat} (h : MkW xs 0 T) : WN xs T := ⟨h.dg, by have := h.vl; simpa using this, h.top⟩
theorem MkW.step {xs : List Nat} {c T : Nat} (h : MkW xs c T) (hc : 0 < c) : MkW (xs ++ [c % 16777216]) (c / 16777216) T := by
  refine ⟨?_, ?_, fun _ => ?_⟩
  · intro z hz
    rcases List.mem_append.1 hz with hz | hz
    · exact h.dg z hz
    · simp at hz; subst hz; exact Nat.mod_lt _ (by decide)
  · rw [vlW_snoc, List.length_append, List.length_singleton, Nat.pow_succ, Nat.mul_assoc, Nat.add_assoc, ← Nat.mul_add, Nat.mod_add_div]
    exact h.vl
  · rw [List.length_append, List.length_singleton, Nat.add_sub_cancel]
    have h1 := h.vl
    have : 16777216 ^ xs.length * 1 ≤ 16777216 ^ xs.length * c := Nat.mul_le_mul_left _ hc
    omega
/-- .. where so many digits are written whatever is left. -/
structure MkK (xs : List Nat) (c T : Nat) : Prop where
  dg : ∀ z ∈ xs, z < 16777216
  vl : vlW xs + 16777216 ^ xs.length * c = T
theorem MkK.start (c : Nat) : MkK [] c c := ⟨by simp, by simp [vlW]⟩
theorem MkK.step {xs : List Nat} {c T : Nat} (h : MkK xs c T) : MkK (xs ++ [c % 16777216]) (c / 16777216) T := by
  refine ⟨?_, ?_⟩
  · intro z hz
    rcases List.mem_append.1 hz with hz | hz
    · exact h.dg z hz
    · simp at hz; subst hz; exact Nat.mod_lt _ (by decide)
  · rw [vlW_snoc, List.length_append, List.length_singleton, Nat.pow_succ, Nat.mul_assoc, Nat.add_assoc, ← Nat.mul_add, Nat.mod_add_div]
    exact h.vl
theorem MkK.add {xs : List Nat} {c T : Nat} (h : MkK xs c T) (d : Nat) : MkK xs (c + d) (T + 16777216 ^ xs.length * d) := ⟨h.dg, by rw [Nat.mul_add, ← Nat.add_assoc, h.vl]⟩
theorem MkK.top {xs : List Nat} {c T : Nat} (h : MkK xs c T) (ht : 0 < xs.length → 16777216 ^ (xs.length - 1) ≤ T) : MkW xs c T := ⟨h.dg, h.vl, ht⟩
/-- Times: the digits below k are through. -/
theorem times_step {zs xs : List Nat} {c m k : Nat} (hl : xs.length = k) (h : MkK xs c (vlW (zs.take k) * m)) (hk : k < zs.length) :
    MkK (xs ++ [(c + zs[k] * m) % 16777216]) ((c + zs[k] * m) / 16777216) (vlW (zs.take (k + 1)) * m) := by
  rw [vlW_take hk, Nat.add_mul, Nat.mul_assoc]
  have := (h.add (zs[k] * m)).step
  rw [hl] at this
  exact this
theorem times_carry {c d m : Nat} (hc : c ≤ m) (hd : d < 16777216) : (c + d * m) / 16777216 ≤ m := by
  have : d * m ≤ 16777215 * m := Nat.mul_le_mul_right _ (by omega)
  omega
theorem times_top {zs : List Nat} {a m : Nat} (h : WN zs a) (hm : 0 < m) : 0 < zs.length → 16777216 ^ (zs.length - 1) ≤ a * m := fun hp => by
  have := h.top hp
  have : a * 1 ≤ a * m := Nat.mul_le_mul_left _ hm
  omega
/-- Plus. -/
def atW (zs : List Nat) (k : Nat) : Nat := zs.getD k 0
theorem vlW_take' (xs : List Nat) (k : Nat) : vlW (xs.take (k + 1)) = vlW (xs.take k) + 16777216 ^ k * atW xs k := by
  by_cases h : k < xs.length
  · rw [vlW_take h, atW, List.getD_eq_getElem?_getD, List.getElem?_eq_getElem h]; rfl
  · rw [List.take_of_length_le (by omega), List.take_of_length_le (by omega), atW, List.getD_eq_getElem?_getD, List.getElem?_eq_none (by omega)]; simp
theorem plus_step {zs ys xs : List Nat} {c k : Nat} (hl : xs.length = k) (h : MkK xs c (vlW (zs.take k) + vlW (ys.take k))) :
    MkK (xs ++ [(c + (atW zs k + atW ys k)) % 16777216]) ((c + (atW zs k + atW ys k)) / 16777216) (vlW (zs.take (k + 1)) + vlW (ys.take (k + 1))) := by
  rw [vlW_take', vlW_take', ← hl]
  have := (h.add (atW zs xs.length + atW ys xs.length)).step
  rw [← hl] at this
  have e : vlW (zs.take xs.length) + vlW (ys.take xs.length) + 16777216 ^ xs.length * (atW zs xs.length + atW ys xs.length) = vlW (zs.take xs.length) + 16777216 ^ xs.length * atW zs xs.length + (vlW (ys.take xs.length) + 16777216 ^ xs.length * atW ys xs.length) := by rw [Nat.mul_add]; omega
  rw [e] at this
  exact this
/-- By: from the top down. D: the digits of the quotient found so far (those from k on), r: what is left. -/
theorem by_step {a b q r k d m : Nat} (h : a / 16777216 ^ (k + 1) = q * m + r) (hd : a / 16777216 ^ k = (a / 16777216 ^ (k + 1)) * 16777216 + d) (_hm : 0 < m) (hb : b = r * 16777216 + d) :
    a / 16777216 ^ k = (q * 16777216 + b / m) * m + b % m := by
  rw [hd, h, Nat.add_mul, Nat.add_mul (q * 16777216), Nat.mul_comm (b / m), Nat.add_assoc (q * 16777216 * m), Nat.div_add_mod, hb, Nat.mul_right_comm]
  omega
theorem drop_div {zs : List Nat} (h : ∀ z ∈ zs, z < 16777216) (k : Nat) : vlW zs / 16777216 ^ k = vlW (zs.drop k) := by
  by_cases hk : k ≤ zs.length
  · have e : vlW zs = vlW (zs.take k) + 16777216 ^ k * vlW (zs.drop k) := by
      conv => lhs; rw [← List.take_append_drop k zs, vlW_append, List.length_take, Nat.min_eq_left hk]
    have hl : vlW (zs.take k) < 16777216 ^ k := by
      have := vlW_lt (xs := zs.take k) (fun z hz => h z (List.mem_of_mem_take hz))
      rwa [List.length_take, Nat.min_eq_left hk] at this
    rw [e, Nat.add_mul_div_left _ _ (pwW_pos k), Nat.div_eq_of_lt hl, Nat.zero_add]
  · rw [List.drop_eq_nil_of_le (by omega), Nat.div_eq_of_lt]
    · rfl
    · exact Nat.lt_of_lt_of_le (vlW_lt h) (pwW_le (by omega))
theorem drop_cons {zs : List Nat} {k : Nat} (hk : k < zs.length) : vlW (zs.drop k) = zs[k] + 16777216 * vlW (zs.drop (k + 1)) := by
  rw [List.drop_eq_getElem_cons hk, vlW]
/-- Striking zeros at the end. -/
theorem strike_last {xs : List Nat} {k : Nat} (hk : k < xs.length) (h0 : xs[k] = 0) : vlW (xs.take (k + 1)) = vlW (xs.take k) := by rw [vlW_take hk, h0]; simp
theorem stop_last {xs : List Nat} {k a : Nat} (hd : ∀ z ∈ xs, z < 16777216) (hv : vlW (xs.take (k + 1)) = a) (hk : k < xs.length) (h0 : xs[k] ≠ 0) : WN (xs.take (k + 1)) a := by
  refine ⟨fun z hz => hd z (List.mem_of_mem_take hz), hv, fun _ => ?_⟩
  rw [List.length_take, Nat.min_eq_left (by omega), Nat.add_sub_cancel, ← hv, vlW_take hk]
  have : 16777216 ^ k * 1 ≤ 16777216 ^ k * xs[k] := Nat.mul_le_mul_left _ (by omega)
  omega
/-- Comparing. -/
theorem cmp_len {zs ys : List Nat} {a b : Nat} (h : WN zs a) (g : WN ys b) (hl : zs.length < ys.length) : a < b := by
  have h1 := h.lt
  have h2 := g.top (by omega)
  have h3 := pwW_le (show zs.length ≤ ys.length - 1 by omega)
  omega
theorem cmp_digit {zs ys : List Nat} {k : Nat} (hz : ∀ z ∈ zs, z < 16777216) (_hy : ∀ z ∈ ys, z < 16777216) (h1 : k < zs.length) (h2 : k < ys.length) (he : vlW (zs.drop (k + 1)) = vlW (ys.drop (k + 1))) (hd : zs[k] < ys[k]) : vlW zs < vlW ys := by
  have e1 : vlW zs = vlW (zs.take k) + 16777216 ^ k * vlW (zs.drop k) := by
    conv => lhs; rw [← List.take_append_drop k zs, vlW_append, List.length_take, Nat.min_eq_left (by omega)]
  have e2 : vlW ys = vlW (ys.take k) + 16777216 ^ k * vlW (ys.drop k) := by
    conv => lhs; rw [← List.take_append_drop k ys, vlW_append, List.length_take, Nat.min_eq_left (by omega)]
  have hl : vlW (zs.take k) < 16777216 ^ k := by
    have := vlW_lt (xs := zs.take k) (fun z hz' => hz z (List.mem_of_mem_take hz'))
    rwa [List.length_take, Nat.min_eq_left (by omega)] at this
  rw [e1, e2, drop_cons h1, drop_cons h2, he]
  have : 16777216 ^ k * (zs[k] + 16777216 * vlW (ys.drop (k + 1)) + 1) ≤ 16777216 ^ k * (ys[k] + 16777216 * vlW (ys.drop (k + 1))) := Nat.mul_le_mul_left _ (by omega)
  rw [Nat.mul_add _ _ 1, Nat.mul_one] at this
  omega
theorem cmp_same {zs ys : List Nat} {k : Nat} (h1 : k < zs.length) (h2 : k < ys.length) (he : vlW (zs.drop (k + 1)) = vlW (ys.drop (k + 1))) (hd : zs[k] = ys[k]) : vlW (zs.drop k) = vlW (ys.drop k) := by
  rw [drop_cons h1, drop_cons h2, he, hd]
end Go.Proofs.Ytdgmpaijpjkeoaa
