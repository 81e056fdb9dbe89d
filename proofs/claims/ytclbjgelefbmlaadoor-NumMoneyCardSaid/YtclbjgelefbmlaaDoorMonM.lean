/-
  MONEY: the texts, PLAIN.
-/
import Derived.Test.YtclbjgelefbmlaaDoorTxtH
import Derived.Lib.SplitLaws
import Derived.Lib.Join
namespace Go.Proofs.YtclbjgelefbmlaaDoor
open Go.RowKit Go.Lib
/-- Split at one byte is the reference's Split. -/
theorem split_one (c : UInt8) : ∀ l : List UInt8, splitK [c] 0 (count l [c]) l = splitL c l
  | [] => by rw [count_miss (by simp [index])]; rfl
  | b :: l => by
    have ih := split_one c l
    by_cases h : b = c
    · subst h
      have hix : index (b :: l) [b] = 0 := by rw [index]; simp [List.isPrefixOf]
      rw [count_cons_eq, Nat.add_comm, splitK, hix, if_neg (by decide)]
      simp only [splitL, if_true]
      rw [← ih]; simp
    · rw [count_cons_ne b c l h]
      have hp : ([c] : List UInt8).isPrefixOf (b :: l) = false := by simp [List.isPrefixOf, Ne.symm h]
      have hix : index (b :: l) [c] = if index l [c] == -1 then -1 else index l [c] + 1 := by rw [index, hp]; simp
      simp only [splitL, if_neg h]
      by_cases hm : index l [c] = -1
      · rw [count_miss hm] at ih ⊢
        rw [← ih]; rfl
      · have hge := index_ge l [c]
        obtain ⟨j, hj⟩ : ∃ j : Nat, index l [c] = j := ⟨(index l [c]).toNat, by omega⟩
        rw [count_hit (by simp) hj, Nat.add_comm] at ih ⊢
        rw [splitK, hj, if_neg (by simp)] at ih
        rw [splitK, hix, if_neg (by rw [hj]; simp; omega), if_neg (by rw [hj]; simp), hj, ← ih]
        simp [show ((j : Int) + 1).toNat = j + 1 by omega]
theorem splitB_one (s : ByteArray) (c : UInt8) : (splitB ⟨#[c]⟩ 0 (countB s ⟨#[c]⟩) s).map (·.data.toList) = splitL c s.data.toList := by
  rw [splitB_data, ← split_one]
/-- The words of a sum of n pence. -/
def wordsM (n : Nat) : List (List UInt8) :=
  (if n / 240 > 0 then [itoa ((n / 240 : Nat) : Int) ++ [108]] else []) ++ ((if n / 12 % 20 > 0 then [itoa ((n / 12 % 20 : Nat) : Int) ++ [115]] else []) ++ (if n % 12 > 0 ∨ n = 0 then [itoa ((n % 12 : Nat) : Int) ++ [100]] else []))
def moneyT (p : Int) : List UInt8 := if p < 0 then 45 :: join (wordsM p.natAbs) [32] else join (wordsM p.natAbs) [32]
theorem itoa_nat_all (v : Nat) : ∀ c ∈ itoa (v : Int), 48 ≤ c.toNat ∧ c.toNat ≤ 57 := by
  rw [itoa, if_neg (by omega)]; exact dec_all _
theorem itoa_nat_pos (v : Nat) : 1 ≤ (itoa (v : Int)).length := by
  rw [itoa, if_neg (by omega), decDigits_length]; exact nDigits_pos _
theorem itoa_nat_len {v k : Nat} (h : v < 10 ^ k) (hk : 0 < k) : (itoa (v : Int)).length ≤ k := by
  rw [itoa, if_neg (by omega)]; exact dec_length (by simpa using h) hk
/-- What a word of a valid sum is. -/
theorem words_good {n : Nat} (hn : n ≤ 1099511627776) : ∀ x ∈ wordsM n, ∃ (v : Nat) (u : UInt8), x = itoa (v : Int) ++ [u] ∧ v ≤ 1099511627776 ∧ (u = 108 ∨ u = 115 ∨ u = 100) ∧ 2 ≤ x.length ∧ x.length ≤ 14 := by
  intro x hx
  unfold wordsM at hx
  have key : ∀ (v : Nat) (u : UInt8), v ≤ 1099511627776 → (u = 108 ∨ u = 115 ∨ u = 100) → x = itoa (v : Int) ++ [u] → ∃ (v : Nat) (u : UInt8), x = itoa (v : Int) ++ [u] ∧ v ≤ 1099511627776 ∧ (u = 108 ∨ u = 115 ∨ u = 100) ∧ 2 ≤ x.length ∧ x.length ≤ 14 := by
    intro v u h1 h2 h3
    have p1 := itoa_nat_pos v
    have p2 := itoa_nat_len (v := v) (k := 13) (by omega) (by omega)
    exact ⟨v, u, h3, h1, h2, by rw [h3]; simp; omega, by rw [h3]; simp; omega⟩
  rcases List.mem_append.1 hx with hx | hx
  · split at hx
    · exact key _ 108 (by omega) (.inl rfl) (List.mem_singleton.1 hx)
    · simp at hx
  · rcases List.mem_append.1 hx with hx | hx
    · split at hx
      · exact key _ 115 (by omega) (.inr (.inl rfl)) (List.mem_singleton.1 hx)
      · simp at hx
    · split at hx
      · exact key _ 100 (by omega) (.inr (.inr rfl)) (List.mem_singleton.1 hx)
      · simp at hx
theorem words_ne (n : Nat) : wordsM n ≠ [] := by
  unfold wordsM
  intro h
  simp only [List.append_eq_nil_iff] at h
  obtain ⟨h1, h2, h3⟩ := h
  have e1 : ¬ n / 240 > 0 := fun e => by rw [if_pos e] at h1; cases h1
  have e2 : ¬ n / 12 % 20 > 0 := fun e => by rw [if_pos e] at h2; cases h2
  have e3 : ¬ (n % 12 > 0 ∨ n = 0) := fun e => by rw [if_pos e] at h3; cases h3
  omega
theorem words_len (n : Nat) : (wordsM n).length ≤ 3 := by
  unfold wordsM
  simp only [List.length_append]
  split <;> split <;> split <;> simp
/-- Digits and units hold no byte below 48. -/
theorem words_free {n : Nat} (hn : n ≤ 1099511627776) : ∀ x ∈ wordsM n, ∀ c ∈ x, 48 ≤ c.toNat := by
  intro x hx c hc
  obtain ⟨v, u, rfl, -, hu, -⟩ := words_good hn x hx
  rcases List.mem_append.1 hc with hc | hc
  · exact (itoa_nat_all v c hc).1
  · simp only [List.mem_singleton] at hc
    subst hc
    rcases hu with rfl | rfl | rfl <;> decide
theorem splitL_join {b : UInt8} : ∀ (ws : List (List UInt8)), ws ≠ [] → (∀ x ∈ ws, b ∉ x) → splitL b (join ws [b]) = ws
  | [], h, _ => absurd rfl h
  | [x], _, h => by rw [join_one]; exact splitL_none (h x (by simp))
  | x :: y :: r, _, h => by
    have ih := splitL_join (y :: r) (by simp) (fun z hz => h z (by simp at hz ⊢; exact .inr hz))
    have e : join (x :: y :: r) [b] = x ++ b :: join (y :: r) [b] := by
      rw [join_cons, join_cons]; simp [joinTail]
    rw [e, splitL_app (h x (by simp)), ih]
theorem words_split {n : Nat} (hn : n ≤ 1099511627776) : splitL 32 (join (wordsM n) [32]) = wordsM n :=
  splitL_join _ (words_ne n) (fun x hx h => by have := words_free hn x hx 32 h; simp at this)
theorem words_head {n : Nat} (hn : n ≤ 1099511627776) : ∃ c r, join (wordsM n) [32] = c :: r ∧ c ≠ 45 := by
  have hf := words_free hn
  have hg := words_good hn
  cases hw : wordsM n with
  | nil => exact absurd hw (words_ne n)
  | cons x r =>
    rw [hw] at hf hg
    obtain ⟨-, -, -, -, -, hl, -⟩ := hg x (by simp)
    cases hx : x with
    | nil => rw [hx] at hl; simp at hl
    | cons c y =>
      refine ⟨c, y ++ joinTail [32] r, by rw [join_cons]; rfl, fun h => ?_⟩
      have := hf x (by simp) c (by rw [hx]; simp)
      rw [h] at this; simp at this
/-- What a word counts. -/
def wval (x : List UInt8) : Int := match atoiAll x.dropLast with
  | .ok v => if x.getLast? = some 108 then 240 * v else if x.getLast? = some 115 then 12 * v else if x.getLast? = some 100 then v else 0
  | _ => 0
def sumW (ws : List (List UInt8)) : Int := (ws.map wval).sum
theorem sumW_snoc (ws : List (List UInt8)) (x : List UInt8) : sumW (ws ++ [x]) = sumW ws + wval x := by simp [sumW]
theorem wval_ok {l : List UInt8} {u : UInt8} {v : Int} (h : atoiAll l = .ok v) : wval (l ++ [u]) = if u = 108 then 240 * v else if u = 115 then 12 * v else if u = 100 then v else 0 := by
  unfold wval
  rw [List.dropLast_concat, h, List.getLast?_concat]
  simp
theorem wval_word {v : Nat} (hv : v ≤ 1099511627776) (u : UInt8) : wval (itoa (v : Int) ++ [u]) = if u = 108 then 240 * (v : Int) else if u = 115 then 12 * (v : Int) else if u = 100 then (v : Int) else 0 :=
  wval_ok (atoi_itoa _ (by omega) (by omega))
theorem sum_words {n : Nat} (hn : n ≤ 1099511627776) : sumW (wordsM n) = n := by
  unfold wordsM sumW
  rw [List.map_append, List.map_append, List.sum_append, List.sum_append]
  have e1 : ((if n / 240 > 0 then [itoa ((n / 240 : Nat) : Int) ++ [108]] else []).map wval).sum = 240 * ((n / 240 : Nat) : Int) := by
    split
    · rw [List.map_cons, wval_word (by omega)]; simp
    · simp; omega
  have e2 : ((if n / 12 % 20 > 0 then [itoa ((n / 12 % 20 : Nat) : Int) ++ [115]] else []).map wval).sum = 12 * ((n / 12 % 20 : Nat) : Int) := by
    split
    · rw [List.map_cons, wval_word (by omega)]; simp
    · simp; omega
  have e3 : ((if n % 12 > 0 ∨ n = 0 then [itoa ((n % 12 : Nat) : Int) ++ [100]] else []).map wval).sum = ((n % 12 : Nat) : Int) := by
    split
    · rw [List.map_cons, wval_word (by omega)]; simp
    · simp; omega
  rw [e1, e2, e3]
  omega
/-- A text without its sign. -/
def bdy (t : List UInt8) : List UInt8 := if t.head? = some 45 then t.drop 1 else t
theorem own_bdy {a : Int} {t : List UInt8} (h0 : -1099511627776 ≤ a) (h1 : a ≤ 1099511627776) (h : moneyT a = t) : bdy t = join (wordsM a.natAbs) [32] ∧ (t.head? = some 45 ↔ a < 0) := by
  subst h
  obtain ⟨c, r, hc, hn⟩ := words_head (n := a.natAbs) (by omega)
  unfold moneyT bdy
  by_cases ha : a < 0
  · simp [ha]
  · rw [if_neg ha, hc]
    simp [hn, ha]
theorem own_words {a : Int} {t : List UInt8} (h0 : -1099511627776 ≤ a) (h1 : a ≤ 1099511627776) (h : moneyT a = t) : splitL 32 (bdy t) = wordsM a.natAbs ∧ (t.head? = some 45 ↔ a < 0) := by
  obtain ⟨h2, h3⟩ := own_bdy h0 h1 h
  exact ⟨by rw [h2, words_split (by omega)], h3⟩
theorem own_sum {a : Int} {t : List UInt8} (h0 : -1099511627776 ≤ a) (h1 : a ≤ 1099511627776) (h : moneyT a = t) : (if t.head? = some 45 then - sumW (splitL 32 (bdy t)) else sumW (splitL 32 (bdy t))) = a := by
  obtain ⟨h2, h3⟩ := own_words h0 h1 h
  rw [h2, sum_words (by omega)]
  split
  · have := h3.1 (by assumption); omega
  · have : ¬ a < 0 := fun h => by have := h3.2 h; contradiction
    omega
/-- What a text is read as: the sum whose text it is, or the error. -/
def PrsM (t : List UInt8) (p z : Int) : Prop := (z = 0 ∧ -1099511627776 ≤ p ∧ p ≤ 1099511627776 ∧ moneyT p = t) ∨ (z = 3 ∧ p = 0 ∧ ∀ a, -1099511627776 ≤ a → a ≤ 1099511627776 → moneyT a ≠ t)
theorem moneyT_inj {a b : Int} (h0 : -1099511627776 ≤ a) (h1 : a ≤ 1099511627776) (h2 : -1099511627776 ≤ b) (h3 : b ≤ 1099511627776) (h : moneyT a = moneyT b) : a = b := by
  have e1 := own_sum h0 h1 h
  have e2 := own_sum h2 h3 rfl
  exact e1.symm.trans e2
theorem PrsM.unique {t : List UInt8} {p z q y : Int} (h1 : PrsM t p z) (h2 : PrsM t q y) : p = q ∧ z = y := by
  rcases h1 with ⟨rfl, v1, v2, f1⟩ | ⟨rfl, rfl, g1⟩
  · rcases h2 with ⟨rfl, u1, u2, f2⟩ | ⟨rfl, rfl, g2⟩
    · exact ⟨moneyT_inj v1 v2 u1 u2 (f1.trans f2.symm), rfl⟩
    · exact absurd f1 (g2 _ v1 v2)
  · rcases h2 with ⟨rfl, u1, u2, f2⟩ | ⟨rfl, rfl, g2⟩
    · exact absurd f2 (g1 _ u1 u2)
    · exact ⟨rfl, rfl⟩
/-- Short texts are read as small numbers. -/
theorem atoi_short {l : List UInt8} {v : Int} (hl : l.length ≤ 13) (h : atoiAll l = .ok v) : -10000000000000 < v ∧ v < 10000000000000 := by
  have hm : ∀ m : List UInt8, m.length ≤ 13 → ∀ u, parseMag m = .ok u → u < 10000000000000 := by
    intro m hm u hu
    unfold parseMag at hu
    split at hu
    · cases hu
    · obtain ⟨e1, e2⟩ := val_parse _ _ _ hu
      have := val_lt m e2
      rw [e1] at this
      exact Nat.lt_of_lt_of_le this (Nat.pow_le_pow_right (by omega) hm)
  unfold atoiAll at h
  split at h
  · cases h
  · rename_i c r
    simp only [] at h
    split at h
    · cases h
    · cases h
    · rename_i u hu
      have := hm _ (by split <;> simp at hl ⊢ <;> omega) u hu
      split at h
      · cases h
      · split at h
        · cases h
        · injection h with h
          split at h <;> omega
theorem wval_bd {x : List UInt8} (hx : x.length ≤ 14) : -2400000000000000 < wval x ∧ wval x < 2400000000000000 := by
  unfold wval
  split
  · rename_i v hv
    have := atoi_short (by simp; omega) hv
    split
    · omega
    · split
      · omega
      · split <;> omega
  · omega
end Go.Proofs.YtclbjgelefbmlaaDoor
