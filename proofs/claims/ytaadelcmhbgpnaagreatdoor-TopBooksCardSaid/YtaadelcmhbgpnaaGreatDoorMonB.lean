/-
  MONEY: the texts, PLAIN.
-/
import Derived.Test.YtaadelcmhbgpnaaGreatDoorTxtH
import Derived.Lib.SplitLaws
import Derived.Lib.Join
import Derived.Deep.DeepCutAuto
namespace Go.Proofs.YtaadelcmhbgpnaaGreatDoor
open Go.RowKit Go.Lib
/-- Split at one byte is the reference's Split. -/
theorem split_one (c : UInt8) : ∀ l : List UInt8, splitK [c] 0 (count l [c]) l = splitL c l
  | [] => by rw [count_miss (by simp [index])]; rfl
  | b :: l => by
    have ih := split_one c l
    by_cases h : b = c
    · subst h
      have hix : index (b :: l) [b] = 0 := by rw [index]; simp [List.isPrefixOf]
      rw [count_cons_eq, Nat.add_comm, splitK, hix, if_neg (by decide)]
      simp only [splitL, if_true]
      rw [← ih]; simp
    · rw [count_cons_ne b c l h]
      have hp : ([c] : List UInt8).isPrefixOf (b :: l) = false := by simp [List.isPrefixOf, Ne.symm h]
      have hix : index (b :: l) [c] = if index l [c] == -1 then -1 else index l [c] + 1 := by rw [index, hp]; simp
      simp only [splitL, if_neg h]
      by_cases hm : index l [c] = -1
      · rw [count_miss hm] at ih ⊢
        rw [← ih]; rfl
      · have hge := index_ge l [c]
        obtain ⟨j, hj⟩ : ∃ j : Nat, index l [c] = j := ⟨(index l [c]).toNat, by omega⟩
        rw [count_hit (by simp) hj, Nat.add_comm] at ih ⊢
        rw [splitK, hj, if_neg (by simp)] at ih
        rw [splitK, hix, if_neg (by rw [hj]; simp; omega), if_neg (by rw [hj]; simp), hj, ← ih]
        simp [show ((j : Int) + 1).toNat = j + 1 by omega]
theorem splitB_one (s : ByteArray) (c : UInt8) : (splitB ⟨#[c]⟩ 0 (countB s ⟨#[c]⟩) s).map (·.data.toList) = splitL c s.data.toList := by
  rw [splitB_data, ← split_one]
/-- The words of a sum of n pence. -/
def wordsM (n : Nat) : List (List UInt8) :=
  (if n / 240 > 0 then [itoa ((n / 240 : Nat) : Int) ++ [108]] else []) ++ ((if n / 12 % 20 > 0 then [itoa ((n / 12 % 20 : Nat) : Int) ++ [115]] else []) ++ (if n % 12 > 0 ∨ n = 0 then [itoa ((n % 12 : Nat) : Int) ++ [100]] else []))
def moneyT (p : Int) : List UInt8 := if p < 0 then 45 :: join (wordsM p.natAbs) [32] else join (wordsM p.natAbs) [32]
theorem itoa_nat_all (v : Nat) : ∀ c ∈ itoa (v : Int), 48 ≤ c.toNat ∧ c.toNat ≤ 57 := by
  rw [itoa, if_neg (by omega)]; exact dec_all _
theorem itoa_nat_pos (v : Nat) : 1 ≤ (itoa (v : Int)).length := by
  rw [itoa, if_neg (by omega), decDigits_length]; exact nDigits_pos _
theorem itoa_nat_len {v k : Nat} (h : v < 10 ^ k) (hk : 0 < k) : (itoa (v : Int)).length ≤ k := by
  rw [itoa, if_neg (by omega)]; exact dec_length (by simpa using h) hk
/-- What a word of a valid sum is. -/
theorem words_good {n : Nat} (hn : n ≤ 1099511627776) : ∀ x ∈ wordsM n, ∃ (v : Nat) (u : UInt8), x = itoa (v : Int) ++ [u] ∧ v ≤ 1099511627776 ∧ (u = 108 ∨ u = 115 ∨ u = 100) ∧ 2 ≤ x.length ∧ x.length ≤ 14 := by
  intro x hx
  unfold wordsM at hx
  have key : ∀ (v : Nat) (u : UInt8), v ≤ 1099511627776 → (u = 108 ∨ u = 115 ∨ u = 100) → x = itoa (v : Int) ++ [u] → ∃ (v : Nat) (u : UInt8), x = itoa (v : Int) ++ [u] ∧ v ≤ 1099511627776 ∧ (u = 108 ∨ u = 115 ∨ u = 100) ∧ 2 ≤ x.length ∧ x.length ≤ 14 := by
    intro v u h1 h2 h3
    have p1 := itoa_nat_pos v
    have p2 := itoa_nat_len (v := v) (k := 13) (by omega) (by omega)
    exact ⟨v, u, h3, h1, h2, by rw [h3]; simp; omega, by rw [h3]; simp; omega⟩
  rcases List.mem_append.1 hx with hx | hx
  · split at hx
    · exact key _ 108 (by omega) (.inl rfl) (List.mem_singleton.1 hx)
    · simp at hx
  · rcases List.mem_append.1 hx with hx | hx
    · split at hx
      · exact key _ 115 (by omega) (.inr (.inl rfl)) (List.mem_singleton.1 hx)
      · simp at hx
    · split at hx
      · exact key _ 100 (by omega) (.inr (.inr rfl)) (List.mem_singleton.1 hx)
      · simp at hx
theorem words_ne (n : Nat) : wordsM n ≠ [] := by
  unfold wordsM
  intro h
  simp only [List.append_eq_nil_iff] at h
  obtain ⟨h1, h2, h3⟩ := h
  have e1 : ¬ n / 240 > 0 := fun e => by rw [if_pos e] at h1; cases h1
  have e2 : ¬ n / 12 % 20 > 0 := fun e => by rw [if_pos e] at h2; cases h2
  have e3 : ¬ (n % 12 > 0 ∨ n = 0) := fun e => by rw [if_pos e] at h3; cases h3
  omega
theorem words_len (n : Nat) : (wordsM n).length ≤ 3 := by
  unfold wordsM
  simp only [List.length_append]
  split <;> split <;> split <;> simp
/-- Digits and units hold no byte below 48. -/
theorem words_free {n : Nat} (hn : n ≤ 1099511627776) : ∀ x ∈ wordsM n, ∀ c ∈ x, 48 ≤ c.toNat := by
  intro x hx c hc
  obtain ⟨v, u, rfl, -, hu, -⟩ := words_good hn x hx
  rcases List.mem_append.1 hc with hc | hc
  · exact (itoa_nat_all v c hc).1
  · simp only [List.mem_singleton] at hc
    subst hc
    rcases hu with rfl | rfl | rfl <;> decide
theorem splitL_join {b : UInt8} : ∀ (ws : List (List UInt8)), ws ≠ [] → (∀ x ∈ ws, b ∉ x) → splitL b (join ws [b]) = ws
  | [], h, _ => absurd rfl h
  | [x], _, h => by rw [join_one]; exact splitL_none (h x (by simp))
  | x :: y :: r, _, h => by
    have ih := splitL_join (y :: r) (by simp) (fun z hz => h z (by simp at hz ⊢; exact .inr hz))
    have e : join (x :: y :: r) [b] = x ++ b :: join (y :: r) [b] := by
      rw [join_cons, join_cons]; simp [joinTail]
    rw [e, splitL_app (h x (by simp)), ih]
theorem words_split {n : Nat} (hn : n ≤ 1099511627776) : splitL 32 (join (wordsM n) [32]) = wordsM n :=
  splitL_join _ (words_ne n) (fun x hx h => by have := words_free hn x hx 32 h; simp at this)
theorem words_head {n : Nat} (hn : n ≤ 1099511627776) : ∃ c r, join (wordsM n) [32] = c :: r ∧ c ≠ 45 := by
  have hf := words_free hn
  have hg := words_good hn
  cases hw : wordsM n with
  | nil => exact absurd hw (words_ne n)
  | cons x r =>
    rw [hw] at hf hg
    obtain ⟨-, -, -, -, -, hl, -⟩ := hg x (by simp)
    cases hx : x with
    | nil => rw [hx] at hl; simp at hl
    | cons c y =>
      refine ⟨c, y ++ joinTail [32] r, by rw [join_cons]; rfl, fun h => ?_⟩
      have := hf x (by simp) c (by rw [hx]; simp)
      rw [h] at this; simp at this
/-- What a word counts. -/
def wval (x : List UInt8) : Int := match atoiAll x.dropLast with
  | .ok v => if x.getLast? = some 108 then 240 * v else if x.getLast? = some 115 then 12 * v else if x.getLast? = some 100 then v else 0
  | _ => 0
def sumW (ws : List (List UInt8)) : Int := (ws.map wval).sum
theorem sumW_snoc (ws : List (List UInt8)) (x : List UInt8) : sumW (ws ++ [x]) = sumW ws + wval x := by simp [sumW]
theorem wval_ok {l : List UInt8} {u : UInt8} {v : Int} (h : atoiAll l = .ok v) : wval (l ++ [u]) = if u = 108 then 240 * v else if u = 115 then 12 * v else if u = 100 then v else 0 := by
  unfold wval
  rw [List.dropLast_concat, h, List.getLast?_concat]
  simp
theorem wval_word {v : Nat} (hv : v ≤ 1099511627776) (u : UInt8) : wval (itoa (v : Int) ++ [u]) = if u = 108 then 240 * (v : Int) else if u = 115 then 12 * (v : Int) else if u = 100 then (v : Int) else 0 :=
  wval_ok (atoi_itoa _ (by omega) (by omega))
theorem sum_words {n : Nat} (hn : n ≤ 1099511627776) : sumW (wordsM n) = n := by
  unfold wordsM sumW
  rw [List.map_append, List.map_append, List.sum_append, List.sum_append]
  have e1 : ((if n / 240 > 0 then [itoa ((n / 240 : Nat) : Int) ++ [108]] else []).map wval).sum = 240 * ((n / 240 : Nat) : Int) := by
    split
    · rw [List.map_cons, wval_word (by omega)]; simp
    · simp; omega
  have e2 : ((if n / 12 % 20 > 0 then [itoa ((n / 12 % 20 : Nat) : Int) ++ [115]] else []).map wval).sum = 12 * ((n / 12 % 20 : Nat) : Int) := by
    split
    · rw [List.map_cons, wval_word (by omega)]; simp
    · simp; omega
  have e3 : ((if n % 12 > 0 ∨ n = 0 then [itoa ((n % 12 : Nat) : Int) ++ [100]] else []).map wval).sum = ((n % 12 : Nat) : Int) := by
    split
    · rw [List.map_cons, wval_word (by omega)]; simp
    · simp; omega
  rw [e1, e2, e3]
  omega
/-- A text without its sign. -/
def bdy (t : List UInt8) : List UInt8 := if t.head? = some 45 then t.drop 1 else t
theorem own_bdy {a : Int} {t : List UInt8} (h0 : -1099511627776 ≤ a) (h1 : a ≤ 1099511627776) (h : moneyT a = t) : bdy t = join (wordsM a.natAbs) [32] ∧ (t.head? = some 45 ↔ a < 0) := by
  subst h
  obtain ⟨c, r, hc, hn⟩ := words_head (n := a.natAbs) (by omega)
  unfold moneyT bdy
  by_cases ha : a < 0
  · simp [ha]
  · rw [if_neg ha, hc]
    simp [hn, ha]
theorem own_words {a : Int} {t : List UInt8} (h0 : -1099511627776 ≤ a) (h1 : a ≤ 1099511627776) (h : moneyT a = t) : splitL 32 (bdy t) = wordsM a.natAbs ∧ (t.head? = some 45 ↔ a < 0) := by
  obtain ⟨h2, h3⟩ := own_bdy h0 h1 h
  exact ⟨by rw [h2, words_split (by omega)], h3⟩
theorem own_sum {a : Int} {t : List UInt8} (h0 : -1099511627776 ≤ a) (h1 : a ≤ 1099511627776) (h : moneyT a = t) : (if t.head? = some 45 then - sumW (splitL 32 (bdy t)) else sumW (splitL 32 (bdy t))) = a := by
  obtain ⟨h2, h3⟩ := own_words h0 h1 h
  rw [h2, sum_words (by omega)]
  split
  · have := h3.1 (by assumption); omega
  · have : ¬ a < 0 := fun h => by have := h3.2 h; contradiction
    omega
/-- What a text is read as: the sum whose text it is, or the error. -/
def PrsM (t : List UInt8) (p z : Int) : Prop := (z = 0 ∧ -1099511627776 ≤ p ∧ p ≤ 1099511627776 ∧ moneyT p = t) ∨ (z = 3 ∧ p = 0 ∧ ∀ a, -1099511627776 ≤ a → a ≤ 1099511627776 → moneyT a ≠ t)
theorem moneyT_inj {a b : Int} (h0 : -1099511627776 ≤ a) (h1 : a ≤ 1099511627776) (h2 : -1099511627776 ≤ b) (h3 : b ≤ 1099511627776) (h : moneyT a = moneyT b) : a = b := by
  have e1 := own_sum h0 h1 h
  have e2 := own_sum h2 h3 rfl
  exact e1.symm.trans e2
theorem PrsM.unique {t : List UInt8} {p z q y : Int} (h1 : PrsM t p z) (h2 : PrsM t q y) : p = q ∧ z = y := by
  rcases h1 with ⟨rfl, v1, v2, f1⟩ | ⟨rfl, rfl, g1⟩
  · rcases h2 with ⟨rfl, u1, u2, f2⟩ | ⟨rfl, rfl, g2⟩
    · exact ⟨moneyT_inj v1 v2 u1 u2 (f1.trans f2.symm), rfl⟩
    · exact absurd f1 (g2 _ v1 v2)
  · rcases h2 with ⟨rfl, u1, u2, f2⟩ | ⟨rfl, rfl, g2⟩
    · exact absurd f2 (g1 _ u1 u2)
    · exact ⟨rfl, rfl⟩
/-- Short texts are read as small numbers. -/
theorem atoi_short {l : List UInt8} {v : Int} (hl : l.length ≤ 13) (h : atoiAll l = .ok v) : -10000000000000 < v ∧ v < 10000000000000 := by
  have hm : ∀ m : List UInt8, m.length ≤ 13 → ∀ u, parseMag m = .ok u → u < 10000000000000 := by
    intro m hm u hu
    unfold parseMag at hu
    split at hu
    · cases hu
    · obtain ⟨e1, e2⟩ := val_parse _ _ _ hu
      have := val_lt m e2
      rw [e1] at this
      exact Nat.lt_of_lt_of_le this (Nat.pow_le_pow_right (by omega) hm)
  unfold atoiAll at h
  split at h
  · cases h
  · rename_i c r
    simp only [] at h
    split at h
    · cases h
    · cases h
    · rename_i u hu
      have := hm _ (by split <;> simp at hl ⊢ <;> omega) u hu
      split at h
      · cases h
      · split at h
        · cases h
        · injection h with h
          split at h <;> omega
theorem wval_bd {x : List UInt8} (hx : x.length ≤ 14) : -2400000000000000 < wval x ∧ wval x < 2400000000000000 := by
  unfold wval
  split
  · rename_i v hv
    have := atoi_short (by simp; omega) hv
    split
    · omega
    · split
      · omega
      · split <;> omega
  · omega
end Go.Proofs.YtaadelcmhbgpnaaGreatDoor
/-
  FormatMoney, THE REFERENCE'S.
-/
namespace Go.Proofs.YtaadelcmhbgpnaaGreatDoor
open Go.RowKit Go.Lib
/-- The pieces of the text behind blanks. -/
def mP1 (m : Nat) : List UInt8 := if m / 240 > 0 then 32 :: (itoa ((m / 240 : Nat) : Int) ++ [108]) else []
def mP2 (m : Nat) : List UInt8 := if m / 12 % 20 > 0 then 32 :: (itoa ((m / 12 % 20 : Nat) : Int) ++ [115]) else []
def mP3 (m : Nat) : List UInt8 := if m % 12 > 0 then 32 :: (itoa ((m % 12 : Nat) : Int) ++ [100]) else []
theorem joinTail_join {ws : List (List UInt8)} (h : ws ≠ []) : joinTail [32] ws = 32 :: join ws [32] := by
  cases ws with
  | nil => exact absurd rfl h
  | cons x r => rw [join_cons]; simp [joinTail]
theorem mP_all {m : Nat} (h : m ≠ 0) : mP1 m ++ (mP2 m ++ mP3 m) = 32 :: join (wordsM m) [32] := by
  rw [← joinTail_join (words_ne m)]
  unfold mP1 mP2 mP3 wordsM joinTail
  simp only [List.map_append, List.flatten_append, h, or_false]
  split <;> split <;> split <;> simp
theorem mP_len {m : Nat} (h : m ≤ 1099511627776) : (mP1 m).length ≤ 16 ∧ (mP2 m).length ≤ 16 ∧ (mP3 m).length ≤ 16 := by
  have k : ∀ v : Nat, v ≤ 1099511627776 → (itoa (v : Int)).length ≤ 13 := fun v hv => itoa_nat_len (by omega) (by omega)
  have k1 := k (m / 240) (by omega)
  have k2 := k (m / 12 % 20) (by omega)
  have k3 := k (m % 12) (by omega)
  unfold mP1 mP2 mP3
  refine ⟨?_, ?_, ?_⟩ <;> split <;> simp only [List.length_cons, List.length_append, List.length_nil] <;> omega
theorem bytes_lit1 (c : UInt8) : (⟨#[c]⟩ : ByteArray) = ⟨([c] : List UInt8).toArray⟩ := rfl
theorem glue3 (q : List UInt8) (v : Int) (u : UInt8) : (((⟨q.toArray⟩ : ByteArray) ++ ⟨#[32]⟩) ++ ⟨(itoa v).toArray⟩) ++ ⟨#[u]⟩ = ⟨(q ++ 32 :: (itoa v ++ [u])).toArray⟩ := by
  rw [bytes_lit1, bytes_lit1, bytes_app2, bytes_app2, bytes_app2]; simp
theorem cut_one {q r : List UInt8} {c : UInt8} (h : q = c :: r) : (⟨q.toArray⟩ : ByteArray).extract 1 q.length = ⟨r.toArray⟩ := by
  subst h
  apply ByteArray.ext
  rw [ByteArray.data_extract]
  apply Array.toList_inj.1
  rw [Array.toList_extract, List.extract_eq_take_drop]
  simp
theorem ediv240 (m : Nat) : ((m / 240 : Nat) : Int) = (m : Int) / 240 := by omega
theorem ediv12 (m : Nat) : ((m / 12 % 20 : Nat) : Int) = (m : Int) / 12 % 20 := by omega
theorem emod12 (m : Nat) : ((m % 12 : Nat) : Int) = (m : Int) % 12 := by omega
theorem rformatMoney_no (p : Int) (h : p < -1099511627776 ∨ 1099511627776 < p) (h1 : -9223372036854775808 ≤ p) (h2 : p ≤ 9223372036854775807) (w : World) :
    Calls Tryz.prog 95 #[.int .i64 p] w fun e w' => e = .returned (.tuple #[.string ⟨#[]⟩, .int .i64 1]) ∧ Below w.heap.size w w' := by
  go_enter Tryz.func95, Tryz.ntmps95
  go_wp2_with fail
  refine (within_no p _ _ (by omega) _).mono ?_
  rintro e w' ⟨rfl, rfl⟩
  go_wp2
  go_ret2
  exact ⟨rfl, (by repeat' (first | (with_reducible exact Below.refl _ _) | (with_reducible assumption) | (with_reducible refine below_drewN ?_ _) | (with_reducible refine below_step (by assumption) ?_ ?_) | (with_reducible refine Below.alloc ?_ ?_ _) | (with_reducible refine Below.setCell ?_ ?_ _) | (with_reducible refine Below.drew ?_) | go_size | (exact Below.size (by assumption)) | (refine Nat.le_trans (Below.size (by assumption)) ?_)))⟩
set_option maxRecDepth 100000 in
set_option maxHeartbeats 2000000 in
theorem rformatMoney_yes (p : Int) (h1 : -1099511627776 ≤ p) (h2 : p ≤ 1099511627776) (w : World) :
    Calls Tryz.prog 95 #[.int .i64 p] w fun e w' => e = .returned (.tuple #[.string ⟨(moneyT p).toArray⟩, .int .i64 0]) ∧ Below w.heap.size w w' := by
  by_cases hp : p = 0
  · subst hp
    go_enter Tryz.func95, Tryz.ntmps95
    go_wp2_with fail
    refine (within_yes 0 _ _ (by omega) (by omega) _).mono ?_
    rintro e w' ⟨rfl, rfl⟩
    go_wp2
    go_ret2
    exact ⟨ret_si (by decide +kernel), (by repeat' (first | (with_reducible exact Below.refl _ _) | (with_reducible assumption) | (with_reducible refine below_drewN ?_ _) | (with_reducible refine below_step (by assumption) ?_ ?_) | (with_reducible refine Below.alloc ?_ ?_ _) | (with_reducible refine Below.setCell ?_ ?_ _) | (with_reducible refine Below.drew ?_) | go_size | (exact Below.size (by assumption)) | (refine Nat.le_trans (Below.size (by assumption)) ?_)))⟩
  · have hp' : (p == 0) = false := by rw [beq_eq_false_iff_ne]; exact hp
    obtain ⟨m, hm⟩ : ∃ m, m = p.natAbs := ⟨_, rfl⟩
    have hm0 : m ≠ 0 := by omega
    have hm1 : m ≤ 1099511627776 := by omega
    obtain ⟨l1, l2, l3⟩ := mP_len hm1
    have hall := mP_all hm0
    have hT : moneyT p = if p < 0 then 45 :: join (wordsM m) [32] else join (wordsM m) [32] := by rw [moneyT, hm]
    obtain ⟨q1, hq1⟩ : ∃ q, q = mP1 m := ⟨_, rfl⟩
    obtain ⟨q2, hq2⟩ : ∃ q, q = q1 ++ mP2 m := ⟨_, rfl⟩
    obtain ⟨q3, hq3⟩ : ∃ q, q = q2 ++ mP3 m := ⟨_, rfl⟩
    have h3 : q3 = 32 :: join (wordsM m) [32] := by rw [hq3, hq2, hq1, List.append_assoc]; exact hall
    have g1 : q1.length ≤ 16 := by rw [hq1]; exact l1
    have g2 : q2.length ≤ 32 := by rw [hq2, List.length_append]; omega
    have g3 : q3.length ≤ 48 := by rw [hq3, List.length_append]; omega
    have g4 : 1 ≤ q3.length := by rw [h3]; simp
    have k1 : (itoa ((m : Int) / 240)).length ≤ 13 := by rw [← ediv240]; exact itoa_nat_len (by omega) (by omega)
    have k2 : (itoa ((m : Int) / 12 % 20)).length ≤ 13 := by rw [← ediv12]; exact itoa_nat_len (by omega) (by omega)
    have k3 : (itoa ((m : Int) % 12)).length ≤ 13 := by rw [← emod12]; exact itoa_nat_len (by omega) (by omega)
    have HM := Lib.hid hm
    have HT := Lib.hid hT
    have Q1 := Lib.hid hq1
    have Q2 := Lib.hid hq2
    have Q3 := Lib.hid hq3
    have H3 := Lib.hid h3
    clear hall hT hq1 hq2 hq3 h3 hp hm l1 l2 l3
    go_enter Tryz.func95, Tryz.ntmps95
    go_wp2_with fail
    refine (within_yes p _ _ (by omega) (by omega) _).mono ?_
    rintro e w' ⟨rfl, rfl⟩
    go_upto_if 13 with fail
    go_cut [4] (fun v wx => v = .int .i64 m ∧ Below w.heap.size w wx)
    case first =>
      by_cases hn : p < 0
      · have hd : decide (p < 0) = true := decide_eq_true hn
        go_wp2_with fail
        go_meet
        exact ⟨by rw [HM.out]; congr 1; omega, (by repeat' (first | (with_reducible exact Below.refl _ _) | (with_reducible assumption) | (with_reducible refine below_drewN ?_ _) | (with_reducible refine below_step (by assumption) ?_ ?_) | (with_reducible refine Below.alloc ?_ ?_ _) | (with_reducible refine Below.setCell ?_ ?_ _) | (with_reducible refine Below.drew ?_) | go_size | (exact Below.size (by assumption)) | (refine Nat.le_trans (Below.size (by assumption)) ?_)))⟩
      · have hd : decide (p < 0) = false := decide_eq_false hn
        go_wp2_with fail
        go_meet
        exact ⟨by rw [HM.out]; congr 1; omega, (by repeat' (first | (with_reducible exact Below.refl _ _) | (with_reducible assumption) | (with_reducible refine below_drewN ?_ _) | (with_reducible refine below_step (by assumption) ?_ ?_) | (with_reducible refine Below.alloc ?_ ?_ _) | (with_reducible refine Below.setCell ?_ ?_ _) | (with_reducible refine Below.drew ?_) | go_size | (exact Below.size (by assumption)) | (refine Nat.le_trans (Below.size (by assumption)) ?_)))⟩
    case rest =>
      obtain ⟨rfl, hB⟩ := hcut
      go_upto_if 18 with fail
      go_cut [5] (fun v wx => v = .string ⟨q1.toArray⟩ ∧ Below w.heap.size w wx)
      case first =>
        by_cases hc : 0 < m / 240
        · have e1 : q1 = [] ++ 32 :: (itoa ((m : Int) / 240) ++ [108]) := by rw [Q1.out, mP1, if_pos hc, ediv240]; rfl
          have E1 := Lib.hid e1
          clear e1
          go_wp2_with fail
          refine (digits_int _ (by omega) (by omega) _).mono ?_
          rintro e w2 ⟨rfl, hb2⟩
          simp only [str]
          go_wp2_with fail
          go_meet
          exact ⟨by rw [E1.out, ← glue3], (by repeat' (first | (with_reducible exact Below.refl _ _) | (with_reducible assumption) | (with_reducible refine below_drewN ?_ _) | (with_reducible refine below_step (by assumption) ?_ ?_) | (with_reducible refine Below.alloc ?_ ?_ _) | (with_reducible refine Below.setCell ?_ ?_ _) | (with_reducible refine Below.drew ?_) | go_size | (exact Below.size (by assumption)) | (refine Nat.le_trans (Below.size (by assumption)) ?_)))⟩
        · go_wp2_with fail
          go_meet
          exact ⟨by rw [Q1.out, mP1, if_neg hc], (by repeat' (first | (with_reducible exact Below.refl _ _) | (with_reducible assumption) | (with_reducible refine below_drewN ?_ _) | (with_reducible refine below_step (by assumption) ?_ ?_) | (with_reducible refine Below.alloc ?_ ?_ _) | (with_reducible refine Below.setCell ?_ ?_ _) | (with_reducible refine Below.drew ?_) | go_size | (exact Below.size (by assumption)) | (refine Nat.le_trans (Below.size (by assumption)) ?_)))⟩
      case rest =>
        obtain ⟨rfl, hB2⟩ := hcut
        clear hB
        go_upto_if 29 with fail
        go_cut [5] (fun v wx => v = .string ⟨q2.toArray⟩ ∧ Below w.heap.size w wx)
        case first =>
          by_cases hc : 0 < m / 12 % 20
          · have e1 : q2 = q1 ++ 32 :: (itoa ((m : Int) / 12 % 20) ++ [115]) := by rw [Q2.out, mP2, if_pos hc, ediv12]
            have E1 := Lib.hid e1
            clear e1
            go_wp2_with fail
            refine (digits_int _ (by omega) (by omega) _).mono ?_
            rintro e w2 ⟨rfl, hb2⟩
            simp only [str]
            go_wp2_with fail
            go_meet
            exact ⟨by rw [E1.out, ← glue3], (by repeat' (first | (with_reducible exact Below.refl _ _) | (with_reducible assumption) | (with_reducible refine below_drewN ?_ _) | (with_reducible refine below_step (by assumption) ?_ ?_) | (with_reducible refine Below.alloc ?_ ?_ _) | (with_reducible refine Below.setCell ?_ ?_ _) | (with_reducible refine Below.drew ?_) | go_size | (exact Below.size (by assumption)) | (refine Nat.le_trans (Below.size (by assumption)) ?_)))⟩
          · go_wp2_with fail
            go_meet
            exact ⟨by rw [Q2.out, mP2, if_neg hc, List.append_nil], (by repeat' (first | (with_reducible exact Below.refl _ _) | (with_reducible assumption) | (with_reducible refine below_drewN ?_ _) | (with_reducible refine below_step (by assumption) ?_ ?_) | (with_reducible refine Below.alloc ?_ ?_ _) | (with_reducible refine Below.setCell ?_ ?_ _) | (with_reducible refine Below.drew ?_) | go_size | (exact Below.size (by assumption)) | (refine Nat.le_trans (Below.size (by assumption)) ?_)))⟩
        case rest =>
          obtain ⟨rfl, hB3⟩ := hcut
          clear hB2
          go_upto_if 40 with fail
          go_cut [5] (fun v wx => v = .string ⟨q3.toArray⟩ ∧ Below w.heap.size w wx)
          case first =>
            by_cases hc : 0 < m % 12
            · have e1 : q3 = q2 ++ 32 :: (itoa ((m : Int) % 12) ++ [100]) := by rw [Q3.out, mP3, if_pos hc, emod12]
              have E1 := Lib.hid e1
              clear e1
              go_wp2_with fail
              refine (digits_int _ (by omega) (by omega) _).mono ?_
              rintro e w2 ⟨rfl, hb2⟩
              simp only [str]
              go_wp2_with fail
              go_meet
              exact ⟨by rw [E1.out, ← glue3], (by repeat' (first | (with_reducible exact Below.refl _ _) | (with_reducible assumption) | (with_reducible refine below_drewN ?_ _) | (with_reducible refine below_step (by assumption) ?_ ?_) | (with_reducible refine Below.alloc ?_ ?_ _) | (with_reducible refine Below.setCell ?_ ?_ _) | (with_reducible refine Below.drew ?_) | go_size | (exact Below.size (by assumption)) | (refine Nat.le_trans (Below.size (by assumption)) ?_)))⟩
            · go_wp2_with fail
              go_meet
              exact ⟨by rw [Q3.out, mP3, if_neg hc, List.append_nil], (by repeat' (first | (with_reducible exact Below.refl _ _) | (with_reducible assumption) | (with_reducible refine below_drewN ?_ _) | (with_reducible refine below_step (by assumption) ?_ ?_) | (with_reducible refine Below.alloc ?_ ?_ _) | (with_reducible refine Below.setCell ?_ ?_ _) | (with_reducible refine Below.drew ?_) | go_size | (exact Below.size (by assumption)) | (refine Nat.le_trans (Below.size (by assumption)) ?_)))⟩
          case rest =>
            obtain ⟨rfl, hB4⟩ := hcut
            clear hB3
            by_cases hn : p < 0
            · have hd : decide (p < 0) = true := decide_eq_true hn
              go_wp2
              go_ret2
              exact ⟨ret_si (by rw [cut_one H3.out, HT.out, if_pos hn, bytes_lit1, bytes_app2]; rfl), (by repeat' (first | (with_reducible exact Below.refl _ _) | (with_reducible assumption) | (with_reducible refine below_drewN ?_ _) | (with_reducible refine below_step (by assumption) ?_ ?_) | (with_reducible refine Below.alloc ?_ ?_ _) | (with_reducible refine Below.setCell ?_ ?_ _) | (with_reducible refine Below.drew ?_) | go_size | (exact Below.size (by assumption)) | (refine Nat.le_trans (Below.size (by assumption)) ?_)))⟩
            · have hd : decide (p < 0) = false := decide_eq_false hn
              go_wp2
              go_ret2
              exact ⟨ret_si (by rw [cut_one H3.out, HT.out, if_neg (by omega)]), (by repeat' (first | (with_reducible exact Below.refl _ _) | (with_reducible assumption) | (with_reducible refine below_drewN ?_ _) | (with_reducible refine below_step (by assumption) ?_ ?_) | (with_reducible refine Below.alloc ?_ ?_ _) | (with_reducible refine Below.setCell ?_ ?_ _) | (with_reducible refine Below.drew ?_) | go_size | (exact Below.size (by assumption)) | (refine Nat.le_trans (Below.size (by assumption)) ?_)))⟩
end Go.Proofs.YtaadelcmhbgpnaaGreatDoor
/-
  ParseMoney, THE REFERENCE'S.
-/
namespace Go.Proofs.YtaadelcmhbgpnaaGreatDoor
open Go.RowKit Go.Lib
def OutM (w : World) (t : List UInt8) (e : Ending) (w' : World) : Prop := ∃ p z, e = .returned (.tuple #[.int .i64 p, .int .i64 z]) ∧ PrsM t p z ∧ Below w.heap.size w w'
/-- The sign of a text. -/
def sgn (t : List UInt8) : Int := if t.head? = some 45 then -1 else 1
theorem sgn_cases (t : List UInt8) : sgn t = 1 ∨ sgn t = -1 := by unfold sgn; split <;> simp
theorem own_signed {a : Int} {t : List UInt8} (h0 : -1099511627776 ≤ a) (h1 : a ≤ 1099511627776) (h : moneyT a = t) : sgn t * sumW (splitL 32 (bdy t)) = a := by
  have := own_sum h0 h1 h
  unfold sgn
  split
  · rw [if_pos (by assumption)] at this; omega
  · rw [if_neg (by assumption)] at this; omega
theorem own_piece {a : Int} {t : List UInt8} {xs : List ByteArray} (hm : xs.map (·.data.toList) = splitL 32 (bdy t)) (h0 : -1099511627776 ≤ a) (h1 : a ≤ 1099511627776) (h : moneyT a = t) :
    xs.length ≤ 3 ∧ ∀ x ∈ xs, ∃ (v : Nat) (u : UInt8), x.data.toList = itoa (v : Int) ++ [u] ∧ v ≤ 1099511627776 ∧ (u = 108 ∨ u = 115 ∨ u = 100) ∧ 2 ≤ x.size ∧ x.size ≤ 14 := by
  obtain ⟨e, -⟩ := own_words h0 h1 h
  rw [e] at hm
  refine ⟨?_, fun x hx => ?_⟩
  · have := congrArg List.length hm
    have := words_len a.natAbs
    simp at *; omega
  · obtain ⟨v, u, g1, g2, g3, g4, g5⟩ := words_good (n := a.natAbs) (by omega) x.data.toList (by rw [← hm]; exact List.mem_map.2 ⟨x, hx, rfl⟩)
    exact ⟨v, u, g1, g2, g3, by simpa using g4, by simpa using g5⟩
theorem prsM_no {t : List UInt8} (h : ∀ a, -1099511627776 ≤ a → a ≤ 1099511627776 → moneyT a ≠ t) : PrsM t 0 3 := .inr ⟨rfl, rfl, h⟩
/-- A string is all but its last byte, and that. -/
theorem last_app (x : ByteArray) (h : 0 < x.size) : x.data.toList = (x.extract 0 (x.size - 1)).data.toList ++ [x[x.size - 1]] := by
  have e := ext_list x 0 (x.size - 1)
  rw [List.drop_zero, Nat.sub_zero] at e
  have hk : x.size - 1 < x.data.toList.length := by simp; omega
  have := List.take_succ_eq_append_getElem hk
  rw [show x.size - 1 + 1 = x.data.toList.length by simp; omega, List.take_length] at this
  rw [e]
  conv => lhs; rw [this]
  rfl
theorem sumW_take {xs : List ByteArray} {k : Nat} (h : k < xs.length) : sumW ((xs.take (k + 1)).map (·.data.toList)) = sumW ((xs.take k).map (·.data.toList)) + wval xs[k].data.toList := by
  rw [List.take_succ_eq_append_getElem h, List.map_append, ← sumW_snoc]; rfl
theorem bdy_yes {s : ByteArray} (h : s.data.toList.head? = some 45) : (s.extract 1 s.size).data.toList = bdy s.data.toList := by
  rw [ext_list, bdy, if_pos h, List.take_of_length_le (by simp)]
theorem bdy_no {t : List UInt8} (h : t.head? ≠ some 45) : bdy t = t := by rw [bdy, if_neg h]
theorem head_yes {s : ByteArray} (h : s.data.toList.head? = some 45) : ∃ h0 : 0 < s.size, s[0] = 45 := by
  have hp : 0 < s.size := by
    rcases Nat.eq_zero_or_pos s.size with e | e
    · have : s.data.toList = [] := by
        apply List.eq_nil_of_length_eq_zero; simpa using e
      rw [this] at h; simp at h
    · exact e
  refine ⟨hp, ?_⟩
  rw [List.head?_eq_getElem?, at_list s 0 hp] at h
  injection h
theorem head_no {s : ByteArray} (h : s.data.toList.head? ≠ some 45) (h0 : 0 < s.size) : s[0] ≠ 45 := by
  intro e
  apply h
  rw [List.head?_eq_getElem?, at_list s 0 h0, e]
set_option maxRecDepth 100000 in
set_option maxHeartbeats 2000000 in
theorem rparseMoney_any (s : ByteArray) (hs : s.size ≤ 900000) (w : World) :
    Calls Tryz.prog 72 #[.string s] w (OutM w s.data.toList) := by
  obtain ⟨t, ht⟩ : ∃ t, t = s.data.toList := ⟨_, rfl⟩
  have HT := Lib.hid ht
  obtain ⟨sg, hsg⟩ : ∃ sg, sg = sgn s.data.toList := ⟨_, rfl⟩
  have hsg2 : sg = 1 ∨ sg = -1 := by rw [hsg]; exact sgn_cases _
  have HSG := Lib.hid hsg
  rw [← ht]
  clear ht hsg
  go_enter Tryz.func72, Tryz.ntmps72
  obtain ⟨g, hg⟩ : ∃ g, g = decide (s.data.toList.head? = some 45) := ⟨_, rfl⟩
  have HG := Lib.hid hg
  clear hg
  go_upto_region 2 with fail
  go_cut [23] (fun v wx => v = .bool g ∧ wx = w)
  case first =>
    by_cases hh : s.data.toList.head? = some 45
    · obtain ⟨h0, he⟩ := head_yes hh
      have d0 : decide (0 < s.size) = true := decide_eq_true h0
      have e0 : ((s[0].toNat : Int) == 45) = true := by rw [he]; decide
      obtain rfl : g = true := by rw [HG.out]; exact decide_eq_true hh
      clear hh he
      go_wp2_with fail
      go_meet
      exact ⟨rfl, rfl⟩
    · obtain rfl : g = false := by rw [HG.out]; exact decide_eq_false hh
      by_cases h0 : 0 < s.size
      · have d0 : decide (0 < s.size) = true := decide_eq_true h0
        have e0 : ((s[0].toNat : Int) == 45) = false := by
          rw [beq_eq_false_iff_ne]
          intro e
          exact head_no hh h0 (UInt8.toNat.inj (by show s[0].toNat = 45; omega))
        clear hh
        go_wp2_with fail
        go_meet
        exact ⟨rfl, rfl⟩
      · have d0 : decide (0 < s.size) = false := decide_eq_false h0
        clear hh
        go_wp2_with fail
        go_meet
        exact ⟨rfl, rfl⟩
  case rest =>
  obtain ⟨rfl, hwx⟩ := hcut
  rw [hwx]
  clear hwx
  go_upto_if 23 with fail
  go_cut [4, 5] (fun v u wx => ∃ b : ByteArray, v = .string b ∧ u = .int .i64 sg ∧ wx = w ∧ b.size ≤ 900000 ∧ b.data.toList = bdy t)
  case first =>
    cases g
    · have hh : ¬ s.data.toList.head? = some 45 := of_decide_eq_false HG.out.symm
      have hg : sg = 1 := by rw [HSG.out, sgn, if_neg hh]
      subst hg
      have hb : s.data.toList = bdy t := by rw [HT.out, bdy_no hh]
      have HB := Lib.hid hb
      clear hb hh
      go_wp2_with fail
      go_meet
      exact ⟨_, rfl, rfl, rfl, hs, HB.out⟩
    · have hh : s.data.toList.head? = some 45 := of_decide_eq_true HG.out.symm
      obtain ⟨h0, -⟩ := head_yes hh
      have hb := bdy_yes hh
      have hg : sg = -1 := by rw [HSG.out, sgn, if_pos hh]
      have HB := Lib.hid hb
      subst hg
      clear hb hh
      go_wp2_with fail
      go_meet
      exact ⟨_, rfl, rfl, rfl, by simp; omega, by rw [HB.out, HT.out]⟩
  case rest =>
    obtain ⟨b, rfl, rfl, hwx, hbs, hbd⟩ := hcut
    rw [hwx]
    clear hwx
    have HBD := Lib.hid hbd
    clear hbd
    go_wp2_with fail
    refine (split_any b 32 hbs _).mono ?_
    rintro e w1 ⟨A, c, xs, rfl, hI, hm, hb1⟩
    rw [HBD.out] at hm
    have HM := Lib.hid hm
    have hsz : ∀ x ∈ xs, x.size ≤ 900000 := by
      intro x hx
      have := splitL_len 32 (bdy t) x.data.toList (by rw [← hm]; exact List.mem_map.2 ⟨x, hx, rfl⟩)
      rw [← HBD.out] at this
      simp at this; omega
    have HI := Lib.hid hI
    have HB1 := Lib.hid hb1
    have HSZ := Lib.hid hsz
    have OP := fun a h0 h1 h => own_piece (a := a) HM.out h0 h1 h
    have HOP := Lib.hid OP
    clear hm hI hb1 hsz OP
    go_wp2
    go_loopw [7, 8] (fun v i wr => ∃ (S : Int) (k : Nat), v = .int .i64 S ∧ i = .int .i64 k ∧ k ≤ xs.length ∧ k ≤ 4 ∧ 0 ≤ S ∧ S ≤ k * 263882790666240 ∧ Hid (Below w1.heap.size w1 wr ∧ S = sumW ((xs.take k).map (·.data.toList)))) (fun _ i _ => 4 - (intOf i).toNat)
    case atStart => exact ⟨0, 0, rfl, rfl, by omega, by omega, by omega, by omega, Below.refl _ _, by simp [sumW]⟩
    case round =>
      obtain ⟨S, k, rfl, rfl, hk, hk4, hS0, hS1, hr⟩ := hrel
      by_cases hlt : k < xs.length ∧ k < 4
      · obtain ⟨hlt, hlt4⟩ := hlt
        have hI := HI.out.below hr.out.1
        obtain ⟨gb, go, rfl, hgb, hcell⟩ := hI.2 (by omega)
        have q0 := hcell k hlt
        obtain ⟨x, hx⟩ : ∃ x, xs[k] = x := ⟨_, rfl⟩
        rw [hx] at q0
        have hxs := HSZ.out x (by rw [← hx]; exact List.getElem_mem _)
        have hxm : x ∈ xs := by rw [← hx]; exact List.getElem_mem _
        have hso := sumW_take hlt
        rw [hx, ← hr.out.2] at hso
        have HSO := Lib.hid hso
        have HXM := Lib.hid hxm
        clear hcell hI hso hxm hx
        by_cases h2 : x.size < 2
        · have HP : Hid (PrsM t 0 3) := prsM_no fun a h0 h1 h => by
            obtain ⟨-, h3⟩ := HOP.out a h0 h1 h
            obtain ⟨v, u, -, -, -, h4, -⟩ := h3 x HXM.out
            omega
          go_wp2
          go_ret2
          exact ⟨0, 3, rfl, HP.out, HB1.out.trans (hr.out.1.mono HB1.out.size)⟩
        · have hla := last_app x (by omega)
          obtain ⟨u, hu⟩ : ∃ u, x[x.size - 1] = u := ⟨_, rfl⟩
          rw [hu] at hla
          have HLA := Lib.hid hla
          clear hla
          go_wp2_with fail
          refine (number_any _ (by simp; omega) _).mono ?_
          rintro e w2 ⟨n, b2, rfl, hn1, hn2, hn3, hn4, hb2⟩
          have HN3 := Lib.hid hn3
          have HN4 := Lib.hid hn4
          clear hn3 hn4
          go_upto_region 13 with fail
          go_cut [63] (fun v wx => v = .bool (!b2 || (decide (n < 0) || decide (1099511627776 < n))) ∧ wx = w2)
          case first =>
            cases b2
            · go_wp2_with fail
              go_meet
              exact ⟨rfl, rfl⟩
            · by_cases e1 : n < 0
              · have d1 : decide (n < 0) = true := decide_eq_true e1
                go_wp2_with fail
                go_meet
                exact ⟨by rw [d1]; rfl, rfl⟩
              · have d1 : decide (n < 0) = false := decide_eq_false e1
                go_wp2_with fail
                go_meet
                exact ⟨by rw [d1]; rfl, rfl⟩
          case rest =>
            obtain ⟨rfl, hwx⟩ := hcut
            rw [hwx]
            clear hwx
            by_cases hok : b2 = true ∧ 0 ≤ n ∧ n ≤ 1099511627776
            case neg =>
              have hgg : (!b2 || (decide (n < 0) || decide (1099511627776 < n))) = true := by
                cases b2
                · rfl
                · simp at hok ⊢; omega
              have HP : Hid (PrsM t 0 3) := prsM_no fun a h0 h1 h => by
                obtain ⟨-, h3⟩ := HOP.out a h0 h1 h
                obtain ⟨v, u', g1, g2, -⟩ := h3 x HXM.out
                have := List.append_inj' (HLA.out.symm.trans g1) rfl
                obtain ⟨g3, g4⟩ := HN4.out v (by omega) (by omega) this.1
                exact hok ⟨g3, by omega, by omega⟩
              rw [hgg]
              have B2 := Lib.hid (HB1.out.trans ((hr.out.1.trans (hb2.mono hr.out.1.size)).mono HB1.out.size))
              clear hgg hok
              go_wp2
              go_ret2
              exact ⟨0, 3, rfl, HP.out, B2.out⟩
            case pos =>
            obtain ⟨rfl, ok1, ok2⟩ := hok
            have hgg : (!true || (decide (n < 0) || decide (1099511627776 < n))) = false := by simp; omega
            rw [hgg]
            clear hgg
            have hw : wval x.data.toList = if u = 108 then 240 * n else if u = 115 then 12 * n else if u = 100 then n else 0 := by
              rw [HLA.out]
              exact wval_ok (by rw [HN3.out rfl]; exact atoi_itoa n (by omega) (by omega))
            have HW := Lib.hid hw
            have B2 := Lib.hid (hr.out.1.trans (hb2.mono hr.out.1.size))
            clear hw hb2
            have nq : ∀ c : UInt8, u ≠ c → ((x[x.size - 1].toNat : Int) == (c.toNat : Int)) = false := fun c h => by
              rw [hu, beq_eq_false_iff_ne]
              intro e
              exact h (UInt8.toNat.inj (by omega))
            by_cases e1 : u = 108
            · have q1 : ((x[x.size - 1].toNat : Int) == 108) = true := by rw [hu, e1]; decide
              have hS : S + 240 * n = sumW ((xs.take (k + 1)).map (·.data.toList)) := by rw [HSO.out, HW.out, if_pos e1]
              have HS := Lib.hid hS
              clear nq hu e1 hS
              go_wp2
              go_roundw
              case rel => exact ⟨S + 240 * n, k + 1, by go_num, by go_num, by omega, by omega, by omega, by omega, B2.out, HS.out⟩
              case measure => simp [intOf]; omega
            · have q1 : ((x[x.size - 1].toNat : Int) == 108) = false := nq 108 e1
              by_cases e2 : u = 115
              · have q2 : ((x[x.size - 1].toNat : Int) == 115) = true := by rw [hu, e2]; decide
                have hS : S + 12 * n = sumW ((xs.take (k + 1)).map (·.data.toList)) := by rw [HSO.out, HW.out, if_neg e1, if_pos e2]
                have HS := Lib.hid hS
                clear nq hu e1 e2 hS
                go_wp2
                go_roundw
                case rel => exact ⟨S + 12 * n, k + 1, by go_num, by go_num, by omega, by omega, by omega, by omega, B2.out, HS.out⟩
                case measure => simp [intOf]; omega
              · have q2 : ((x[x.size - 1].toNat : Int) == 115) = false := nq 115 e2
                by_cases e3 : u = 100
                · have q3 : ((x[x.size - 1].toNat : Int) == 100) = true := by rw [hu, e3]; decide
                  have hS : S + n = sumW ((xs.take (k + 1)).map (·.data.toList)) := by rw [HSO.out, HW.out, if_neg e1, if_neg e2, if_pos e3]
                  have HS := Lib.hid hS
                  clear nq hu e1 e2 e3 hS
                  go_wp2
                  go_roundw
                  case rel => exact ⟨S + n, k + 1, by go_num, by go_num, by omega, by omega, by omega, by omega, B2.out, HS.out⟩
                  case measure => simp [intOf]; omega
                · have q3 : ((x[x.size - 1].toNat : Int) == 100) = false := nq 100 e3
                  have HP : Hid (PrsM t 0 3) := prsM_no fun a h0 h1 h => by
                    obtain ⟨-, h3⟩ := HOP.out a h0 h1 h
                    obtain ⟨v, u', g1, g2, g3, -⟩ := h3 x HXM.out
                    have := List.append_inj' (HLA.out.symm.trans g1) rfl
                    have hu' : u = u' := by simpa using this.2
                    subst hu'
                    rcases g3 with g3 | g3 | g3
                    · exact e1 g3
                    · exact e2 g3
                    · exact e3 g3
                  have B3 := Lib.hid (HB1.out.trans (B2.out.mono HB1.out.size))
                  clear nq hu e1 e2 e3
                  go_wp2
                  go_ret2
                  exact ⟨0, 3, rfl, HP.out, B3.out⟩
      · have hex : (¬ k < xs.length) ∨ (k < xs.length ∧ ¬ k < 4) := by omega
        have cp : ∀ a, -1099511627776 ≤ a → a ≤ 1099511627776 → moneyT a = t → sg * S = a := by
          intro a h0 h1 h
          obtain ⟨h3, -⟩ := HOP.out a h0 h1 h
          have hk' : k = xs.length := by omega
          have := own_signed h0 h1 h
          rw [← HM.out] at this
          rw [HSG.out, ← HT.out, hr.out.2, hk', List.take_of_length_le (Nat.le_refl _)]
          exact this
        have hsb : -1055531162664960 ≤ sg * S ∧ sg * S ≤ 1055531162664960 := by
          rcases hsg2 with rfl | rfl <;> omega
        obtain ⟨V, hV⟩ : ∃ V, V = sg * S := ⟨_, rfl⟩
        rw [← hV] at cp hsb
        have CP := Lib.hid cp
        have hVV : sg * S = V := hV.symm
        have B2 := Lib.hid (HB1.out.trans (hr.out.1.mono HB1.out.size))
        clear cp hV hlt
        by_cases hr1 : -1099511627776 ≤ V ∧ V ≤ 1099511627776
        · obtain ⟨r1, r2⟩ := hr1
          by_cases hq : moneyT V = t
          · have HP : Hid (PrsM t V 0) := .inl ⟨rfl, r1, r2, hq⟩
            have q1 : (moneyT V == s.toList) = true := by rw [Lib.toList_data, ← HT.out, hq]; simp
            have q2 : (moneyT V != s.toList) = false := by rw [Lib.toList_data, ← HT.out, hq]; simp
            clear hq CP
            rcases hex with hex | ⟨hex, hex2⟩
            all_goals
              go_wp2_with fail
              refine (rformatMoney_yes V r1 r2 _).mono ?_
              rintro e w5 ⟨rfl, hb5⟩
              go_wp2
              go_ret2
              exact ⟨V, 0, rfl, HP.out, B2.out.trans (hb5.mono B2.out.size)⟩
          · have HP : Hid (PrsM t 0 3) := prsM_no fun a h0 h1 h => by
              have := CP.out a h0 h1 h
              subst this
              exact hq h
            have q1 : (moneyT V == s.toList) = false := by rw [Lib.toList_data, ← HT.out, beq_eq_false_iff_ne]; exact hq
            have q2 : (moneyT V != s.toList) = true := by rw [Lib.toList_data, ← HT.out, bne_iff_ne]; exact hq
            clear hq CP
            rcases hex with hex | ⟨hex, hex2⟩
            all_goals
              go_wp2_with fail
              refine (rformatMoney_yes V r1 r2 _).mono ?_
              rintro e w5 ⟨rfl, hb5⟩
              go_wp2
              go_ret2
              exact ⟨0, 3, rfl, HP.out, B2.out.trans (hb5.mono B2.out.size)⟩
        · have HP : Hid (PrsM t 0 3) := prsM_no fun a h0 h1 h => by
            have := CP.out a h0 h1 h
            subst this
            exact hr1 ⟨h0, h1⟩
          have r3 : V < -1099511627776 ∨ 1099511627776 < V := by omega
          have R3 := Lib.hid r3
          clear r3 hr1 CP
          rcases hex with hex | ⟨hex, hex2⟩
          all_goals
            go_wp2_with fail
            refine (rformatMoney_no V R3.out (by omega) (by omega) _).mono ?_
            rintro e w5 ⟨rfl, hb5⟩
            go_wp2
            go_ret2
            exact ⟨0, 3, rfl, HP.out, B2.out.trans (hb5.mono B2.out.size)⟩
end Go.Proofs.YtaadelcmhbgpnaaGreatDoor
