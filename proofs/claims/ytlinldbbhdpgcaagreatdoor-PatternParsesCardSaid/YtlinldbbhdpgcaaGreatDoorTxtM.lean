/-
  NUMERALS: what is printed is read as what it was. PLAIN.
-/
import Derived.Test.YtlinldbbhdpgcaaGreatDoorProg
import Derived.Lib.ItoaNum
import Derived.Lib.ItoaLen
import Derived.Lib.AtoiAll
namespace Go.Proofs.YtlinldbbhdpgcaaGreatDoor
open Go.Lib
theorem dec_big {u : Nat} (h : ¬ u < 10) : decDigits u = decDigits (u / 10) ++ [UInt8.ofNat (48 + u % 10)] := by rw [decDigits, dif_neg h]
theorem dec_digit {d : Nat} (h : d < 10) : (UInt8.ofNat (48 + d)).toNat = 48 + d := by
  rw [UInt8.toNat_ofNat']; omega
theorem dec_all (u : Nat) : ∀ c ∈ decDigits u, 48 ≤ c.toNat ∧ c.toNat ≤ 57 := by
  induction u using Nat.strongRecOn with
  | _ u ih =>
    intro c hc
    by_cases h : u < 10
    · rw [decDigits_one h] at hc
      simp only [List.mem_singleton] at hc
      subst hc
      rw [dec_digit h]; omega
    · rw [dec_big h] at hc
      rcases List.mem_append.1 hc with hc | hc
      · exact ih (u / 10) (by omega) c hc
      · simp only [List.mem_singleton] at hc
        subst hc
        rw [dec_digit (show u % 10 < 10 by omega)]; omega
theorem dec_ne_nil (u : Nat) : decDigits u ≠ [] := by
  intro h
  have := nDigits_pos u
  rw [← decDigits_length, h] at this
  simp at this
theorem dec_length {u k : Nat} (h : u < 10 ^ k) (hk : 0 < k) : (decDigits u).length ≤ k := by
  rw [decDigits_length]
  induction k generalizing u with
  | zero => omega
  | succ k ih =>
    by_cases h9 : u < 10
    · rw [nDigits_small h9]; omega
    · rw [nDigits_big h9]
      have : 0 < k := by
        cases k with
        | zero => simp at h; omega
        | succ k => omega
      have := ih (u := u / 10) (by rw [Nat.pow_succ] at h; omega) this
      omega
theorem parse_app (l m : List UInt8) : ∀ acc, parseUint10 acc (l ++ m) = match parseUint10 acc l with | .ok a => parseUint10 a m | .syntax => .syntax | .range => .range := by
  induction l with
  | nil => intro acc; rfl
  | cons c l ih =>
    intro acc
    simp only [List.cons_append, parseUint10]
    split
    · split
      · rfl
      · split
        · rfl
        · exact ih _
    · rfl
theorem parse_dec (u : Nat) (h : u < 18446744073709551616) : parseUint10 0 (decDigits u) = .ok u := by
  induction u using Nat.strongRecOn with
  | _ u ih =>
    by_cases h9 : u < 10
    · rw [decDigits_one h9]
      simp only [parseUint10, dec_digit h9]
      rw [if_pos (by omega), if_neg (by omega), if_neg (by omega)]
      congr 1; omega
    · rw [dec_big h9, parse_app, ih (u / 10) (by omega) (by omega)]
      simp only [parseUint10, dec_digit (show u % 10 < 10 by omega)]
      rw [if_pos (by omega), if_neg (by omega), if_neg (by omega)]
      congr 1; omega
theorem mag_dec (u : Nat) (h : u < 18446744073709551616) : parseMag (decDigits u) = .ok u := by
  unfold parseMag; rw [if_neg (dec_ne_nil u), parse_dec u h]
theorem atoi_itoa (n : Int) (h0 : -9223372036854775808 ≤ n) (h1 : n ≤ 9223372036854775807) : atoiAll (itoa n) = .ok n := by
  unfold itoa
  by_cases hn : n < 0
  · rw [if_pos hn]
    unfold atoiAll
    simp only [show (45 : UInt8).toNat = 45 from rfl, or_true, if_true]
    rw [mag_dec _ (by omega)]
    simp only [not_true_eq_false, false_and, if_false, true_and]
    rw [if_neg (by omega)]
    congr 1; omega
  · rw [if_neg hn]
    have hne := dec_ne_nil n.toNat
    have hall := dec_all n.toNat
    have hm := mag_dec n.toNat (by omega)
    cases hd : decDigits n.toNat with
    | nil => exact absurd hd hne
    | cons c l =>
      have hc := hall c (by rw [hd]; simp)
      rw [hd] at hm
      unfold atoiAll
      simp only []
      rw [if_neg (by omega), hm]
      simp only [show ¬ c.toNat = 45 by omega, not_false_eq_true, true_and, false_and, if_false]
      rw [if_neg (by omega)]
      congr 1; omega
theorem itoa_inj {a b : Int} (h0 : -9223372036854775808 ≤ a) (h1 : a ≤ 9223372036854775807) (h2 : -9223372036854775808 ≤ b) (h3 : b ≤ 9223372036854775807) (h : itoa a = itoa b) : a = b := by
  have e1 := atoi_itoa a h0 h1
  have e2 := atoi_itoa b h2 h3
  rw [h, e2] at e1
  injection e1 with e1
  exact e1.symm
end Go.Proofs.YtlinldbbhdpgcaaGreatDoor
