/-
  TEXTS IN PIECES: PLAIN (for seats without the texts of fractions and money).
-/
import Derived.Test.YtlinldbbhdpgcaaGreatDoorTxtE
import Derived.Lib.SplitLaws
import Derived.Lib.Join
namespace Go.Proofs.YtlinldbbhdpgcaaGreatDoor
open Go.RowKit Go.Lib
/-- Split at one byte is the reference's Split. -/
theorem split_one (c : UInt8) : ∀ l : List UInt8, splitK [c] 0 (count l [c]) l = splitL c l
  | [] => by rw [count_miss (by simp [index])]; rfl
  | b :: l => by
    have ih := split_one c l
    by_cases h : b = c
    · subst h
      have hix : index (b :: l) [b] = 0 := by rw [index]; simp [List.isPrefixOf]
      rw [count_cons_eq, Nat.add_comm, splitK, hix, if_neg (by decide)]
      simp only [splitL, if_true]
      rw [← ih]; simp
    · rw [count_cons_ne b c l h]
      have hp : ([c] : List UInt8).isPrefixOf (b :: l) = false := by simp [List.isPrefixOf, Ne.symm h]
      have hix : index (b :: l) [c] = if index l [c] == -1 then -1 else index l [c] + 1 := by rw [index, hp]; simp
      simp only [splitL, if_neg h]
      by_cases hm : index l [c] = -1
      · rw [count_miss hm] at ih ⊢
        rw [← ih]; rfl
      · have hge := index_ge l [c]
        obtain ⟨j, hj⟩ : ∃ j : Nat, index l [c] = j := ⟨(index l [c]).toNat, by omega⟩
        rw [count_hit (by simp) hj, Nat.add_comm] at ih ⊢
        rw [splitK, hj, if_neg (by simp)] at ih
        rw [splitK, hix, if_neg (by rw [hj]; simp; omega), if_neg (by rw [hj]; simp), hj, ← ih]
        simp [show ((j : Int) + 1).toNat = j + 1 by omega]
theorem splitB_one (s : ByteArray) (c : UInt8) : (splitB ⟨#[c]⟩ 0 (countB s ⟨#[c]⟩) s).map (·.data.toList) = splitL c s.data.toList := by
  rw [splitB_data, ← split_one]
theorem splitL_none {b : UInt8} {l : List UInt8} (h : b ∉ l) : splitL b l = [l] := by
  induction l with
  | nil => rfl
  | cons c r ih =>
    simp only [List.mem_cons, not_or] at h
    have hc : ¬ c = b := fun e => h.1 e.symm
    simp only [splitL, if_neg hc, ih h.2]
theorem splitL_app {b : UInt8} {l : List UInt8} (h : b ∉ l) (r : List UInt8) : splitL b (l ++ b :: r) = l :: splitL b r := by
  induction l with
  | nil => simp [splitL]
  | cons c l ih =>
    simp only [List.mem_cons, not_or] at h
    have hc : ¬ c = b := fun e => h.1 e.symm
    simp only [List.cons_append, splitL, if_neg hc, ih h.2]
theorem splitL_join {b : UInt8} : ∀ (ws : List (List UInt8)), ws ≠ [] → (∀ x ∈ ws, b ∉ x) → splitL b (join ws [b]) = ws
  | [], h, _ => absurd rfl h
  | [x], _, h => by rw [join_one]; exact splitL_none (h x (by simp))
  | x :: y :: r, _, h => by
    have ih := splitL_join (y :: r) (by simp) (fun z hz => h z (by simp at hz ⊢; exact .inr hz))
    have e : join (x :: y :: r) [b] = x ++ b :: join (y :: r) [b] := by
      rw [join_cons, join_cons]; simp [joinTail]
    rw [e, splitL_app (h x (by simp)), ih]
theorem splitL_sum (b : UInt8) (l : List UInt8) : (splitL b l).flatten.length ≤ l.length := by
  induction l with
  | nil => simp [splitL]
  | cons c r ih =>
    simp only [splitL]
    split
    · simp at ih ⊢; omega
    · split
      · simp
      · rename_i p ps hp
        rw [hp] at ih
        simp at ih ⊢; omega
/-- The bytes of decimal numbers. -/
theorem itoa_chars {v : Int} (h0 : -1000000000000000 < v) (h1 : v < 1000000000000000) : ∀ c ∈ itoa v, c = 45 ∨ 48 ≤ c.toNat ∧ c.toNat ≤ 57 := by
  intro c hc
  rcases itoa_shape h0 h1 rfl with ⟨h2, -, -, h3⟩ | ⟨-, -, -, h3⟩
  · rw [head_drop h2] at hc
    rcases List.mem_cons.1 hc with rfl | hc
    · exact .inl rfl
    · exact .inr (h3 c hc)
  · exact .inr (h3 c hc)
end Go.Proofs.YtlinldbbhdpgcaaGreatDoor
