/-
  Number, THE REFERENCE'S: what it reads. PLAIN, THEN THE WALK.
-/
import Derived.Test.YtclbjgelefbmlaaDoorTxtA
namespace Go.Proofs.YtclbjgelefbmlaaDoor
open Go.RowKit Go.Lib
/-- What the digits l come to behind acc. -/
def val (acc : Nat) (l : List UInt8) : Nat := l.foldl (fun a c => 10 * a + (c.toNat - 48)) acc
theorem val_snoc (acc : Nat) (l : List UInt8) (c : UInt8) : val acc (l ++ [c]) = 10 * val acc l + (c.toNat - 48) := by simp [val]
theorem val_parse : ∀ (l : List UInt8) (acc u : Nat), parseUint10 acc l = .ok u → val acc l = u ∧ ∀ c ∈ l, 48 ≤ c.toNat ∧ c.toNat ≤ 57
  | [], acc, u, h => by
    simp only [parseUint10] at h
    injection h with h
    exact ⟨h, by simp⟩
  | c :: r, acc, u, h => by
    simp only [parseUint10] at h
    split at h
    · rename_i hc
      split at h
      · cases h
      · split at h
        · cases h
        · obtain ⟨h1, h2⟩ := val_parse r _ u h
          refine ⟨?_, fun x hx => ?_⟩
          · rw [← h1]; simp only [val, List.foldl_cons]; rw [Nat.mul_comm acc 10]
          · rcases List.mem_cons.1 hx with rfl | hx
            · exact hc
            · exact h2 x hx
    · cases h
theorem val_dec (u : Nat) (h : u < 18446744073709551616) : val 0 (decDigits u) = u := (val_parse _ _ _ (parse_dec u h)).1
/-- A number whose numeral is the text: its sign, its digits. -/
theorem itoa_parts {v : Int} (h0 : -1000000000000000 < v) (h1 : v < 1000000000000000) : (v < 0 ∧ itoa v = 45 :: decDigits v.natAbs ∨ 0 ≤ v ∧ itoa v = decDigits v.natAbs) ∧ 1 ≤ (decDigits v.natAbs).length ∧ (decDigits v.natAbs).length ≤ 15 ∧ val 0 (decDigits v.natAbs) = v.natAbs := by
  refine ⟨?_, ?_, dec_length (k := 15) (by omega) (by omega), val_dec _ (by omega)⟩
  · by_cases hv : v < 0
    · exact .inl ⟨hv, by rw [itoa, if_pos hv]⟩
    · exact .inr ⟨by omega, by rw [itoa, if_neg hv, show v.toNat = v.natAbs by omega]⟩
  · rw [decDigits_length]; exact nDigits_pos _
theorem dec_head {u : Nat} {l : List UInt8} (h : 45 :: l = decDigits u) : False := by
  have := dec_all u 45 (by rw [← h]; simp)
  simp at this
/-- What Number gives of a text. -/
def OutN (w : World) (l : List UInt8) (e : Ending) (w' : World) : Prop :=
  ∃ (n : Int) (b : Bool), e = .returned (.tuple #[.int .i64 n, .bool b]) ∧ -1000000000000000 < n ∧ n < 1000000000000000 ∧ (b = true → l = itoa n) ∧ (∀ v, -1000000000000000 < v → v < 1000000000000000 → l = itoa v → b = true ∧ n = v) ∧ Below w.heap.size w w'
theorem OutN.no {w w' : World} {l : List UInt8} (h : ∀ v, -1000000000000000 < v → v < 1000000000000000 → l ≠ itoa v) (hb : Below w.heap.size w w') : OutN w l (.returned (.tuple #[.int .i64 0, .bool false])) w' :=
  ⟨0, false, rfl, by omega, by omega, (fun x => by cases x), fun v h1 h2 h3 => absurd h3 (h v h1 h2), hb⟩
/-- The text is a sign (or none) and digits that come to n. -/
theorem OutN.yes {w w' : World} {l d : List UInt8} {sg : Int} (hl : sg = 1 ∧ l = d ∧ l.head? ≠ some 45 ∨ sg = -1 ∧ l = 45 :: d) {n : Nat} (hn : n = val 0 d) (hn2 : n < 1000000000000000) (hb : Below w.heap.size w w') :
    OutN w l (.returned (.tuple #[.int .i64 (sg * n), .bool ((itoa (sg * n)) == l)])) w' := by
  refine ⟨sg * n, _, rfl, ?_, ?_, fun x => ?_, fun v h1 h2 h3 => ?_, hb⟩
  · rcases hl with ⟨rfl, -⟩ | ⟨rfl, -⟩ <;> omega
  · rcases hl with ⟨rfl, -⟩ | ⟨rfl, -⟩ <;> omega
  · exact (by simpa using x : itoa (sg * n) = l).symm
  · obtain ⟨p1, p2, p3, p4⟩ := itoa_parts h1 h2
    have e : sg * n = v := by
      rcases hl with ⟨rfl, rfl, hh⟩ | ⟨rfl, rfl⟩
      · rcases p1 with ⟨q1, q2⟩ | ⟨q1, q2⟩
        · rw [h3, q2] at hh; simp at hh
        · rw [h3, q2, p4] at hn; omega
      · rcases p1 with ⟨q1, q2⟩ | ⟨q1, q2⟩
        · rw [q2] at h3
          have := (List.cons.inj h3).2
          rw [this, p4] at hn; omega
        · rw [q2] at h3
          exact (dec_head h3).elim
    refine ⟨?_, e⟩
    rw [e, h3]; simp
theorem val_lt_acc : ∀ (l : List UInt8) (acc : Nat), (∀ c ∈ l, 48 ≤ c.toNat ∧ c.toNat ≤ 57) → val acc l < (acc + 1) * 10 ^ l.length
  | [], acc, _ => by simp [val]
  | c :: l, acc, h => by
    have hc := h c (by simp)
    have := val_lt_acc l (10 * acc + (c.toNat - 48)) (fun x hx => h x (by simp [hx]))
    have e : val acc (c :: l) = val (10 * acc + (c.toNat - 48)) l := rfl
    rw [e, List.length_cons, Nat.pow_succ]
    have h2 : (10 * acc + (c.toNat - 48) + 1) * 10 ^ l.length ≤ (10 * (acc + 1)) * 10 ^ l.length := Nat.mul_le_mul_right _ (by omega)
    rw [show (acc + 1) * (10 ^ l.length * 10) = (10 * (acc + 1)) * 10 ^ l.length by rw [Nat.mul_comm (10 ^ l.length) 10, ← Nat.mul_assoc, Nat.mul_comm (acc + 1) 10]]
    omega
theorem val_lt (l : List UInt8) (h : ∀ c ∈ l, 48 ≤ c.toNat ∧ c.toNat ≤ 57) : val 0 l < 10 ^ l.length := by
  have := val_lt_acc l 0 h
  omega
end Go.Proofs.YtclbjgelefbmlaaDoor
