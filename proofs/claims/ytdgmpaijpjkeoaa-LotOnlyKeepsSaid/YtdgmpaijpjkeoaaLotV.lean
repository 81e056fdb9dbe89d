/-
  WHICH GENEALOGIES ARE VALID: PLAIN.
-/
import Derived.Test.YtdgmpaijpjkeoaaLotM
namespace Go.Proofs.Ytdgmpaijpjkeoaa
/-- A lot: its kind, its mass, its parts (the number of a lot, a mass). -/
structure LotD where
  kind : Int
  mass : Int
  parts : List (Int × Int)
deriving Inhabited
def sumP (ps : List (Int × Int)) : Int := (ps.map (·.2)).sum
theorem sumP_snoc (ps : List (Int × Int)) (p : Int × Int) : sumP (ps ++ [p]) = sumP ps + p.2 := by simp [sumP]
/-- The k-th part of the i-th lot is wrong: pre are the parts before it. -/
def badP (i : Nat) (pre : List (Int × Int)) (p : Int × Int) : Bool :=
  decide (p.1 < 0) || decide ((i : Int) ≤ p.1) || decide (p.2 < 1) || decide (100000 < p.2) || pre.any fun q => q.1 == p.1
def badPs (i : Nat) (pre : List (Int × Int)) : List (Int × Int) → Bool
  | [] => false
  | p :: r => badP i pre p || badPs i (pre ++ [p]) r
def kindOf (l : List LotD) (n : Int) : Int := (l.getD n.toNat default).kind
/-- One of the parts is oil. -/
def oily (l : List LotD) (ps : List (Int × Int)) : Bool := ps.any fun p => kindOf l p.1 == 0
/-- The error of the i-th lot, which is x. -/
def lotE (l : List LotD) (i : Nat) (x : LotD) : Int :=
  if x.kind < 0 ∨ 8 ≤ x.kind ∨ x.mass < 1 ∨ 100000 < x.mass then 1
  else if 6 < x.parts.length then 4
  else if badPs i [] x.parts = true then 1
  else if x.parts.length = 0 then (if x.kind = 5 ∨ x.kind = 6 ∨ x.kind = 7 then 9 else 0)
  else if sumP x.parts < x.mass ∧ ¬ (x.kind = 5 ∧ oily l x.parts = true) then 9 else 0
/-- The first error of the lots from the i-th on. -/
def lotsE (l : List LotD) : Nat → List LotD → Int
  | _, [] => 0
  | i, x :: r => if lotE l i x = 0 then lotsE l (i + 1) r else lotE l i x
/-- What is taken from the lot n by some parts. -/
def takenP (n : Nat) (ps : List (Int × Int)) : Int := ((ps.filter fun p => p.1 == (n : Int)).map (·.2)).sum
theorem takenP_snoc (n : Nat) (ps : List (Int × Int)) (p : Int × Int) : takenP n (ps ++ [p]) = takenP n ps + (if p.1 = n then p.2 else 0) := by
  unfold takenP
  rw [List.filter_append, List.map_append, List.sum_append]
  by_cases h : p.1 = n
  · simp [h]
  · simp [h]
def takenL (n : Nat) (l : List LotD) : Int := (l.map fun x => takenP n x.parts).sum
theorem takenL_snoc (n : Nat) (l : List LotD) (x : LotD) : takenL n (l ++ [x]) = takenL n l + takenP n x.parts := by simp [takenL]
/-- What is left of the lot n. -/
def leftL (l : List LotD) (n : Nat) : Int := (l.getD n default).mass - takenL n l
/-- One of the lots is short. -/
def shortL (l : List LotD) : Bool := (List.range l.length).any fun n => decide (leftL l n < 0)
def valE (l : List LotD) : Int := if 24 < l.length then 4 else if lotsE l 0 l ≠ 0 then lotsE l 0 l else if shortL l = true then 6 else 0
/-- A lot without errors. -/
structure GoodLot (l : List LotD) (i : Nat) (x : LotD) : Prop where
  kind0 : 0 ≤ x.kind
  kind1 : x.kind < 8
  mass0 : 1 ≤ x.mass
  mass1 : x.mass ≤ 100000
  plen : x.parts.length ≤ 6
  part : ∀ p ∈ x.parts, 0 ≤ p.1 ∧ p.1 < i ∧ 1 ≤ p.2 ∧ p.2 ≤ 100000
theorem badPs_false {i : Nat} : ∀ {ps pre : List (Int × Int)}, badPs i pre ps = false → ∀ p ∈ ps, 0 ≤ p.1 ∧ p.1 < i ∧ 1 ≤ p.2 ∧ p.2 ≤ 100000
  | [], _, _, p, hp => by simp at hp
  | q :: r, pre, h, p, hp => by
    simp only [badPs, Bool.or_eq_false_iff] at h
    rcases List.mem_cons.1 hp with rfl | hp
    · have h1 := h.1
      simp only [badP, Bool.or_eq_false_iff, decide_eq_false_iff_not] at h1
      omega
    · exact badPs_false h.2 p hp
theorem lotE_zero {l : List LotD} {i : Nat} {x : LotD} (h : lotE l i x = 0) : GoodLot l i x := by
  unfold lotE at h
  split at h
  · cases h
  · split at h
    · cases h
    · split at h
      · cases h
      · rename_i h1 h2 h3
        have h4 := badPs_false (show badPs i [] x.parts = false by simpa using h3)
        exact ⟨by omega, by omega, by omega, by omega, by omega, h4⟩
theorem lotsE_zero {l : List LotD} : ∀ {r : List LotD} {i : Nat}, lotsE l i r = 0 → ∀ k (hk : k < r.length), GoodLot l (i + k) r[k]
  | [], _, _, k, hk => by simp at hk
  | x :: r, i, h, k, hk => by
    simp only [lotsE] at h
    split at h
    · rename_i h0
      cases k with
      | zero => exact lotE_zero h0
      | succ k =>
        have := lotsE_zero h k (by simpa using hk)
        rw [show i + 1 + k = i + (k + 1) by omega] at this
        exact this
    · contradiction
/-- A valid genealogy. -/
structure GoodL (l : List LotD) : Prop where
  len : l.length ≤ 24
  lot : ∀ k (hk : k < l.length), GoodLot l k l[k]
  left : ∀ n, n < l.length → 0 ≤ leftL l n
theorem valE_zero {l : List LotD} (h : valE l = 0) : GoodL l := by
  unfold valE at h
  split at h
  · cases h
  · split at h
    · contradiction
    · split at h
      · cases h
      · rename_i h1 h2 h3
        refine ⟨by omega, fun k hk => ?_, fun n hn => ?_⟩
        · have := lotsE_zero (l := l) (r := l) (i := 0) (by simpa using h2) k hk
          rwa [Nat.zero_add] at this
        · have h4 : shortL l = false := by simpa using h3
          unfold shortL at h4
          rw [List.any_eq_false] at h4
          have := h4 n (by simpa using hn)
          simpa using this
theorem sumP_bd {ps : List (Int × Int)} (h : ∀ p ∈ ps, 1 ≤ p.2 ∧ p.2 ≤ 100000) : 0 ≤ sumP ps ∧ sumP ps ≤ 100000 * ps.length := by
  induction ps with
  | nil => simp [sumP]
  | cons p r ih =>
    have h1 := h p (by simp)
    have h2 := ih (fun q hq => h q (by simp [hq]))
    have e : sumP (p :: r) = p.2 + sumP r := rfl
    rw [e, List.length_cons]
    omega
theorem sumP_pos {ps : List (Int × Int)} (h : ∀ p ∈ ps, 1 ≤ p.2 ∧ p.2 ≤ 100000) (hne : ps ≠ []) : 1 ≤ sumP ps := by
  cases ps with
  | nil => exact absurd rfl hne
  | cons p r =>
    have h1 := h p (by simp)
    have h2 := sumP_bd (fun q hq => h q (List.mem_cons_of_mem _ hq))
    have e : sumP (p :: r) = p.2 + sumP r := rfl
    omega
/-- What is taken from one lot by some parts is no more than all that they take. -/
theorem takenP_bd {n : Nat} {ps : List (Int × Int)} (h : ∀ p ∈ ps, 1 ≤ p.2 ∧ p.2 ≤ 100000) : 0 ≤ takenP n ps ∧ takenP n ps ≤ 100000 * ps.length := by
  induction ps with
  | nil => simp [takenP]
  | cons p r ih =>
    have h1 := h p (by simp)
    have h2 := ih (fun q hq => h q (by simp [hq]))
    have e : takenP n (p :: r) = (if p.1 = n then p.2 else 0) + takenP n r := by
      unfold takenP
      by_cases hp : p.1 = n
      · simp [hp]
      · simp [hp]
    rw [e, List.length_cons]
    split <;> omega
end Go.Proofs.Ytdgmpaijpjkeoaa
