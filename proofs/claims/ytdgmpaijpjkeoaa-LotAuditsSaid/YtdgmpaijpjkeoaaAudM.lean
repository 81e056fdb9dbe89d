/-
  THE AUDIT: PLAIN.
-/
import Derived.Test.YtdgmpaijpjkeoaaLotP
namespace Go.Proofs.Ytdgmpaijpjkeoaa
def recX (x : LotD) : Int := if x.parts.length = 0 then x.mass else 0
def recA (l : List LotD) : Int := (l.map recX).sum
def lossA (l : List LotD) : Int := (l.map fun x => max 0 (lostL x)).sum
def airA (l : List LotD) : Int := (l.map fun x => max 0 (-(lostL x))).sum
def leftA (l : List LotD) (k : Nat) : Int := ((List.range k).map (leftL l)).sum
def auditE (l : List LotD) : Int × Int × Int × Int × Int := if valE l ≠ 0 then (0, 0, 0, 0, valE l) else (recA l, leftA l l.length, lossA l, airA l, 0)
theorem five_inj {a b c d e f g h i j : Int} (hh : (a, b, c, d, e) = (f, g, h, i, j)) : a = f ∧ b = g ∧ c = h ∧ d = i ∧ e = j := by
  simpa only [Prod.mk.injEq] using hh
theorem msum_take {l : List LotD} (f : LotD → Int) {k : Nat} (hk : k < l.length) : ((l.take (k + 1)).map f).sum = ((l.take k).map f).sum + f l[k] := by
  rw [List.take_succ_eq_append_getElem hk]
  simp only [List.map_append, List.sum_append, List.map_cons, List.map_nil, List.sum_cons, List.sum_nil, Int.add_zero]
theorem leftA_succ (l : List LotD) (k : Nat) : leftA l (k + 1) = leftA l k + leftL l k := by
  unfold leftA
  rw [List.range_succ]
  simp only [List.map_append, List.sum_append, List.map_cons, List.map_nil, List.sum_cons, List.sum_nil, Int.add_zero]
theorem msum_bd (f : LotD → Int) (B : Int) (l : List LotD) (h : ∀ x ∈ l, 0 ≤ f x ∧ f x ≤ B) : 0 ≤ (l.map f).sum ∧ (l.map f).sum ≤ l.length * B := by
  induction l with
  | nil => simp
  | cons p r ih =>
    have h1 := h p (by simp)
    have h2 := ih fun q hq => h q (by simp [hq])
    rw [List.map_cons, List.sum_cons, List.length_cons, Int.natCast_add, Int.add_mul]
    simp only [Int.natCast_one, Int.one_mul]
    omega
theorem lost_bd {l : List LotD} {i : Nat} {x : LotD} (h : GoodLot l i x) : -100000 ≤ lostL x ∧ lostL x ≤ 600000 := by
  have h1 := h.sum
  have h2 := h.mass0
  have h3 := h.mass1
  unfold lostL
  split <;> omega
theorem sumP_nil {x : LotD} (h : x.parts.length = 0) : sumP x.parts = 0 := by
  rw [List.length_eq_zero_iff.1 h]
  rfl
section
variable {l : List LotD} (hg : GoodL l)
include hg
theorem leftL_bd {k : Nat} (hk : k < l.length) : 0 ≤ leftL l k ∧ leftL l k ≤ 100000 := by
  refine ⟨hg.left k hk, ?_⟩
  unfold leftL
  rw [getD_at' hk]
  have h1 := (hg.lot k hk).mass1
  have h2 := takenL_bd (l := l) (j := k) (fun x hx => GoodAll.mem hg.lot hx)
  omega
theorem leftA_bd {k : Nat} (hk : k ≤ l.length) : 0 ≤ leftA l k ∧ leftA l k ≤ 100000 * k := by
  induction k with
  | zero => simp [leftA]
  | succ k ih =>
    have h1 := ih (by omega)
    have h2 := leftL_bd hg (show k < l.length by omega)
    rw [leftA_succ]
    omega
theorem aud_bd {k : Nat} (hk : k ≤ l.length) : (0 ≤ recA (l.take k) ∧ recA (l.take k) ≤ 2400000) ∧ (0 ≤ lossA (l.take k) ∧ lossA (l.take k) ≤ 14400000) ∧ (0 ≤ airA (l.take k) ∧ airA (l.take k) ≤ 2400000) := by
  have hlen := hg.len
  have hmem : ∀ x ∈ l.take k, ∃ i, GoodLot l i x := fun x hx => by
    obtain ⟨i, hi, rfl⟩ := List.mem_iff_getElem.1 (List.mem_of_mem_take hx)
    exact ⟨i, hg.lot i hi⟩
  have h1 := msum_bd recX 100000 (l.take k) fun x hx => by
    obtain ⟨i, hi⟩ := hmem x hx
    have := hi.mass0
    have := hi.mass1
    unfold recX
    split <;> omega
  have h2 := msum_bd (fun x => max 0 (lostL x)) 600000 (l.take k) fun x hx => by
    obtain ⟨i, hi⟩ := hmem x hx
    have := lost_bd hi
    constructor <;> omega
  have h3 := msum_bd (fun x => max 0 (-(lostL x))) 100000 (l.take k) fun x hx => by
    obtain ⟨i, hi⟩ := hmem x hx
    have := lost_bd hi
    constructor <;> omega
  rw [List.length_take] at h1 h2 h3
  unfold recA lossA airA
  refine ⟨⟨h1.1, ?_⟩, ⟨h2.1, ?_⟩, ⟨h3.1, ?_⟩⟩ <;> omega
end
theorem taken_range (n : Nat) (ps : List (Int × Int)) (h : ∀ p ∈ ps, 0 ≤ p.1 ∧ p.1 < n) : ((List.range n).map fun j => takenP j ps).sum = sumP ps := by
  induction ps with
  | nil =>
    have : ∀ m, ((List.range m).map fun j => takenP j []).sum = 0 := fun m => by
      induction m with
      | zero => rfl
      | succ m ih => rw [List.range_succ]; simp only [List.map_append, List.sum_append, ih]; simp [takenP]
    rw [this]; rfl
  | cons p r ih =>
    have h1 := h p (by simp)
    have h2 := ih fun q hq => h q (by simp [hq])
    have e : ∀ j : Nat, takenP j (p :: r) = (if p.1 = j then p.2 else 0) + takenP j r := fun j => by
      unfold takenP
      by_cases hp : p.1 = j
      · simp [hp]
      · simp [hp]
    have hs : ∀ m : Nat, ((List.range m).map fun j => takenP j (p :: r)).sum = (if p.1 < m then p.2 else 0) + ((List.range m).map fun j => takenP j r).sum := fun m => by
      induction m with
      | zero => simp; intro h; omega
      | succ m im =>
        rw [List.range_succ, List.map_append, List.sum_append, im, List.map_append, List.sum_append]
        simp only [List.map_cons, List.map_nil, List.sum_cons, List.sum_nil, Int.add_zero]
        rw [e m]
        have key : (if p.1 < ((m + 1 : Nat) : Int) then p.2 else 0) = (if p.1 < (m : Int) then p.2 else 0) + (if p.1 = (m : Int) then p.2 else 0) := by
          by_cases a : p.1 < m
          · rw [if_pos (show p.1 < ((m + 1 : Nat) : Int) by omega), if_pos a, if_neg (show ¬ p.1 = (m : Int) by omega), Int.add_zero]
          · by_cases b : p.1 = m
            · rw [if_pos (show p.1 < ((m + 1 : Nat) : Int) by omega), if_neg a, if_pos b, Int.zero_add]
            · rw [if_neg (show ¬ p.1 < ((m + 1 : Nat) : Int) by omega), if_neg a, if_neg b]; rfl
        rw [key]
        generalize (if p.1 < (m : Int) then p.2 else 0) = x
        generalize (if p.1 = (m : Int) then p.2 else 0) = y
        omega
    rw [hs n, if_pos h1.2, h2]
    rfl
theorem taken_all (n : Nat) (l : List LotD) (h : ∀ x ∈ l, ∀ p ∈ x.parts, 0 ≤ p.1 ∧ p.1 < n) : ((List.range n).map fun j => takenL j l).sum = (l.map fun x => sumP x.parts).sum := by
  induction l with
  | nil =>
    have : ∀ m, ((List.range m).map fun j => takenL j []).sum = 0 := fun m => by
      induction m with
      | zero => rfl
      | succ m ih => rw [List.range_succ]; simp only [List.map_append, List.sum_append, ih]; simp [takenL]
    rw [this]; rfl
  | cons x r ih =>
    have h1 := taken_range n x.parts (h x (by simp))
    have h2 := ih fun q hq => h q (by simp [hq])
    have hs : ∀ m : Nat, ((List.range m).map fun j => takenL j (x :: r)).sum = ((List.range m).map fun j => takenP j x.parts).sum + ((List.range m).map fun j => takenL j r).sum := fun m => by
      induction m with
      | zero => rfl
      | succ m im =>
        rw [List.range_succ]
        simp only [List.map_append, List.sum_append, im, List.map_cons, List.map_nil, List.sum_cons, List.sum_nil, Int.add_zero]
        have : takenL m (x :: r) = takenP m x.parts + takenL m r := rfl
        omega
    rw [hs n, h1, h2]
    rfl
theorem leftA_split (l : List LotD) (k : Nat) (hk : k ≤ l.length) : leftA l k = ((l.take k).map (·.mass)).sum - ((List.range k).map fun j => takenL j l).sum := by
  induction k with
  | zero => simp [leftA]
  | succ k ih =>
    rw [leftA_succ, ih (by omega), msum_take _ (show k < l.length by omega), List.range_succ]
    simp only [List.map_append, List.sum_append, List.map_cons, List.map_nil, List.sum_cons, List.sum_nil, Int.add_zero]
    unfold leftL
    rw [getD_at' (show k < l.length by omega)]
    omega
theorem parts_sum (l : List LotD) : recA l + airA l - lossA l = (l.map (·.mass)).sum - (l.map fun x => sumP x.parts).sum := by
  induction l with
  | nil => rfl
  | cons x r ih =>
    have e1 : recA (x :: r) = recX x + recA r := rfl
    have e2 : airA (x :: r) = max 0 (-(lostL x)) + airA r := rfl
    have e3 : lossA (x :: r) = max 0 (lostL x) + lossA r := rfl
    rw [e1, e2, e3, List.map_cons, List.map_cons, List.sum_cons, List.sum_cons]
    have key : recX x + max 0 (-(lostL x)) - max 0 (lostL x) = x.mass - sumP x.parts := by
      unfold recX lostL
      by_cases h : x.parts.length = 0
      · rw [if_pos h, if_pos h, sumP_nil h]; omega
      · rw [if_neg h, if_neg h]; omega
    omega
/-- What was received and taken from the air is what is left and what was lost. -/
theorem audit_law {l : List LotD} {r f o a z : Int} (h : auditE l = (r, f, o, a, z)) : r + a = f + o := by
  unfold auditE at h
  by_cases hv : valE l = 0
  · rw [if_neg (by simpa using hv)] at h
    obtain ⟨rfl, rfl, rfl, rfl, rfl⟩ := five_inj h
    have hg := valE_zero hv
    have h1 := leftA_split l l.length (Nat.le_refl _)
    rw [List.take_length, taken_all l.length l (fun x hx p hp => by
      obtain ⟨i, hi, rfl⟩ := List.mem_iff_getElem.1 hx
      have := (hg.lot i hi).part p hp
      omega)] at h1
    have h2 := parts_sum l
    omega
  · rw [if_pos hv] at h
    obtain ⟨rfl, rfl, rfl, rfl, rfl⟩ := five_inj h
    rfl
end Go.Proofs.Ytdgmpaijpjkeoaa
