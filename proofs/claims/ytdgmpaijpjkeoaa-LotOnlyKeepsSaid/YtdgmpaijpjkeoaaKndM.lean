/-
  KINDS: PLAIN. The shares of marked received lots; those of all kinds add up to 1.
-/
import Derived.Test.YtdgmpaijpjkeoaaShV
import Derived.Test.YtdgmpaijpjkeoaaNumN
namespace Go.Proofs.Ytdgmpaijpjkeoaa
open Go.RowKit
section
variable (t : Nat → Nat) (ps : Nat → List (Nat × Nat)) (B : Nat → Bool)
/-- The numerators of the marked lots below k, in the lot i. -/
def sumB (i : Nat) : Nat → Nat
  | 0 => 0
  | k + 1 => sumB i k + (if B k = true then NN t ps k i else 0)
def KN (i : Nat) : Nat := sumB t ps B i (i + 1)
variable {t ps B}
theorem sumB_far (hp : ∀ i, ∀ p ∈ ps i, p.1 < i) {i : Nat} : ∀ m, sumB t ps B i (i + 1 + m) = KN t ps B i
  | 0 => rfl
  | m + 1 => by
    rw [show i + 1 + (m + 1) = (i + 1 + m) + 1 by omega, sumB, sumB_far hp m, NN_low (hp i) (by omega)]
    simp
theorem sumB_ge (hp : ∀ i, ∀ p ∈ ps i, p.1 < i) {i k : Nat} (h : i < k) : sumB t ps B i k = KN t ps B i := by
  obtain ⟨m, rfl⟩ := Nat.exists_eq_add_of_le (show i + 1 ≤ k by omega)
  exact sumB_far hp m
theorem sum_map_add {α : Type} (l : List α) (f g : α → Nat) : (l.map fun x => f x + g x).sum = (l.map f).sum + (l.map g).sum := by
  induction l with
  | nil => rfl
  | cons x l ih => simp only [List.map_cons, List.sum_cons, ih]; omega
/-- Of any lot but itself: by the parts. -/
theorem NN_parts (hp : ∀ i, ∀ p ∈ ps i, p.1 < i) {q i : Nat} (h : q ≠ i) : NN t ps q i = ((ps i).map fun p => NN t ps q p.1 * p.2 * Pr t (p.1 + 1) i).sum := by
  rcases Nat.lt_trichotomy i q with a | a | a
  · rw [NN_low (hp i) a, sum_map_congr _ _ (fun _ => 0) (fun p hpp => by rw [NN_low (hp p.1) (by have := hp i p hpp; omega)]; simp), sum_map_zero]
  · exact absurd a.symm h
  · exact NN_high (hp i) a
theorem sumB_parts (hp : ∀ i, ∀ p ∈ ps i, p.1 < i) {i : Nat} (hb : B i = false) : ∀ k, sumB t ps B i k = ((ps i).map fun p => sumB t ps B p.1 k * p.2 * Pr t (p.1 + 1) i).sum
  | 0 => by simp only [sumB, Nat.zero_mul]; exact (sum_map_zero _).symm
  | k + 1 => by
    simp only [sumB]
    rw [sumB_parts hp hb k]
    by_cases hk : B k = true
    · have hne : k ≠ i := fun e => by rw [e, hb] at hk; cases hk
      simp only [hk, if_true]
      rw [NN_parts hp hne, ← sum_map_add]
      exact sum_map_congr _ _ _ (fun p _ => by simp only [Nat.add_mul])
    · simp only [hk]
      simp
theorem KN_parts (hp : ∀ i, ∀ p ∈ ps i, p.1 < i) {i : Nat} (hb : B i = false) : KN t ps B i = ((ps i).map fun p => KN t ps B p.1 * p.2 * Pr t (p.1 + 1) i).sum := by
  unfold KN
  rw [sumB_parts hp hb]
  exact sum_map_congr _ _ _ (fun p hpp => by rw [sumB_ge hp (show p.1 < i + 1 by have := hp i p hpp; omega)]; rfl)
theorem sumB_none (hp : ∀ i, ∀ p ∈ ps i, p.1 < i) {i : Nat} (he : ps i = []) : ∀ k, k ≤ i → sumB t ps B i k = 0
  | 0, _ => rfl
  | k + 1, h => by
    rw [sumB, sumB_none hp he k (by omega), NN_parts hp (show k ≠ i by omega), he]
    simp
theorem KN_marked (hp : ∀ i, ∀ p ∈ ps i, p.1 < i) {i : Nat} (he : ps i = []) (hb : B i = true) : KN t ps B i = Pr t 0 (i + 1) := by
  unfold KN
  rw [sumB, sumB_none hp he i (Nat.le_refl _), if_pos hb, NN_of (hp i) rfl, Nat.zero_add]
theorem KN_le (hp : ∀ i, ∀ p ∈ ps i, p.1 < i) (hs : ∀ i, ((ps i).map (·.2)).sum ≤ t i) (hB : ∀ i, B i = true → ps i = []) (i : Nat) : KN t ps B i ≤ Pr t 0 (i + 1) := by
  induction i using Nat.strongRecOn with
  | _ i ih =>
    cases hb : B i with
    | true => rw [KN_marked hp (hB i hb) hb]; exact Nat.le_refl _
    | false =>
      rw [KN_parts hp hb]
      have h1 : ((ps i).map fun p => KN t ps B p.1 * p.2 * Pr t (p.1 + 1) i).sum ≤ ((ps i).map fun p => p.2 * Pr t 0 i).sum := by
        refine sum_map_le _ _ _ (fun p hpp => ?_)
        have h2 := ih p.1 (hp i p hpp)
        have h3 := hp i p hpp
        rw [← Pr_mul (t := t) (a := 0) (b := p.1 + 1) (c := i) (by omega) (by omega), ← Nat.mul_assoc]
        refine Nat.mul_le_mul_right _ ?_
        rw [Nat.mul_comm]
        exact Nat.mul_le_mul_left _ h2
      rw [sum_map_mul_right] at h1
      rw [Pr_succ (by omega), Nat.mul_comm (Pr t 0 i)]
      exact Nat.le_trans h1 (Nat.mul_le_mul_right _ (hs i))
/-- All received lots are marked: the shares add up to 1. -/
theorem KN_all (hp : ∀ i, ∀ p ∈ ps i, p.1 < i) (hs : ∀ i, ps i ≠ [] → ((ps i).map (·.2)).sum = t i) (hB : ∀ i, B i = true ↔ ps i = []) (i : Nat) : KN t ps B i = Pr t 0 (i + 1) := by
  induction i using Nat.strongRecOn with
  | _ i ih =>
    cases hb : B i with
    | true => exact KN_marked hp ((hB i).1 hb) hb
    | false =>
      rw [KN_parts hp hb]
      have hne : ps i ≠ [] := fun e => by rw [(hB i).2 e] at hb; cases hb
      rw [sum_map_congr _ _ (fun p => p.2 * Pr t 0 i) (fun p hpp => by
        have h3 := hp i p hpp
        rw [ih p.1 h3, Nat.mul_comm (Pr t 0 (p.1 + 1)), Nat.mul_assoc, Pr_mul (by omega) (by omega)]), sum_map_mul_right, hs i hne, Pr_succ (by omega), Nat.mul_comm]
theorem KN_stepR (hp : ∀ i, ∀ p ∈ ps i, p.1 < i) (ht : ∀ i, 0 < t i) (hB : ∀ i, B i = true → ps i = []) {n i : Nat} (hi : i ≤ n) :
    KN t ps B i * Pr t (i + 1) (n + 1) = stepR (t := t) (ps := ps) B (Pr t 0 (n + 1)) i (fun j => KN t ps B j * Pr t (j + 1) (n + 1)) := by
  unfold stepR
  cases hb : B i with
  | true => rw [if_pos rfl, KN_marked hp (hB i hb) hb, Pr_mul (by omega) (by omega)]
  | false =>
    rw [if_neg (by simp), KN_parts hp hb]
    split
    · rename_i he; rw [he]; simp
    · have hs : ((ps i).map fun p => (fun j => KN t ps B j * Pr t (j + 1) (n + 1)) p.1 * p.2).sum = ((ps i).map fun p => KN t ps B p.1 * p.2 * Pr t (p.1 + 1) i * (t i * Pr t (i + 1) (n + 1))).sum := by
        refine sum_map_congr _ _ _ (fun p hpp => ?_)
        have := hp i p hpp
        show KN t ps B p.1 * Pr t (p.1 + 1) (n + 1) * p.2 = _
        rw [← Pr_head (by omega), Nat.mul_assoc (KN t ps B p.1 * p.2), Pr_mul (by omega) (by omega), Nat.mul_assoc, Nat.mul_assoc, Nat.mul_comm p.2]
      rw [hs, sum_map_mul_right, Nat.mul_comm (t i), ← Nat.mul_assoc, Nat.mul_div_cancel _ (ht i)]
end
/-- The received lots of a kind. -/
def isK (l : List LotD) (kd : Nat) (j : Nat) : Bool := decide ((l.getD j default).parts.length = 0) && (l.getD j default).kind == (kd : Int)
def isR (l : List LotD) (j : Nat) : Bool := decide ((l.getD j default).parts.length = 0)
theorem psN_nil {l : List LotD} {j : Nat} : psN l j = [] ↔ (l.getD j default).parts.length = 0 := by simp [psN]
theorem isK_nil {l : List LotD} {kd j : Nat} (h : isK l kd j = true) : psN l j = [] := by
  simp only [isK, Bool.and_eq_true, decide_eq_true_eq] at h
  exact psN_nil.2 h.1
/-- The numerator of a kind's share. -/
def kN (l : List LotD) (kd i : Nat) : Nat := KN (tN l) (psN l) (isK l kd) i
theorem kN_le {l : List LotD} (hg : GoodAll l) (kd i : Nat) : kN l kd i ≤ Pr (tN l) 0 (i + 1) := KN_le (psN_lt hg) (psN_sum hg) (fun _ h => isK_nil h) i
/-- The sum over the kinds below m. -/
def kS (l : List LotD) (i : Nat) : Nat → Nat
  | 0 => 0
  | m + 1 => kS l i m + kN l m i
def kS' (l : List LotD) (i k : Nat) : Nat → Nat
  | 0 => 0
  | m + 1 => kS' l i k m + sumB (tN l) (psN l) (isK l m) i k
theorem kS_eq (l : List LotD) (i : Nat) : ∀ m, kS l i m = kS' l i (i + 1) m
  | 0 => rfl
  | m + 1 => by rw [kS, kS', kS_eq l i m]; rfl
theorem kS'_zero (l : List LotD) (i : Nat) : ∀ m, kS' l i 0 m = 0
  | 0 => rfl
  | m + 1 => by rw [kS', kS'_zero l i m]; rfl
theorem kS'_succ (l : List LotD) (i k : Nat) : ∀ m, kS' l i (k + 1) m = kS' l i k m + (if isR l k = true ∧ 0 ≤ (l.getD k default).kind ∧ (l.getD k default).kind < m then fN l k i else 0)
  | 0 => by
    rw [if_neg (by omega)]; rfl
  | m + 1 => by
    rw [kS', kS'_succ l i k m, kS', sumB]
    have e : NN (tN l) (psN l) k i = fN l k i := rfl
    rw [e]
    unfold isK isR
    by_cases h1 : (l.getD k default).parts.length = 0
    · simp only [h1, decide_true, Bool.true_and, true_and, beq_iff_eq]
      by_cases h2 : (l.getD k default).kind = (m : Int)
      · rw [if_neg (by omega), if_pos h2, if_pos (by omega)]; omega
      · rw [if_neg h2]
        by_cases h3 : 0 ≤ (l.getD k default).kind ∧ (l.getD k default).kind < (m : Int)
        · rw [if_pos h3, if_pos (by omega)]; omega
        · rw [if_neg h3, if_neg (by omega)]; omega
    · have hd : decide ((l.getD k default).parts.length = 0) = false := decide_eq_false h1
      rw [if_neg (fun h => h1 (by simpa using h.1)), if_neg (fun h => by rw [hd] at h; simp at h), if_neg (fun h => h1 (by simpa using h.1))]
      omega
/-- The shares of all kinds add up to 1. -/
theorem kS_all {l : List LotD} (hg : GoodAll l) {i : Nat} (hi : i < l.length) : kS l i 8 = Pr (tN l) 0 (i + 1) := by
  have hall : ∀ k, k ≤ i + 1 → kS' l i k 8 = sumB (tN l) (psN l) (isR l) i k := by
    intro k
    induction k with
    | zero => intro _; rw [kS'_zero]; rfl
    | succ k ih =>
      intro hk
      have hgd := hg k (by omega)
      rw [kS'_succ, ih (by omega), sumB]
      congr 1
      rw [getD_at' (show k < l.length by omega)]
      have h0 := hgd.kind0
      have h1 := hgd.kind1
      by_cases hr : isR l k = true
      · rw [if_pos ⟨hr, h0, by omega⟩, if_pos hr]; rfl
      · rw [if_neg (fun h => hr h.1), if_neg hr]
  rw [kS_eq, hall _ (Nat.le_refl _)]
  refine KN_all (psN_lt hg) (fun j hj => ?_) (fun j => ?_) i
  · have hjl : j < l.length := by
      refine Nat.lt_of_not_le (fun h => hj ?_)
      unfold psN
      rw [List.getD_eq_getElem?_getD, List.getElem?_eq_none h]
      rfl
    have hgd := hg j hjl
    have hs : ((psN l j).map (·.2)).sum = (sumP l[j].parts).toNat := by
      unfold psN
      rw [getD_at' hjl, List.map_map]
      have : ∀ ps : List (Int × Int), (∀ p ∈ ps, 1 ≤ p.2) → ((ps.map ((·.2) ∘ fun p : Int × Int => (p.1.toNat, p.2.toNat))).sum : Nat) = (sumP ps).toNat ∧ 0 ≤ sumP ps := by
        intro ps
        induction ps with
        | nil => intro _; exact ⟨rfl, Int.le_refl _⟩
        | cons p ps ih =>
          intro hh
          have h1 := ih (fun q hq => hh q (by simp [hq]))
          have h2 := hh p (by simp)
          have h3 : sumP (p :: ps) = p.2 + sumP ps := by simp [sumP]
          simp only [List.map_cons, List.sum_cons, Function.comp, h3]
          have h4 := h1.1
          simp only [Function.comp_def] at h4
          omega
      exact (this _ (fun p hp => (hgd.part p hp).2.2.1)).1
    rw [hs]
    unfold tN
    rw [getD_at' hjl, if_neg]
    intro h0
    rw [h0] at hs
    cases hps : psN l j with
    | nil => exact hj hps
    | cons p r =>
      rw [hps] at hs
      have hp : p ∈ psN l j := by rw [hps]; simp
      unfold psN at hp
      rw [getD_at' hjl] at hp
      obtain ⟨q, hq, rfl⟩ := List.mem_map.1 hp
      have := hgd.part q hq
      simp at hs
      omega
  · rw [psN_nil]; simp [isR]
/-- The fraction of a kind. -/
def kF (l : List LotD) (i kd : Nat) : Int × Int × Int := frE (kN l kd i) (Pr (tN l) 0 (i + 1))
def kL (l : List LotD) (i m : Nat) : List (Int × Int) := (List.range m).map fun kd => ((kF l i kd).1, (kF l i kd).2.1)
theorem kL_succ (l : List LotD) (i m : Nat) : kL l i (m + 1) = kL l i m ++ [((kF l i m).1, (kF l i m).2.1)] := by simp [kL, List.range_succ]
theorem kL_length (l : List LotD) (i m : Nat) : (kL l i m).length = m := by simp [kL]
theorem kL_at {l : List LotD} {i m k : Nat} (h : k < m) : (kL l i m)[k]'(by rw [kL_length]; exact h) = ((kF l i k).1, (kF l i k).2.1) := by simp [kL]
theorem fr_zc (n d : Nat) : (frE n d).2.2 = 0 ∨ (frE n d).2.2 = 4 := by
  unfold frE
  split
  · exact .inl rfl
  · split
    · exact .inr rfl
    · exact .inl rfl
theorem kF_bd (l : List LotD) (i kd : Nat) (hg : GoodAll l) : 0 ≤ (kF l i kd).1 ∧ (kF l i kd).1 ≤ 1048576 ∧ 0 ≤ (kF l i kd).2.1 ∧ (kF l i kd).2.1 ≤ 1048576 := by
  have hle := kN_le hg kd i
  unfold kF frE
  split
  · simp
  · split
    · simp
    · rename_i h1 h2
      simp only []
      have h3 : kN l kd i / Nat.gcd (kN l kd i) (Pr (tN l) 0 (i + 1)) ≤ Pr (tN l) 0 (i + 1) / Nat.gcd (kN l kd i) (Pr (tN l) 0 (i + 1)) := Nat.div_le_div_right hle
      generalize kN l kd i / Nat.gcd (kN l kd i) (Pr (tN l) 0 (i + 1)) = x at h3 ⊢
      generalize Pr (tN l) 0 (i + 1) / Nat.gcd (kN l kd i) (Pr (tN l) 0 (i + 1)) = y at h2 h3 ⊢
      omega
/-- .. as a fraction. -/
theorem kF_ok {l : List LotD} (hg : GoodAll l) {i kd : Nat} {p q : Int} (h : kF l i kd = (p, q, 0)) : vld p q = true ∧ p * (Pr (tN l) 0 (i + 1) : Nat) = (kN l kd i : Nat) * q := by
  have hle := kN_le hg kd i
  unfold kF at h
  have hD : 0 < Pr (tN l) 0 (i + 1) := Pr_pos (tN_pos hg) _ _
  generalize kN l kd i = N at h hle ⊢
  generalize Pr (tN l) 0 (i + 1) = D at h hle hD ⊢
  rcases Nat.eq_zero_or_pos N with h0 | h0
  · subst h0
    rw [show frE 0 D = (0, 1, 0) from rfl] at h
    simp only [Prod.mk.injEq, and_true] at h
    obtain ⟨rfl, rfl⟩ := h
    exact ⟨by decide, by simp⟩
  · rw [← frE_mk h0 hle] at h
    obtain ⟨-, hv, he⟩ := mk_ok h
    refine ⟨hv, ?_⟩
    have g1 : N / Nat.gcd N D * Nat.gcd N D = N := Nat.div_mul_cancel (Nat.gcd_dvd_left _ _)
    have g2 : D / Nat.gcd N D * Nat.gcd N D = D := Nat.div_mul_cancel (Nat.gcd_dvd_right _ _)
    have e1 : (N : Int) = ((N / Nat.gcd N D : Nat) : Int) * ((Nat.gcd N D : Nat) : Int) := by rw [← Int.natCast_mul, g1]
    have e2 : (D : Int) = ((D / Nat.gcd N D : Nat) : Int) * ((Nat.gcd N D : Nat) : Int) := by rw [← Int.natCast_mul, g2]
    rw [e1, e2, ← Int.mul_assoc, he, Int.mul_assoc, Int.mul_assoc, Int.mul_comm q]
/-- The first m fractions are written. -/
def kOk (l : List LotD) (i m : Nat) : Bool := (List.range m).all fun kd => (kF l i kd).2.2 == 0
theorem kOk_succ (l : List LotD) (i m : Nat) : kOk l i (m + 1) = (kOk l i m && (kF l i m).2.2 == 0) := by simp [kOk, List.range_succ, List.all_append]
theorem kOk_le {l : List LotD} {i m n : Nat} (h : kOk l i n = true) (hm : m < n) : (kF l i m).2.2 = 0 := by
  unfold kOk at h
  have := List.all_eq_true.1 h m (by simpa using hm)
  simpa using this
theorem kOk_no {l : List LotD} {i m n : Nat} (h : (kF l i m).2.2 ≠ 0) (hm : m < n) : kOk l i n = false := by
  cases hk : kOk l i n with
  | false => rfl
  | true => exact absurd (kOk_le hk hm) h
/-- The answer of Kinds. -/
def kndE (l : List LotD) (i : Int) : List (Int × Int) × Int := if chkE l [i] ≠ 0 then ([], chkE l [i]) else if kOk l i.toNat 8 = true then (kL l i.toNat 8, 0) else ([], 4)
/-- What is added up so far. -/
def SumOK (l : List LotD) (i m : Nat) (a b : Int) : Prop := vld a b = true ∧ a * (Pr (tN l) 0 (i + 1) : Nat) = (kS l i m : Nat) * b
theorem SumOK.start (l : List LotD) (i : Nat) : SumOK l i 0 0 1 := ⟨by decide, by simp [kS]⟩
theorem SumOK.step {l : List LotD} (hg : GoodAll l) {i m : Nat} {a b p q u1 u2 : Int} (h : SumOK l i m a b) (hf : kF l i m = (p, q, 0)) (hu : addM a b p q = (u1, u2, 0)) : SumOK l i (m + 1) u1 u2 := by
  obtain ⟨hab, h0⟩ := h
  obtain ⟨hpq, h1⟩ := kF_ok hg hf
  have vu := (addM_bd hu).2.2 rfl
  unfold addM at hu
  rw [if_pos ⟨hab, hpq⟩] at hu
  obtain ⟨-, -, eu⟩ := mk_ok hu
  have pq := (vld_bd hpq).1
  have pb := (vld_bd hab).1
  refine ⟨vu, ?_⟩
  rw [kS, Int.natCast_add]
  generalize ((kS l i m : Nat) : Int) = S at h0 ⊢
  generalize ((kN l m i : Nat) : Int) = N at h1 ⊢
  generalize ((Pr (tN l) 0 (i + 1) : Nat) : Int) = D at h0 h1 ⊢
  have hp : 0 < b * q := Int.mul_pos (by omega) (by omega)
  refine Int.eq_of_mul_eq_mul_right (Int.ne_of_gt hp) ?_
  calc u1 * D * (b * q) = u1 * (b * q) * D := by ac_rfl
    _ = (a * q + p * b) * u2 * D := by rw [eu]
    _ = (a * D) * (q * u2) + (p * D) * (b * u2) := by
      rw [Int.add_mul, Int.add_mul]
      congr 1 <;> ac_rfl
    _ = (S * b) * (q * u2) + (N * q) * (b * u2) := by rw [h0, h1]
    _ = (S + N) * u2 * (b * q) := by
      rw [Int.add_mul, Int.add_mul]
      congr 1 <;> ac_rfl
theorem SumOK.done {l : List LotD} (hg : GoodAll l) {i : Nat} (hi : i < l.length) {a b : Int} (h : SumOK l i 8 a b) : a = 1 ∧ b = 1 := by
  obtain ⟨hab, h0⟩ := h
  rw [kS_all hg hi] at h0
  have hD : (0 : Int) < (Pr (tN l) 0 (i + 1) : Nat) := by have := Pr_pos (tN_pos hg) 0 (i + 1); omega
  rw [Int.mul_comm] at h0
  have e : a = b := Int.eq_of_mul_eq_mul_left (Int.ne_of_gt hD) h0
  subst e
  exact vld_unique hab (show vld 1 1 = true by decide) (by omega)
end Go.Proofs.Ytdgmpaijpjkeoaa
