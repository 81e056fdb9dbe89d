/-
  DILUTION: PLAIN.
-/
import Derived.Test.YtdgmpaijpjkeoaaShV
import Derived.Test.YtdgmpaijpjkeoaaNumN
namespace Go.Proofs.Ytdgmpaijpjkeoaa
open Go.RowKit
theorem psN_at {l : List LotD} {i m : Nat} (hm : m < (l.getD i default).parts.length) : ∃ h : m < (psN l i).length, (psN l i)[m] = ((l.getD i default).parts[m].1.toNat, (l.getD i default).parts[m].2.toNat) := by
  refine ⟨by simpa [psN] using hm, ?_⟩
  simp [psN]
/-- The sum over all parts, of any lot but the lot itself. -/
theorem sN_full {l : List LotD} (hg : GoodAll l) {of i : Nat} (h : of ≠ i) : sN l of i (l.getD i default).parts.length = fN l of i := by
  have hlen : (psN l i).length = (l.getD i default).parts.length := by simp [psN]
  rcases Nat.lt_trichotomy of i with a | a | a
  · exact sN_all hg (by omega) a
  · exact absurd a h
  · rw [show fN l of i = 0 from NN_low (psN_lt hg i) a]
    unfold sN
    rw [List.take_of_length_le (by omega)]
    rw [show ((psN l i).map fun p => fN l of p.1 * p.2 * Pr (tN l) (p.1 + 1) i) = (psN l i).map fun _ => 0 from List.map_congr_left fun p hp => by
      have := psN_lt hg i p hp
      rw [show fN l of p.1 = 0 from NN_low (psN_lt hg p.1) (by omega)]
      simp]
    exact sum_map_zero _
/-- One more part. -/
theorem dil_step {a b s1 s2 k1 k2 t1 t2 u1 u2 D S N M Q T Dj : Int} (hD : D = Dj * Q * T) (hab : vld a b = true) (h0 : a * D = S * b)
    (hs : vld s1 s2 = true) (hs2 : s1 * Dj = N * s2) (hk : mk M T = (k1, k2, 0)) (ht : mulM s1 s2 k1 k2 = (t1, t2, 0)) (hu : addM a b t1 t2 = (u1, u2, 0)) :
    vld u1 u2 = true ∧ u1 * D = (S + N * M * Q) * u2 := by
  obtain ⟨hT, vk, ek⟩ := mk_ok hk
  have vt := (mulM_bd ht).2.2 rfl
  have vu := (addM_bd hu).2.2 rfl
  unfold mulM at ht
  rw [if_pos ⟨hs, vk⟩] at ht
  obtain ⟨-, -, et⟩ := mk_ok ht
  unfold addM at hu
  rw [if_pos ⟨hab, vt⟩] at hu
  obtain ⟨-, -, eu⟩ := mk_ok hu
  have ps := (vld_bd hs).1
  have pk := (vld_bd vk).1
  have pt := (vld_bd vt).1
  have pb := (vld_bd hab).1
  refine ⟨vu, ?_⟩
  have e1 : t1 * D = N * M * Q * t2 := by
    have hp : 0 < s2 * k2 := Int.mul_pos (by omega) (by omega)
    refine Int.eq_of_mul_eq_mul_right (Int.ne_of_gt hp) ?_
    calc t1 * D * (s2 * k2) = t1 * (s2 * k2) * D := by ac_rfl
      _ = s1 * k1 * t2 * (Dj * Q * T) := by rw [et, hD]
      _ = (s1 * Dj) * (k1 * T) * (Q * t2) := by ac_rfl
      _ = (N * s2) * (M * k2) * (Q * t2) := by rw [hs2, ek]
      _ = N * M * Q * t2 * (s2 * k2) := by ac_rfl
  have hp : 0 < b * t2 := Int.mul_pos (by omega) (by omega)
  refine Int.eq_of_mul_eq_mul_right (Int.ne_of_gt hp) ?_
  calc u1 * D * (b * t2) = u1 * (b * t2) * D := by ac_rfl
    _ = (a * t2 + t1 * b) * u2 * D := by rw [eu]
    _ = (a * D) * (t2 * u2) + (t1 * D) * (b * u2) := by
      rw [Int.add_mul, Int.add_mul]
      congr 1 <;> ac_rfl
    _ = (S * b) * (t2 * u2) + (N * M * Q * t2) * (b * u2) := by rw [h0, e1]
    _ = (S + N * M * Q) * u2 * (b * t2) := by
      rw [Int.add_mul, Int.add_mul]
      congr 1 <;> ac_rfl
theorem dil_end {a b p q D N : Int} (hD : 0 < D) (hab : vld a b = true) (hpq : vld p q = true) (h1 : a * D = N * b) (h2 : p * D = N * q) : a = p ∧ b = q := by
  refine vld_unique hab hpq ?_
  refine Int.eq_of_mul_eq_mul_right (Int.ne_of_gt hD) ?_
  calc a * q * D = a * D * q := by ac_rfl
    _ = p * D * b := by rw [h1, h2]; ac_rfl
    _ = p * b * D := by ac_rfl
/-- A lot in itself, and in one that is made of nothing. -/
theorem sh_self {l : List LotD} {i p q : Int} (h : shE l i i = (p, q, 0)) : p = 1 ∧ q = 1 := by
  obtain ⟨hv, N, D, hN, hD, hD0, he⟩ := sh_val h
  have hc : chkE l [i, i] = 0 := by
    unfold shE at h
    by_cases hc : chkE l [i, i] = 0
    · exact hc
    · rw [if_pos hc] at h
      simp only [Prod.mk.injEq] at h
      exact absurd h.2.2 hc
  obtain ⟨hgl, -⟩ := chk_zero hc
  have e : N = D := by rw [hN, hD]; exact NN_of (psN_lt hgl.lot i.toNat) rfl
  subst e
  exact dil_end (by omega) hv (by decide) he (by omega)
theorem sh_none {l : List LotD} {of i p q : Int} (h : shE l of i = (p, q, 0)) (hne : of ≠ i) (h0 : (l.getD i.toNat default).parts.length = 0) : p = 0 ∧ q = 1 := by
  obtain ⟨hv, N, D, hN, hD, hD0, he⟩ := sh_val h
  have hc : chkE l [of, i] = 0 := by
    unfold shE at h
    by_cases hc : chkE l [of, i] = 0
    · exact hc
    · rw [if_pos hc] at h
      simp only [Prod.mk.injEq] at h
      exact absurd h.2.2 hc
  obtain ⟨hgl, hin⟩ := chk_zero hc
  have b1 := hin of (by simp)
  have b2 := hin i (by simp)
  have e : N = 0 := by
    rw [hN, ← sN_full hgl.lot (of := of.toNat) (i := i.toNat) (by omega), h0]
    simp [sN]
  subst e
  exact dil_end (D := D) (N := 0) (by omega) hv (by decide) (by simpa using he) (by omega)
theorem sh_out {l : List LotD} {of i p q z : Int} (h : shE l of i = (p, q, z)) (ho : i < 0 ∨ l.length ≤ i) : z ≠ 0 := by
  intro hz
  subst hz
  unfold shE at h
  by_cases hc : chkE l [of, i] = 0
  · have := (chk_zero hc).2 i (by simp)
    omega
  · rw [if_pos hc] at h
    simp only [Prod.mk.injEq] at h
    exact absurd h.2.2 hc
/-- The sum of the first m parts' shares is (a, b). -/
structure DilOK (l : List LotD) (of i m : Nat) (a b : Int) : Prop where
  v : vld a b = true
  e : a * (Pr (tN l) 0 (i + 1) : Int) = (sN l of i m : Int) * b
theorem DilOK.start (l : List LotD) (of i : Nat) : DilOK l of i 0 0 1 := ⟨by decide, by simp [sN]⟩
theorem dilOK_step {l : List LotD} (hg : GoodAll l) {of i m : Nat} {a b s1 s2 k1 k2 t1 t2 u1 u2 : Int} (h : DilOK l of i m a b) (hm : m < (l.getD i default).parts.length)
    (hs : shE l of (l.getD i default).parts[m].1 = (s1, s2, 0)) (hk : mk (l.getD i default).parts[m].2 (sumP (l.getD i default).parts) = (k1, k2, 0)) (ht : mulM s1 s2 k1 k2 = (t1, t2, 0)) (hu : addM a b t1 t2 = (u1, u2, 0)) : DilOK l of i (m + 1) u1 u2 := by
  obtain ⟨hm', hget⟩ := psN_at hm
  obtain ⟨hT, -, -⟩ := mk_ok hk
  have hpg := part_good hg (List.getElem_mem hm)
  obtain ⟨hv, N, Dj, hN, hDj, hDj0, he⟩ := sh_val hs
  obtain ⟨p, hp⟩ : ∃ p, p = (l.getD i default).parts[m] := ⟨_, rfl⟩
  rw [← hp] at hget hpg hN hDj hk
  obtain ⟨p1, p2⟩ := p
  simp only at hget hpg hN hDj hk
  obtain ⟨j, rfl⟩ : ∃ j : Nat, p1 = j := ⟨p1.toNat, by omega⟩
  obtain ⟨M, rfl⟩ : ∃ M : Nat, p2 = M := ⟨p2.toNat, by omega⟩
  simp only [Int.toNat_natCast] at hN hDj
  have hs0 := sum_good hg i
  have hsm := sN_succ (of := of) hm'
  rw [hget] at hsm
  simp only [Int.toNat_natCast] at hsm
  rw [← hN] at hsm
  have htN : (tN l i : Int) = sumP (l.getD i default).parts := by
    unfold tN
    rw [if_neg hT]
    omega
  have hj : j < i := by omega
  have hD : Pr (tN l) 0 (i + 1) = Dj * Pr (tN l) (j + 1) i * tN l i := by
    rw [hDj, Pr_succ (by omega), Pr_mul (by omega) (by omega)]
  have hD' : (Pr (tN l) 0 (i + 1) : Int) = (Dj : Int) * (Pr (tN l) (j + 1) i : Int) * sumP (l.getD i default).parts := by
    rw [← htN, ← Int.natCast_mul, ← Int.natCast_mul, hD]
  obtain ⟨v, e⟩ := dil_step hD' h.v h.e hv he hk ht hu
  refine ⟨v, ?_⟩
  rw [e, hsm]
  simp only [Int.natCast_add, Int.natCast_mul]
theorem DilOK.done {l : List LotD} {of i p q a b : Int} (hs : shE l of i = (p, q, 0)) (hne : of ≠ i) (h : DilOK l of.toNat i.toNat (l.getD i.toNat default).parts.length a b) : a = p ∧ b = q := by
  obtain ⟨hv, N, D, hN, hD, hD0, he⟩ := sh_val hs
  have hc : chkE l [of, i] = 0 := by
    unfold shE at hs
    by_cases hc : chkE l [of, i] = 0
    · exact hc
    · rw [if_pos hc] at hs
      simp only [Prod.mk.injEq] at hs
      exact absurd hs.2.2 hc
  obtain ⟨hgl, hin⟩ := chk_zero hc
  have b1 := hin of (by simp)
  have b2 := hin i (by simp)
  have e := h.e
  rw [sN_full hgl.lot (by omega), ← hD, ← hN] at e
  exact dil_end (by omega) h.v hv e he
end Go.Proofs.Ytdgmpaijpjkeoaa
