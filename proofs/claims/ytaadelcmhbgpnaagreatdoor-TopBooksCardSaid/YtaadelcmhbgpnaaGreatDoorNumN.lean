/-
  PLAIN: bounds of the results, and that differences undo sums, quotients products.
-/
import Derived.Test.YtaadelcmhbgpnaaGreatDoorNumM
namespace Go.Proofs.YtaadelcmhbgpnaaGreatDoor
theorem mk_bd {n d p q z : Int} (h : mk n d = (p, q, z)) : (-1099511627776 ≤ p ∧ p ≤ 1099511627776) ∧ (0 ≤ q ∧ q ≤ 1048576) ∧ (z = 0 → vld p q = true) := by
  rcases mk_cases n d with ⟨_, h'⟩ | ⟨_, h'⟩ | ⟨p', q', _, h', hv, _⟩ <;> rw [h] at h' <;> simp only [Prod.mk.injEq] at h' <;> obtain ⟨rfl, rfl, rfl⟩ := h'
  · exact ⟨by omega, by omega, by omega⟩
  · exact ⟨by omega, by omega, by omega⟩
  · have := vld_bd hv
    exact ⟨by omega, by omega, fun _ => hv⟩
theorem none_bd {p q z : Int} (h : ((0 : Int), (0 : Int), (1 : Int)) = (p, q, z)) : (-1099511627776 ≤ p ∧ p ≤ 1099511627776) ∧ (0 ≤ q ∧ q ≤ 1048576) ∧ (z = 0 → vld p q = true) := by
  simp only [Prod.mk.injEq] at h
  obtain ⟨rfl, rfl, rfl⟩ := h
  exact ⟨by omega, by omega, by omega⟩
theorem addM_bd {a1 a2 b1 b2 p q z : Int} (h : addM a1 a2 b1 b2 = (p, q, z)) : (-1099511627776 ≤ p ∧ p ≤ 1099511627776) ∧ (0 ≤ q ∧ q ≤ 1048576) ∧ (z = 0 → vld p q = true) := by
  unfold addM at h; split at h
  · exact mk_bd h
  · exact none_bd h
theorem subM_bd {a1 a2 b1 b2 p q z : Int} (h : subM a1 a2 b1 b2 = (p, q, z)) : (-1099511627776 ≤ p ∧ p ≤ 1099511627776) ∧ (0 ≤ q ∧ q ≤ 1048576) ∧ (z = 0 → vld p q = true) := by
  unfold subM at h; split at h
  · exact mk_bd h
  · exact none_bd h
theorem mulM_bd {a1 a2 b1 b2 p q z : Int} (h : mulM a1 a2 b1 b2 = (p, q, z)) : (-1099511627776 ≤ p ∧ p ≤ 1099511627776) ∧ (0 ≤ q ∧ q ≤ 1048576) ∧ (z = 0 → vld p q = true) := by
  unfold mulM at h; split at h
  · exact mk_bd h
  · exact none_bd h
theorem divM_bd {a1 a2 b1 b2 p q z : Int} (h : divM a1 a2 b1 b2 = (p, q, z)) : (-1099511627776 ≤ p ∧ p ≤ 1099511627776) ∧ (0 ≤ q ∧ q ≤ 1048576) ∧ (z = 0 → vld p q = true) := by
  unfold divM at h; split at h
  · exact mk_bd h
  · exact none_bd h
theorem addM_back {a1 a2 b1 b2 p q z : Int} (h : addM a1 a2 b1 b2 = (p, q, z)) : z = 0 → subM p q b1 b2 = (a1, a2, 0) := by
  rintro rfl
  have hv := (addM_bd h).2.2 rfl
  unfold addM at h; split at h
  · rename_i hc
    unfold subM
    rw [if_pos ⟨hv, hc.2⟩]
    exact sub_back hc.1 hc.2 h
  · simp at h
theorem mulM_back {a1 a2 b1 b2 p q z : Int} (h : mulM a1 a2 b1 b2 = (p, q, z)) : z = 0 → b1 ≠ 0 → divM p q b1 b2 = (a1, a2, 0) := by
  rintro rfl h0
  have hv := (mulM_bd h).2.2 rfl
  unfold mulM at h; split at h
  · rename_i hc
    unfold divM
    rw [if_pos ⟨⟨hv, hc.2⟩, h0⟩]
    exact div_back hc.1 hc.2 h0 h
  · simp at h
/-- Products are distributed over sums wherever all of them are valid fractions. -/
theorem distrib {a1 a2 b1 b2 c1 c2 s1 s2 x1 x2 y1 y2 z1 z2 : Int} (hs : addM b1 b2 c1 c2 = (s1, s2, 0)) (hx : mulM a1 a2 s1 s2 = (x1, x2, 0)) (hy : mulM a1 a2 b1 b2 = (y1, y2, 0)) (hz : mulM a1 a2 c1 c2 = (z1, z2, 0)) :
    addM y1 y2 z1 z2 = (x1, x2, 0) := by
  have vy := (mulM_bd hy).2.2 rfl
  have vz := (mulM_bd hz).2.2 rfl
  unfold addM at hs ⊢
  unfold mulM at hx hy hz
  rw [if_pos ⟨vy, vz⟩]
  split at hs
  · rename_i c1
    split at hx
    · rename_i c2
      rw [if_pos ⟨c2.1, c1.1⟩] at hy
      rw [if_pos ⟨c2.1, c1.2⟩] at hz
      exact fields c2.1 c1.1 c1.2 hs hx hy hz
    · simp at hx
  · simp at hs
end Go.Proofs.YtaadelcmhbgpnaaGreatDoor
