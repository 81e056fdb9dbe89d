/-
  WORKING TIME ADDS UP, AND After IS THE SMALLEST TIME AT WHICH SO MANY MINUTES ARE WORKED: PLAIN.
-/
import Derived.Test.YtplgndllfkceiaaDoorCalM
namespace Go.Proofs.YtplgndllfkceiaaDoor
open Go.RowKit
theorem hrs_add {K : Cal} (h : ¬ (K.s < 0 ∨ 1440 ≤ K.s ∨ K.e ≤ K.s ∨ 1440 < K.e)) {a b c : Int} (h1 : a ≤ b) (h2 : b ≤ c) (d : Int) : hrs K d a b + hrs K d b c = hrs K d a c := by
  unfold hrs
  split <;> omega
theorem total_add {K : Cal} (h : ¬ (K.s < 0 ∨ 1440 ≤ K.s ∨ K.e ≤ K.s ∨ 1440 < K.e)) {a b c : Int} (h1 : a ≤ b) (h2 : b ≤ c) (n : Nat) : total K a b n + total K b c n = total K a c n := by
  induction n with
  | zero => rfl
  | succ n ih =>
    have := hrs_add h h1 h2 n
    simp only [total]
    omega
theorem hrs_self {K : Cal} (a d : Int) : hrs K d a a = 0 := by
  unfold hrs
  split <;> omega
theorem total_self {K : Cal} (a : Int) (n : Nat) : total K a a n = 0 := by
  induction n with
  | zero => rfl
  | succ n ih => simp only [total]; rw [ih, hrs_self]; rfl
/-- Days that have ended by b count whole. -/
theorem hrs_whole {K : Cal} (h : ¬ (K.s < 0 ∨ 1440 ≤ K.s ∨ K.e ≤ K.s ∨ 1440 < K.e)) {d a b c : Int} (h1 : (d + 1) * 1440 ≤ b) (h2 : b ≤ c) : hrs K d a b = hrs K d a c := by
  unfold hrs
  split <;> omega
theorem total_whole {K : Cal} (h : ¬ (K.s < 0 ∨ 1440 ≤ K.s ∨ K.e ≤ K.s ∨ 1440 < K.e)) {a b c : Int} (n : Nat) (h1 : (n : Int) * 1440 ≤ b) (h2 : b ≤ c) : total K a b n = total K a c n := by
  induction n with
  | zero => rfl
  | succ n ih =>
    simp only [total]
    rw [ih (by omega), hrs_whole h (by omega) h2]
/-- t is the smallest time at which m minutes are worked from a on. -/
def Least (K : Cal) (a m t : Int) : Prop := a ≤ t ∧ t ≤ 2880000 ∧ total K a t 2000 = m ∧ (m = 0 → t = a) ∧ (0 < m → total K a (t - 1) 2000 = m - 1 ∧ a < t)
theorem aft_least {K : Cal} (h : ¬ (K.s < 0 ∨ 1440 ≤ K.s ∨ K.e ≤ K.s ∨ 1440 < K.e)) {a : Int} (n : Nat) : ∀ (d : Nat) (m m0 : Int), d + n = 2000 → 0 < m → m0 = m + total K a 2880000 d →
    (total K a 2880000 2000 < m0 → aft K a n m = (0, 4)) ∧ (m0 ≤ total K a 2880000 2000 → ∃ t, aft K a n m = (t, 0) ∧ Least K a m0 t) := by
  induction n with
  | zero =>
    intro d m m0 hd hm he
    have hd' : d = 2000 := by omega
    subst hd'
    exact ⟨fun _ => rfl, fun h' => by omega⟩
  | succ n ih =>
    intro d m m0 hd hm he
    have hdn : 2000 - (n + 1) = d := by omega
    have hb := hrs_bd h d a 2880000
    have ht : total K a 2880000 (d + 1) = total K a 2880000 d + hrs K d a 2880000 := rfl
    have hmono : total K a 2880000 (d + 1) ≤ total K a 2880000 2000 := by
      have : ∀ k, total K a 2880000 (d + 1) ≤ total K a 2880000 (d + 1 + k) := by
        intro k
        induction k with
        | zero => exact Int.le_refl _
        | succ k ihk =>
          have := hrs_bd h ((d + 1 + k : Nat) : Int) a 2880000
          have e : total K a 2880000 (d + 1 + (k + 1)) = total K a 2880000 (d + 1 + k) + hrs K ((d + 1 + k : Nat) : Int) a 2880000 := rfl
          omega
      have := this (2000 - (d + 1))
      rwa [show d + 1 + (2000 - (d + 1)) = 2000 by omega] at this
    by_cases hlt : hrs K d a 2880000 < m
    · have e : aft K a (n + 1) m = aft K a n (m - hrs K d a 2880000) := by rw [aft, hdn, if_pos hlt]
      rw [e]
      exact ih (d + 1) _ m0 (by omega) (by omega) (by omega)
    · have e : aft K a (n + 1) m = (max a ((d : Int) * 1440 + K.s) + m, 0) := by rw [aft, hdn, if_neg hlt]
      rw [e]
      refine ⟨fun h' => by omega, fun _ => ⟨_, rfl, ?_⟩⟩
      obtain ⟨t, htt⟩ : ∃ t, t = max a ((d : Int) * 1440 + K.s) + m := ⟨_, rfl⟩
      rw [← htt]
      have ho : opn K d = true := by
        cases hc : opn K d with
        | true => rfl
        | false => rw [hrs, hc] at hlt; simp at hlt; omega
      have hh : hrs K d a 2880000 = max 0 (min 2880000 ((d : Int) * 1440 + K.e) - max a ((d : Int) * 1440 + K.s)) := by rw [hrs, if_pos ho]
      have h1 : hrs K d a t = m := by rw [hrs, if_pos ho]; omega
      have h2 : hrs K d a (t - 1) = m - 1 := by rw [hrs, if_pos ho]; omega
      have tl : ∀ b, (d : Int) * 1440 ≤ b → b ≤ ((d : Int) + 1) * 1440 → b ≤ 2880000 → total K a b 2000 = total K a 2880000 d + hrs K d a b := by
        intro b hb1 hb2 hb3
        have e1 := total_behind (K := K) h (a := a) (b := b) (d + 1) (2000 - (d + 1)) (by omega)
        rw [show d + 1 + (2000 - (d + 1)) = 2000 by omega] at e1
        rw [e1]
        show total K a b d + hrs K d a b = _
        rw [total_whole h d hb1 hb3]
      have e3 := tl t (by omega) (by omega) (by omega)
      have e4 := tl (t - 1) (by omega) (by omega) (by omega)
      exact ⟨by omega, by omega, by omega, fun hz => by have := total_bd h a 2880000 d; omega, fun _ => ⟨by omega, by omega⟩⟩
theorem total_nonneg {K : Cal} (h : ¬ (K.s < 0 ∨ 1440 ≤ K.s ∨ K.e ≤ K.s ∨ 1440 < K.e)) (a b : Int) : 0 ≤ total K a b 2000 := (total_bd h a b 2000).1
theorem least_unique {K : Cal} (h : ¬ (K.s < 0 ∨ 1440 ≤ K.s ∨ K.e ≤ K.s ∨ 1440 < K.e)) {a m t u : Int} (h1 : Least K a m t) (h2 : Least K a m u) : t = u := by
  obtain ⟨a1, a2, a3, a4, a5⟩ := h1
  obtain ⟨b1, b2, b3, b4, b5⟩ := h2
  have hm : 0 ≤ m := by rw [← a3]; exact total_nonneg h _ _
  by_cases hz : m = 0
  · rw [a4 hz, b4 hz]
  · obtain ⟨a5, a6⟩ := a5 (by omega)
    obtain ⟨b5, b6⟩ := b5 (by omega)
    rcases (show t < u ∨ t = u ∨ u < t by omega) with hlt | rfl | hlt
    · have := total_add h (show a ≤ t by omega) (show t ≤ u - 1 by omega) 2000
      have := total_nonneg h t (u - 1)
      omega
    · rfl
    · have := total_add h (show a ≤ u by omega) (show u ≤ t - 1 by omega) 2000
      have := total_nonneg h u (t - 1)
      omega
theorem least_trans {K : Cal} (h : ¬ (K.s < 0 ∨ 1440 ≤ K.s ∨ K.e ≤ K.s ∨ 1440 < K.e)) {a m n t u : Int} (h1 : Least K a m t) (h2 : Least K t n u) : Least K a (m + n) u := by
  obtain ⟨a1, a2, a3, a4, a5⟩ := h1
  obtain ⟨b1, b2, b3, b4, b5⟩ := h2
  have hm : 0 ≤ m := by rw [← a3]; exact total_nonneg h _ _
  have hn : 0 ≤ n := by rw [← b3]; exact total_nonneg h _ _
  have e1 := total_add h a1 b1 2000
  refine ⟨by omega, b2, by omega, fun hz => ?_, fun hp => ?_⟩
  · rw [b4 (by omega), a4 (by omega)]
  · by_cases hz : n = 0
    · have hut := b4 hz
      subst hut
      have := a5 (by omega)
      exact ⟨by omega, by omega⟩
    · obtain ⟨b5, b6⟩ := b5 (by omega)
      have := total_add h a1 (show t ≤ u - 1 by omega) 2000
      exact ⟨by omega, by omega⟩
/-- After, told by Least. -/
theorem aftR_least {K : Cal} {a m t z : Int} (hz : cerr K = 0) (h : aftR K a m = (t, z)) : (z = 0 → 0 ≤ a ∧ a ≤ 2880000 ∧ Least K a m t) ∧ (0 ≤ a → a ≤ 2880000 → 0 ≤ m → m ≤ total K a 2880000 2000 → z = 0) := by
  have hh := (cerr_zero hz).1
  simp only [badHours] at hh
  by_cases hc : 0 ≤ a ∧ a ≤ 2880000 ∧ 0 ≤ m
  · obtain ⟨a0, a1, m0⟩ := hc
    by_cases hm : m = 0
    · subst hm
      rw [aftR_zero hz ⟨a0, a1⟩] at h
      obtain ⟨rfl, rfl⟩ := Prod.mk.inj h
      exact ⟨fun _ => ⟨a0, a1, Int.le_refl _, a1, total_self _ _, fun _ => rfl, fun x => by omega⟩, fun _ _ _ _ => rfl⟩
    · rw [aftR_in hz ⟨a0, a1⟩ (by omega)] at h
      have h1 := aft_least (a := a) hh 2000 0 m m (by omega) (by omega) (by simp [total])
      by_cases hle : m ≤ total K a 2880000 2000
      · obtain ⟨u, hu, hL⟩ := h1.2 hle
        rw [hu] at h
        obtain ⟨rfl, rfl⟩ := Prod.mk.inj h
        exact ⟨fun _ => ⟨a0, a1, hL⟩, fun _ _ _ _ => rfl⟩
      · rw [h1.1 (by omega)] at h
        obtain ⟨rfl, rfl⟩ := Prod.mk.inj h
        exact ⟨fun x => by omega, fun _ _ _ x => by omega⟩
  · rw [aftR_out hz hc] at h
    obtain ⟨rfl, rfl⟩ := Prod.mk.inj h
    exact ⟨fun x => by omega, fun x y z _ => absurd ⟨x, y, z⟩ hc⟩
theorem wrk_ok {K : Cal} {a b v : Int} (hz : cerr K = 0) (h : wrk K a b = (v, 0)) : 0 ≤ a ∧ a ≤ b ∧ b ≤ 2880000 ∧ v = total K a b 2000 ∧ 0 ≤ v ∧ v ≤ 2880000 := by
  have hh := (cerr_zero hz).1
  simp only [badHours] at hh
  by_cases hc : 0 ≤ a ∧ a ≤ b ∧ b ≤ 2880000
  · rw [wrk_in hz hc] at h
    have := total_bd hh a b 2000
    have e := congrArg Prod.fst h
    simp only at e
    exact ⟨hc.1, hc.2.1, hc.2.2, e.symm, by omega, by omega⟩
  · rw [wrk_out hz hc] at h
    have := congrArg Prod.snd h
    simp at this
/-- What is worked to a time between and from there is what is worked in all. -/
theorem wrk_add {K : Cal} {a b c ra ea rb eb rc ec : Int} (hz : cerr K = 0) (h1 : wrk K a b = (ra, ea)) (h2 : wrk K b c = (rb, eb)) (h3 : wrk K a c = (rc, ec)) : (ea == 0) = false ∨ (eb == 0) = false ∧ ea = 0 ∨ ea = 0 ∧ eb = 0 ∧ ec = 0 ∧ 0 ≤ ra ∧ ra ≤ 2880000 ∧ 0 ≤ rb ∧ rb ≤ 2880000 ∧ rc = ra + rb := by
  by_cases e1 : ea = 0
  · by_cases e2 : eb = 0
    · subst e1 e2
      obtain ⟨p1, p2, p3, p4, p5, p6⟩ := wrk_ok hz h1
      obtain ⟨q1, q2, q3, q4, q5, q6⟩ := wrk_ok hz h2
      rw [wrk_in hz ⟨p1, by omega, q3⟩] at h3
      obtain ⟨rfl, rfl⟩ := Prod.mk.inj h3
      have hh := (cerr_zero hz).1
      simp only [badHours] at hh
      have := total_add hh p2 q2 2000
      exact .inr (.inr ⟨rfl, rfl, rfl, p5, p6, q5, q6, by omega⟩)
    · exact .inr (.inl ⟨by simpa using e2, e1⟩)
  · exact .inl (by simpa using e1)
/-- What Working tells of the time that After gives. -/
theorem wrk_least {K : Cal} {a m t : Int} (hz : cerr K = 0) (a0 : 0 ≤ a) (h : Least K a m t) : wrk K a t = (m, 0) ∧ (0 < m → wrk K a (t - 1) = (m - 1, 0)) ∧ 0 ≤ m ∧ m ≤ 2880000 := by
  obtain ⟨h1, h2, h3, h4, h5⟩ := h
  have hh := (cerr_zero hz).1
  simp only [badHours] at hh
  have hb := total_bd hh a t 2000
  refine ⟨by rw [wrk_in hz ⟨a0, h1, h2⟩, h3], fun hp => ?_, by omega, by omega⟩
  have := h5 hp
  rw [wrk_in hz ⟨a0, by omega, by omega⟩, this.1]
/-- One more part is worked. -/
theorem share_step {K : Cal} {a m t y k p : Int} (hz : cerr K = 0) (a0 : 0 ≤ a) (hL : Least K a m t) (hy : Least K a k y) (hp : 0 ≤ p) (hs : k + p ≤ m) : ∃ u, aftR K y p = (u, 0) ∧ Least K a (k + p) u := by
  have hh := (cerr_zero hz).1
  simp only [badHours] at hh
  obtain ⟨u, z, hu⟩ : ∃ u z, aftR K y p = (u, z) := ⟨_, _, rfl⟩
  have h1 := total_add hh hL.1 hL.2.1 2000
  have h2 := total_add hh hy.1 hy.2.1 2000
  have h3 := total_nonneg hh t 2880000
  have h4 := hL.2.2.1
  have h5 := hy.2.2.1
  have h6 := hy.1
  have hc := aftR_least hz hu
  have z0 := hc.2 (by omega) hy.2.1 hp (by omega)
  subst z0
  exact ⟨u, hu, least_trans hh hy (hc.1 rfl).2.2⟩
theorem least_zero {K : Cal} {a : Int} (h : a ≤ 2880000) : Least K a 0 a := ⟨Int.le_refl _, h, total_self _ _, fun _ => rfl, fun x => by omega⟩
/-- After of After is After of the sum. -/
theorem aft_aft {K : Cal} {a m r t u f v g : Int} (hz : cerr K = 0) (ht : aftR K a m = (t, 0)) (r0 : 0 ≤ r) (hu : aftR K t r = (u, f)) (hv : aftR K a (m + r) = (v, g)) : f = g ∧ u = v := by
  have hh := (cerr_zero hz).1
  simp only [badHours] at hh
  obtain ⟨a0, a1, hL⟩ := (aftR_least hz ht).1 rfl
  have hm : 0 ≤ m := (wrk_least hz a0 hL).2.2.1
  have ht1 := hL.1
  have ht2 := hL.2.1
  have hadd := total_add hh ht1 ht2 2000
  have htm := hL.2.2.1
  have cu := aftR_least hz hu
  have cv := aftR_least hz hv
  by_cases hle : r ≤ total K t 2880000 2000
  · have f0 := cu.2 (by omega) (by omega) r0 hle
    have g0 := cv.2 a0 a1 (by omega) (by omega)
    subst f0 g0
    exact ⟨rfl, least_unique hh (least_trans hh hL (cu.1 rfl).2.2) (cv.1 rfl).2.2⟩
  · have hnn := total_nonneg hh t 2880000
    have hf : (u, f) = (0, 4) := by
      rw [← hu]
      by_cases hr : r = 0
      · have := total_nonneg hh t 2880000; omega
      · rw [aftR_in hz ⟨by omega, by omega⟩ (by omega)]
        exact (aft_least (a := t) hh 2000 0 r r (by omega) (by omega) (by simp [total])).1 (by omega)
    have hg : (v, g) = (0, 4) := by
      rw [← hv, aftR_in hz ⟨a0, a1⟩ (by omega)]
      exact (aft_least (a := a) hh 2000 0 (m + r) (m + r) (by omega) (by omega) (by simp [total])).1 (by omega)
    obtain ⟨rfl, rfl⟩ := Prod.mk.inj hf
    obtain ⟨rfl, rfl⟩ := Prod.mk.inj hg
    exact ⟨rfl, rfl⟩
end Go.Proofs.YtplgndllfkceiaaDoor
