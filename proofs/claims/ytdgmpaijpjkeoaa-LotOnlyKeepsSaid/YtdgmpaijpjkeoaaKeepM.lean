/-
  SHARES AND PATHS AMONG KEPT LOTS: PLAIN.
-/
import Derived.Test.YtdgmpaijpjkeoaaOnlyC
namespace Go.Proofs.Ytdgmpaijpjkeoaa
open Go.RowKit
def rkP (P : Nat → Bool) (j : Nat) : Nat := (selL P j).length
theorem rank_nat (P : Nat → Bool) (j : Nat) : (rankP P j).toNat = rkP P j := by simp [rankP, rkP]
theorem rk_succ {P : Nat → Bool} {j : Nat} (h : P j = true) : rkP P (j + 1) = rkP P j + 1 := by unfold rkP; rw [selL_yes h, List.length_append]; rfl
theorem rk_skip {P : Nat → Bool} {j : Nat} (h : P j = false) : rkP P (j + 1) = rkP P j := by unfold rkP; rw [selL_no h]
theorem rk_mono (P : Nat → Bool) {i j : Nat} (h : i ≤ j) : rkP P i ≤ rkP P j := by
  induction j with
  | zero => have : i = 0 := by omega
            subst this; exact Nat.le_refl _
  | succ j ih =>
    by_cases he : i = j + 1
    · rw [he]; exact Nat.le_refl _
    · have := ih (by omega)
      cases hp : P j with
      | true => rw [rk_succ hp]; omega
      | false => rw [rk_skip hp]; exact this
theorem rk_lt {P : Nat → Bool} {i j : Nat} (h : i < j) (hp : P i = true) : rkP P i < rkP P j := by
  have := rk_mono P (show i + 1 ≤ j from h)
  rw [rk_succ hp] at this
  omega
theorem rk_inj {P : Nat → Bool} {i j : Nat} (hi : P i = true) (hj : P j = true) (h : rkP P i = rkP P j) : i = j := by
  rcases Nat.lt_trichotomy i j with a | a | a
  · have := rk_lt a hi; omega
  · exact a
  · have := rk_lt a hj; omega
theorem rk_le (P : Nat → Bool) (j : Nat) : rkP P j ≤ j := selL_length P j
/-- Every new number is that of a kept lot. -/
theorem rk_back {P : Nat → Bool} : ∀ {n k : Nat}, k < rkP P n → ∃ j, j < n ∧ P j = true ∧ rkP P j = k
  | 0, k, h => by simp [rkP, selL] at h
  | n + 1, k, h => by
    cases hp : P n with
    | true =>
      rw [rk_succ hp] at h
      by_cases he : k < rkP P n
      · obtain ⟨j, h1, h2, h3⟩ := rk_back he
        exact ⟨j, by omega, h2, h3⟩
      · exact ⟨n, by omega, hp, by omega⟩
    | false =>
      rw [rk_skip hp] at h
      obtain ⟨j, h1, h2, h3⟩ := rk_back h
      exact ⟨j, by omega, h2, h3⟩
theorem sel_get {P : Nat → Bool} : ∀ {n j : Nat}, j < n → P j = true → (selL P n)[rkP P j]? = some (j : Int)
  | 0, j, h, _ => by omega
  | n + 1, j, h, hj => by
    by_cases he : j = n
    · subst he
      rw [selL_yes hj, List.getElem?_append_right (by unfold rkP; omega)]
      simp [rkP]
    · have ih := sel_get (n := n) (by omega) hj
      cases hp : P n with
      | true => rw [selL_yes hp, List.getElem?_append_left (by have := (List.getElem?_eq_some_iff.1 ih).1; exact this)]; exact ih
      | false => rw [selL_no hp]; exact ih
theorem sub_get {l : List LotD} {P : Nat → Bool} {n j : Nat} (h : j < n) (hj : P j = true) : (subL l P n)[rkP P j]? = some (subX l P j) := by
  rw [subL_sel, List.getElem?_map, sel_get h hj]; simp
theorem sub_getD {l : List LotD} {P : Nat → Bool} {n j : Nat} (h : j < n) (hj : P j = true) : (subL l P n).getD (rkP P j) default = subX l P j := by
  rw [List.getD_eq_getElem?_getD, sub_get h hj]; rfl
theorem lotsE_all {l : List LotD} : ∀ {r : List LotD} {i : Nat}, lotsE l i r = 0 → ∀ k (hk : k < r.length), lotE l (i + k) r[k] = 0
  | [], _, _, k, hk => by simp at hk
  | x :: r, i, h, k, hk => by
    simp only [lotsE] at h
    split at h
    · rename_i h0
      cases k with
      | zero => exact h0
      | succ k =>
        have := lotsE_all h k (by simpa using hk)
        rw [show i + 1 + k = i + (k + 1) by omega] at this
        exact this
    · contradiction
theorem lotsE_of {l : List LotD} : ∀ {r : List LotD} {i : Nat}, (∀ k (hk : k < r.length), lotE l (i + k) r[k] = 0) → lotsE l i r = 0
  | [], _, _ => rfl
  | x :: r, i, h => by
    have h0 := h 0 (by simp)
    simp only [Nat.add_zero, List.getElem_cons_zero] at h0
    rw [lotsE, if_pos h0]
    refine lotsE_of fun k hk => ?_
    have := h (k + 1) (by simpa using hk)
    rw [show i + 1 + k = i + (k + 1) by omega]
    exact this
/-- Numbers that are one to one keep parts apart. -/
theorem badPs_re {S : Int → Prop} {f : Int → Int} {i i' : Nat} (h1 : ∀ x, S x → 0 ≤ f x ∧ f x < i') (h2 : ∀ x y, S x → S y → f x = f y → x = y) :
    ∀ {ps pre : List (Int × Int)}, (∀ p ∈ pre, S p.1) → (∀ p ∈ ps, S p.1) → badPs i pre ps = false → badPs i' (pre.map fun p => (f p.1, p.2)) (ps.map fun p => (f p.1, p.2)) = false
  | [], _, _, _, _ => rfl
  | p :: r, pre, hpre, hps, h => by
    simp only [badPs, Bool.or_eq_false_iff] at h
    have hp := hps p (by simp)
    simp only [List.map_cons, badPs, Bool.or_eq_false_iff]
    refine ⟨?_, ?_⟩
    · have hb := h.1
      simp only [badP, Bool.or_eq_false_iff, decide_eq_false_iff_not, List.any_eq_false, beq_iff_eq] at hb ⊢
      have hr := h1 p.1 hp
      refine ⟨⟨⟨⟨by omega, by omega⟩, hb.1.1.2⟩, hb.1.2⟩, fun q hq => ?_⟩
      obtain ⟨q', hq', rfl⟩ := List.mem_map.1 hq
      exact fun e => hb.2 q' hq' (h2 _ _ (hpre q' hq') hp e)
    · have := badPs_re h1 h2 (pre := pre ++ [p]) (ps := r) (fun q hq => by
        rcases List.mem_append.1 hq with hq | hq
        · exact hpre q hq
        · simp at hq; subst hq; exact hp) (fun q hq => hps q (by simp [hq])) h.2
      rw [List.map_append] at this
      exact this
theorem sumP_re (f : Int → Int) (ps : List (Int × Int)) : sumP (ps.map fun p => (f p.1, p.2)) = sumP ps := by
  unfold sumP
  rw [List.map_map]
  rfl
theorem sum_filter_le (f : Nat → Int) (P : Nat → Bool) : ∀ (ns : List Nat), (∀ m ∈ ns, 0 ≤ f m) → ((ns.filter P).map f).sum ≤ (ns.map f).sum
  | [], _ => by simp
  | m :: ns, h => by
    have h1 := h m (by simp)
    have h2 := sum_filter_le f P ns (fun k hk => h k (by simp [hk]))
    cases hp : P m with
    | true => rw [List.filter_cons_of_pos (by simp [hp])]; simp only [List.map_cons, List.sum_cons]; omega
    | false => rw [List.filter_cons_of_neg (by simp [hp])]; simp only [List.map_cons, List.sum_cons]; omega
theorem range_map {l : List LotD} (f : LotD → Int) : (List.range l.length).map (fun m => f (l.getD m default)) = l.map f := by
  apply List.ext_getElem
  · simp
  · intro i h1 h2
    simp only [List.getElem_map, List.getElem_range]
    rw [getD_at' (by simpa using h1)]
section
variable {l : List LotD} {P : Nat → Bool} (hv : valE l = 0) (hP : ∀ i, P i = true → ∀ p ∈ (l.getD i default).parts, P p.1.toNat = true)
include hv hP
theorem sub_lot {j : Nat} (hj : j < l.length) (hp : P j = true) : lotE (subL l P l.length) (rkP P j) (subX l P j) = 0 := by
  have hG := valE_zero hv
  have h0 : lotE l j l[j] = 0 := by
    have := hv
    unfold valE at this
    split at this
    · cases this
    · split at this
      · contradiction
      · rename_i h2
        have := lotsE_all (l := l) (r := l) (i := 0) (by simpa using h2) j hj
        rwa [Nat.zero_add] at this
  have hg := lotE_zero h0
  have hpart := hg.part
  have hPj := hP j hp
  have hsx : subX l P j = ⟨l[j].kind, l[j].mass, l[j].parts.map fun p => (rankP P p.1.toNat, p.2)⟩ := by rw [subX, getD_at' hj]
  rw [getD_at' hj] at hPj
  rw [hsx]
  obtain ⟨x, hx⟩ : ∃ x, x = l[j] := ⟨_, rfl⟩
  rw [← hx] at h0 hg hpart hPj ⊢
  have hoil : oily (subL l P l.length) (x.parts.map fun p => (rankP P p.1.toNat, p.2)) = oily l x.parts := by
    have key : ∀ qs : List (Int × Int), (∀ p ∈ qs, kindOf (subL l P l.length) (rankP P p.1.toNat) = kindOf l p.1) → oily (subL l P l.length) (qs.map fun p => (rankP P p.1.toNat, p.2)) = oily l qs := by
      intro qs
      induction qs with
      | nil => intro _; rfl
      | cons p qs ih =>
        intro h
        have h1 := h p (by simp)
        have h2 := ih (fun q hq => h q (by simp [hq]))
        unfold oily at h2 ⊢
        simp only [List.map_cons, List.any_cons, h1, h2]
    refine key _ fun p hpp => ?_
    have h1 := hpart p hpp
    unfold kindOf
    rw [rank_nat, sub_getD (by omega) (hPj p hpp)]
    rfl
  unfold lotE at h0 ⊢
  split at h0
  · cases h0
  · rename_i c1
    rw [if_neg c1]
    split at h0
    · cases h0
    · rename_i c2
      rw [if_neg (by simpa using c2)]
      split at h0
      · cases h0
      · rename_i c3
        have := badPs_re (S := fun x : Int => 0 ≤ x ∧ x < j ∧ P x.toNat = true) (f := fun x => rankP P x.toNat) (i := j) (i' := rkP P j) (fun y hy => by
          have h1 := rank_nat P y.toNat
          have h2 := rank_bd P y.toNat
          have h3 := rk_lt (P := P) (i := y.toNat) (j := j) (by omega) hy.2.2
          omega) (fun y z hy hz e => by
          have := rk_inj hy.2.2 hz.2.2 (by rw [← rank_nat, ← rank_nat, e])
          omega) (ps := x.parts) (pre := []) (by simp) (fun p hpp => by
          have := hpart p hpp
          exact ⟨this.1, this.2.1, hPj p hpp⟩) (by simpa using c3)
        rw [List.map_nil] at this
        have hs : sumP (x.parts.map fun p => (rankP P p.1.toNat, p.2)) = sumP x.parts := sumP_re (fun y => rankP P y.toNat) _
        rw [if_neg (by rw [this]; decide)]
        simp only [List.length_map, hs, hoil]
        exact h0
theorem sub_val : valE (subL l P l.length) = 0 := by
  have hG := valE_zero hv
  have hgl : GoodAll l := hG.lot
  have hlen : (subL l P l.length).length = rkP P l.length := subL_length l P l.length
  have hl24 := hG.len
  have hrl := rk_le P l.length
  have hall : ∀ k (hk : k < (subL l P l.length).length), lotE (subL l P l.length) k (subL l P l.length)[k] = 0 := fun k hk => by
    rw [hlen] at hk
    obtain ⟨j, hj, hp, rfl⟩ := rk_back hk
    have h1 := sub_get (l := l) hj hp
    obtain ⟨h2, h3⟩ := List.getElem?_eq_some_iff.1 h1
    rw [h3]
    exact sub_lot hv hP hj hp
  have h1 : lotsE (subL l P l.length) 0 (subL l P l.length) = 0 := lotsE_of fun k hk => by rw [Nat.zero_add]; exact hall k hk
  unfold valE
  rw [if_neg (by omega), if_neg (by rw [h1]; decide), if_neg]
  rw [Bool.not_eq_true]
  unfold shortL
  rw [List.any_eq_false]
  intro k hk
  rw [List.mem_range, hlen] at hk
  obtain ⟨j, hj, hp, rfl⟩ := rk_back hk
  have hleft := hG.left j hj
  have ht : takenL (rkP P j) (subL l P l.length) ≤ takenL j l := by
    unfold takenL subL
    rw [List.map_map]
    have e1 : ((List.range l.length).filter P).map ((fun x => takenP (rkP P j) x.parts) ∘ subX l P) = ((List.range l.length).filter P).map fun m => takenP j (l.getD m default).parts := by
      refine List.map_congr_left fun m hm => ?_
      obtain ⟨hm1, hm2⟩ := List.mem_filter.1 hm
      have key : ∀ qs : List (Int × Int), (∀ p ∈ qs, 0 ≤ p.1 ∧ P p.1.toNat = true) → takenP (rkP P j) (qs.map fun p => (rankP P p.1.toNat, p.2)) = takenP j qs := by
        intro qs
        induction qs with
        | nil => intro _; rfl
        | cons p qs ih =>
          intro h
          have h1 := h p (by simp)
          have h2 := ih (fun q hq => h q (by simp [hq]))
          have e : ∀ (n : Nat) (p : Int × Int) r, takenP n (p :: r) = (if p.1 = n then p.2 else 0) + takenP n r := fun n p r => by
            unfold takenP
            by_cases hp : p.1 = n
            · simp [hp]
            · simp [hp]
          rw [List.map_cons, e, e, h2]
          congr 1
          have hiff : (rankP P p.1.toNat = (rkP P j : Int)) ↔ p.1 = (j : Int) := by
            constructor
            · intro e
              have := rk_inj h1.2 hp (by rw [← rank_nat, e]; simp)
              omega
            · intro e
              rw [e]; simp [rankP, rkP]
          by_cases hc : p.1 = (j : Int)
          · rw [if_pos hc, if_pos (hiff.2 hc)]
          · rw [if_neg hc, if_neg (fun e => hc (hiff.1 e))]
      exact key _ (fun p hpp => ⟨(part_good hgl hpp).1, hP m hm2 p hpp⟩)
    rw [e1]
    have h2 := sum_filter_le (fun m => takenP j (l.getD m default).parts) P (List.range l.length) (fun m _ => by
      exact (takenP_bd (n := j) (fun p hpp => (part_good hgl hpp).2.2)).1)
    rw [range_map (l := l) (fun x => takenP j x.parts)] at h2
    exact h2
  have hm : ((subL l P l.length).getD (rkP P j) default).mass = (l.getD j default).mass := by rw [sub_getD hj hp]; rfl
  unfold leftL at hleft ⊢
  rw [hm]
  intro hc
  have := of_decide_eq_true hc
  omega

omit hv hP in
theorem sub_tN {j : Nat} (hj : j < l.length) (hp : P j = true) : tN (subL l P l.length) (rkP P j) = tN l j := by
  unfold tN
  rw [sub_getD hj hp]
  have hs : sumP (subX l P j).parts = sumP (l.getD j default).parts := sumP_re (fun y => rankP P y.toNat) _
  rw [hs]
omit hv hP in
theorem sub_psN {j : Nat} (hj : j < l.length) (hp : P j = true) : psN (subL l P l.length) (rkP P j) = (psN l j).map fun p => (rkP P p.1, p.2) := by
  unfold psN
  rw [sub_getD hj hp]
  unfold subX
  rw [List.map_map, List.map_map]
  exact List.map_congr_left fun p _ => by simp [rank_nat]
theorem sub_share {i : Nat} (hi : i < l.length) (hpi : P i = true) (j : Nat) : j < l.length → P j = true → fN (subL l P l.length) (rkP P i) (rkP P j) * Pr (tN l) 0 (j + 1) = fN l i j * Pr (tN (subL l P l.length)) 0 (rkP P j + 1) := by
  have hg : GoodAll l := (valE_zero hv).lot
  have hg' : GoodAll (subL l P l.length) := (valE_zero (sub_val hv hP)).lot
  induction j using Nat.strongRecOn with
  | _ j ih =>
    intro hj hp
    rcases Nat.lt_trichotomy j i with h | h | h
    · have h1 : fN l i j = 0 := NN_low (psN_lt hg j) h
      have h2 : fN (subL l P l.length) (rkP P i) (rkP P j) = 0 := NN_low (psN_lt hg' _) (rk_lt h hp)
      rw [h1, h2, Nat.zero_mul, Nat.zero_mul]
    · subst h
      have h1 : fN l j j = Pr (tN l) 0 (j + 1) := NN_of (psN_lt hg j) rfl
      have h2 : fN (subL l P l.length) (rkP P j) (rkP P j) = Pr (tN (subL l P l.length)) 0 (rkP P j + 1) := NN_of (psN_lt hg' _) rfl
      rw [h1, h2, Nat.mul_comm]
    · have h1 : fN l i j = ((psN l j).map fun p => fN l i p.1 * p.2 * Pr (tN l) (p.1 + 1) j).sum := NN_high (psN_lt hg j) h
      have h2 : fN (subL l P l.length) (rkP P i) (rkP P j) = ((psN (subL l P l.length) (rkP P j)).map fun p => fN (subL l P l.length) (rkP P i) p.1 * p.2 * Pr (tN (subL l P l.length)) (p.1 + 1) (rkP P j)).sum := NN_high (psN_lt hg' _) (rk_lt h hpi)
      rw [h1, h2, sub_psN hj hp, List.map_map, ← sum_map_mul_right, ← sum_map_mul_right]
      refine sum_map_congr _ _ _ fun p hpp => ?_
      have hlt := psN_lt hg j p hpp
      have hpp2 : P p.1 = true := by
        unfold psN at hpp
        obtain ⟨q, hq, rfl⟩ := List.mem_map.1 hpp
        exact hP j hp q hq
      have hr := rk_lt hlt hpp2
      have e := ih p.1 hlt (by omega) hpp2
      simp only [Function.comp]
      rw [Pr_succ (t := tN l) (a := 0) (b := j) (by omega), Pr_succ (t := tN (subL l P l.length)) (a := 0) (b := rkP P j) (by omega), sub_tN hj hp, ← Pr_mul (t := tN l) (a := 0) (b := p.1 + 1) (c := j) (by omega) (by omega), ← Pr_mul (t := tN (subL l P l.length)) (a := 0) (b := rkP P p.1 + 1) (c := rkP P j) (by omega) (by omega)]
      generalize fN (subL l P l.length) (rkP P i) (rkP P p.1) = F' at e ⊢
      generalize Pr (tN l) 0 (p.1 + 1) = A at e ⊢
      generalize fN l i p.1 = F at e ⊢
      generalize Pr (tN (subL l P l.length)) 0 (rkP P p.1 + 1) = A' at e ⊢
      generalize Pr (tN (subL l P l.length)) (rkP P p.1 + 1) (rkP P j) = B'
      generalize Pr (tN l) (p.1 + 1) j = B
      generalize tN l j = T
      calc F' * p.2 * B' * (A * B * T) = (F' * A) * (p.2 * B' * (B * T)) := by ac_rfl
        _ = (F * A') * (p.2 * B' * (B * T)) := by rw [e]
        _ = F * p.2 * B * (A' * B' * T) := by ac_rfl
theorem sub_path {i : Nat} (hi : i < l.length) (hpi : P i = true) (j : Nat) : j < l.length → P j = true → pathV (subL l P l.length) (rkP P i) (rkP P j) = pathV l i j := by
  have hg : GoodAll l := (valE_zero hv).lot
  have hg' : GoodAll (subL l P l.length) := (valE_zero (sub_val hv hP)).lot
  induction j using Nat.strongRecOn with
  | _ j ih =>
    intro hj hp
    rcases Nat.lt_trichotomy j i with h | h | h
    · rw [path_low hg h, path_low hg' (rk_lt h hp)]
    · subst h
      rw [path_of hg, path_of hg']
    · rw [pathV_eq hg, pathV_eq hg', pathF, pathF, if_neg (by have := rk_lt h hpi; omega), if_pos (rk_lt h hpi), sub_getD hj hp, if_neg (by omega), if_pos h]
      unfold subX
      rw [List.map_map]
      congr 1
      refine List.map_congr_left fun p hpp => ?_
      have hlt := part_lt hg hpp
      simp only [Function.comp, rank_nat]
      exact ih _ hlt (by omega) (hP j hp p hpp)
end
theorem frE_scale (n d c : Nat) (hc : 0 < c) : frE (n * c) (d * c) = frE n d := by
  unfold frE
  rw [Nat.gcd_mul_right, Nat.mul_div_mul_right _ _ hc, Nat.mul_div_mul_right _ _ hc]
  by_cases h : n = 0
  · subst h; rw [Nat.zero_mul, if_pos rfl]
  · rw [if_neg h, if_neg (by intro e; rcases Nat.mul_eq_zero.1 e with e | e <;> omega)]
theorem frE_same {n d n' d' : Nat} (h : n * d' = n' * d) (hd : 0 < d) (hd' : 0 < d') : frE n d = frE n' d' := by
  rw [← frE_scale n d d' hd', h, Nat.mul_comm d d', frE_scale n' d' d hd]
theorem keeps_plain {l : List LotD} {xs : List Int} {a : List LotD} {old : List Int} (h : onlyE l xs = (a, old, 0)) {p q : Nat} (hp : p < old.length) (hq : q < old.length) :
    0 ≤ old.getD p 0 ∧ old.getD p 0 < l.length ∧ 0 ≤ old.getD q 0 ∧ old.getD q 0 < l.length ∧ shE a p q = shE l (old.getD p 0) (old.getD q 0) ∧ pathsE a p q = (pathV l (old.getD p 0).toNat (old.getD q 0).toNat, 0) ∧ pathsE l (old.getD p 0) (old.getD q 0) = (pathV l (old.getD p 0).toNat (old.getD q 0).toNat, 0) := by
  unfold onlyE at h
  by_cases hv : valE l = 0
  · rw [if_neg (by rw [hv]; decide)] at h
    by_cases hk : keepE l.length xs = true
    · rw [if_pos hk] at h
      simp only [Prod.mk.injEq] at h
      exact absurd h.2.2 (by decide)
    · rw [if_neg hk] at h
      simp only [Prod.mk.injEq, and_true] at h
      obtain ⟨rfl, rfl⟩ := h
      have hg : GoodAll l := (valE_zero hv).lot
      have hP : ∀ i, oldB l xs i = true → ∀ p ∈ (l.getD i default).parts, oldB l xs p.1.toNat = true := fun i hi p hp => old_part hg hi hp
      have hv' := sub_val hv hP
      have hg' : GoodAll (subL l (oldB l xs) l.length) := (valE_zero hv').lot
      obtain ⟨i, hi, hpi, rfl⟩ := rk_back (P := oldB l xs) (n := l.length) hp
      obtain ⟨j, hj, hpj, rfl⟩ := rk_back (P := oldB l xs) (n := l.length) hq
      have e1 : (selL (oldB l xs) l.length).getD (rkP (oldB l xs) i) 0 = (i : Int) := by rw [List.getD_eq_getElem?_getD, sel_get hi hpi]; rfl
      have e2 : (selL (oldB l xs) l.length).getD (rkP (oldB l xs) j) 0 = (j : Int) := by rw [List.getD_eq_getElem?_getD, sel_get hj hpj]; rfl
      have hlen : (subL l (oldB l xs) l.length).length = rkP (oldB l xs) l.length := subL_length _ _ _
      have c1 : chkE (subL l (oldB l xs) l.length) [(rkP (oldB l xs) i : Int), (rkP (oldB l xs) j : Int)] = 0 := by
        unfold chkE
        have h1 := rk_lt hi hpi
        have h2 := rk_lt hj hpj
        rw [if_neg (by rw [hv']; decide), if_pos]
        simp [inL, hlen, h1, h2]
      have c2 : chkE l [(i : Int), (j : Int)] = 0 := by
        unfold chkE
        rw [if_neg (by rw [hv]; decide), if_pos]
        simp [inL, hi, hj]
      rw [e1, e2]
      refine ⟨by omega, by omega, by omega, by omega, ?_, ?_, ?_⟩
      · unfold shE
        rw [if_neg (by rw [c1]; decide), if_neg (by rw [c2]; decide)]
        simp only [Int.toNat_natCast]
        exact frE_same (sub_share hv hP hi hpi j hj hpj) (Pr_pos (tN_pos hg') _ _) (Pr_pos (tN_pos hg) _ _)
      · unfold pathsE
        rw [if_neg (by rw [c1]; decide)]
        simp only [Int.toNat_natCast, Prod.mk.injEq, and_true]
        exact sub_path hv hP hi hpi j hj hpj
      · unfold pathsE
        rw [if_neg (by rw [c2]; decide)]
  · rw [if_pos hv] at h
    simp only [Prod.mk.injEq] at h
    exact absurd h.2.2 hv
end Go.Proofs.Ytdgmpaijpjkeoaa
