/-
  rest.
-/
import Derived.Test.YtdgmpaijpjkeoaaLotD
import Derived.Test.YtdgmpaijpjkeoaaOwn
namespace Go.Proofs.Ytdgmpaijpjkeoaa
open Go.RowKit
attribute [local go_sem] grow_cell grow_frozen
theorem takenL_bd {l : List LotD} {j : Nat} (h : ∀ x ∈ l, x.parts.length ≤ 6 ∧ ∀ p ∈ x.parts, 1 ≤ p.2 ∧ p.2 ≤ 100000) : 0 ≤ takenL j l ∧ takenL j l ≤ 600000 * l.length := by
  induction l with
  | nil => simp [takenL]
  | cons x l ih =>
    have h1 := h x (by simp)
    have h2 := ih (fun y hy => h y (by simp [hy]))
    have h3 := takenP_bd (n := j) h1.2
    have e : takenL j (x :: l) = takenP j x.parts + takenL j l := rfl
    rw [e, List.length_cons]
    omega
theorem takenP_zero {n : Nat} {ps : List (Int × Int)} (h : ∀ p ∈ ps, p.1 < n) : takenP n ps = 0 := by
  induction ps with
  | nil => rfl
  | cons p r ih =>
    have h1 := h p (by simp)
    have e : takenP n (p :: r) = (if p.1 = n then p.2 else 0) + takenP n r := by
      unfold takenP
      by_cases hp : p.1 = n
      · simp [hp]
      · simp [hp]
    rw [e, if_neg (by omega), ih (fun q hq => h q (by simp [hq]))]; rfl
theorem takenL_zero {n : Nat} {l : List LotD} (h : ∀ x ∈ l, ∀ p ∈ x.parts, p.1 < n) : takenL n l = 0 := by
  induction l with
  | nil => rfl
  | cons x l ih =>
    have e : takenL n (x :: l) = takenP n x.parts + takenL n l := rfl
    rw [e, takenP_zero (h x (by simp)), ih (fun y hy => h y (by simp [hy]))]; rfl
/-- The lots are good, one by one. -/
def GoodAll (l : List LotD) : Prop := ∀ k (hk : k < l.length), GoodLot l k l[k]
theorem GoodAll.mem {l : List LotD} (h : GoodAll l) {x : LotD} (hx : x ∈ l) : x.parts.length ≤ 6 ∧ ∀ p ∈ x.parts, 1 ≤ p.2 ∧ p.2 ≤ 100000 := by
  obtain ⟨k, hk, rfl⟩ := List.getElem_of_mem hx
  have := h k hk
  exact ⟨this.plen, fun p hp => (this.part p hp).2.2⟩
def massOf (l : List LotD) (j : Nat) : Int := (l.getD j default).mass
/-- What is left in the list: of lots below k all is reckoned that lots below k take. -/
def rowH (l : List LotD) (k : Nat) : List Int := (List.range l.length).map fun j => if j < k then massOf l j - takenL j (l.take k) else 0
def rowM (l : List LotD) (k m : Nat) : List Int := (List.range l.length).map fun j => if j ≤ k then massOf l j - takenL j (l.take k) - takenP j ((l.getD k default).parts.take m) else 0
def restL (l : List LotD) : List Int := (List.range l.length).map (leftL l)
theorem rowH_length (l : List LotD) (k : Nat) : (rowH l k).length = l.length := by simp [rowH]
theorem rowM_length (l : List LotD) (k m : Nat) : (rowM l k m).length = l.length := by simp [rowM]
theorem rowH_zero (l : List LotD) : rowH l 0 = List.replicate l.length 0 := by
  unfold rowH
  apply List.ext_getElem
  · simp
  · intro i h1 h2; simp
theorem getD_at' {l : List LotD} {k : Nat} (hk : k < l.length) : l.getD k default = l[k] := by rw [List.getD_eq_getElem?_getD, List.getElem?_eq_getElem hk]; rfl
theorem rowH_set {l : List LotD} (hg : GoodAll l) {k : Nat} (hk : k < l.length) : (rowH l k).set k (massOf l k) = rowM l k 0 := by
  apply List.ext_getElem
  · simp [rowH, rowM]
  · intro i h1 h2
    rw [List.getElem_set]
    simp only [rowH, rowM, List.getElem_map, List.getElem_range, List.take_zero]
    have e0 : takenP i [] = 0 := rfl
    rw [e0]
    by_cases he : k = i
    · subst he
      rw [if_pos rfl, if_pos (Nat.le_refl _), takenL_zero (fun x hx p hp => by
        obtain ⟨j, hj, rfl⟩ := List.getElem_of_mem hx
        rw [List.length_take] at hj
        rw [List.getElem_take] at hp
        have := (hg j (by omega)).part p hp
        omega)]
      omega
    · rw [if_neg he]
      by_cases hl : i < k
      · rw [if_pos hl, if_pos (by omega)]; omega
      · rw [if_neg hl, if_neg (by omega)]
theorem rowM_at {l : List LotD} {k m j : Nat} (hj : j < l.length) (hjk : j ≤ k) : (rowM l k m).getD j 0 = massOf l j - takenL j (l.take k) - takenP j ((l.getD k default).parts.take m) := by
  rw [List.getD_eq_getElem?_getD, List.getElem?_eq_getElem (by rw [rowM_length]; exact hj)]
  simp only [rowM, List.getElem_map, List.getElem_range, Option.getD_some, if_pos hjk]
theorem rowM_set {l : List LotD} {k m a : Nat} {q : Int} (hk : k < l.length) (hm : m < l[k].parts.length) (hp : l[k].parts[m] = ((a : Int), q)) (ha : a < k) : (rowM l k m).set a ((rowM l k m).getD a 0 - q) = rowM l k (m + 1) := by
  have hs : ∀ i, takenP i ((l.getD k default).parts.take (m + 1)) = takenP i ((l.getD k default).parts.take m) + (if (a : Int) = i then q else 0) := fun i => by
    rw [getD_at' hk, List.take_succ_eq_append_getElem hm, takenP_snoc, hp]
  rw [rowM_at (by omega) (by omega)]
  apply List.ext_getElem
  · simp [rowM]
  · intro i h1 h2
    rw [List.getElem_set]
    simp only [rowM, List.getElem_map, List.getElem_range]
    rw [hs]
    by_cases he : a = i
    · subst he
      rw [if_pos rfl, if_pos (by omega), if_pos rfl]; omega
    · rw [if_neg he]
      by_cases hl : i ≤ k
      · rw [if_pos hl, if_pos hl, if_neg (by omega)]; omega
      · rw [if_neg hl, if_neg hl]
theorem rowM_end {l : List LotD} {k : Nat} (hk : k < l.length) : rowM l k l[k].parts.length = rowH l (k + 1) := by
  apply List.ext_getElem
  · simp [rowM, rowH]
  · intro i h1 h2
    simp only [rowM, rowH, List.getElem_map, List.getElem_range]
    rw [List.take_succ_eq_append_getElem hk, takenL_snoc, getD_at' hk, List.take_length]
    by_cases hl : i ≤ k
    · rw [if_pos hl, if_pos (by omega)]; omega
    · rw [if_neg hl, if_neg (by omega)]
theorem rowH_end (l : List LotD) : rowH l l.length = restL l := by
  apply List.ext_getElem
  · simp [rowH, restL]
  · intro i h1 h2
    simp only [rowH, restL, List.getElem_map, List.getElem_range, List.take_length, leftL, massOf]
    rw [if_pos (by simpa [rowH] using h1)]
theorem massOf_bd {l : List LotD} (hg : GoodAll l) {j : Nat} (hj : j < l.length) : 1 ≤ massOf l j ∧ massOf l j ≤ 100000 := by
  have := hg j hj
  unfold massOf
  rw [getD_at' hj]
  exact ⟨this.mass0, this.mass1⟩
theorem rowM_bd {l : List LotD} (hg : GoodAll l) (hl : l.length ≤ 1000) {k m j : Nat} (hk : k < l.length) (hj : j ≤ k) : -2000000000 ≤ (rowM l k m).getD j 0 ∧ (rowM l k m).getD j 0 ≤ 100000 := by
  rw [rowM_at (by omega) hj]
  have h1 := massOf_bd hg (show j < l.length by omega)
  have h2 := takenL_bd (l := l.take k) (j := j) (fun x hx => hg.mem (List.mem_of_mem_take hx))
  have h3 := takenP_bd (n := j) (ps := (l.getD k default).parts.take m) (fun p hp => by
    have := List.mem_of_mem_take hp
    rw [getD_at' hk] at this
    exact ((hg k hk).part p this).2.2)
  have h4 : ((l.getD k default).parts.take m).length ≤ 6 := by
    rw [List.length_take, getD_at' hk]
    have := (hg k hk).plen
    omega
  rw [List.length_take] at h2
  omega
set_option maxRecDepth 100000 in
set_option maxHeartbeats 1000000 in
theorem rest_any (l : List LotD) (hl : l.length ≤ 1000) (hg : GoodAll l) (A : Option Addr) (c : Nat) (w : World) (hL : LotsIn w A l) :
    Calls Try.prog 65 #[.slice A l.length c] w fun e w' => e = .returned (.slice (some ⟨w.heap.size, 0, none⟩) l.length l.length) ∧ RowI w' w.heap.size (restL l) ∧ Below w.heap.size w w' := by
  have hmk := fun w => make_i64 l.length (by omega) w
  have HL := Lib.hid hL
  have HG := Lib.hid hg
  clear hL hg
  go_enter Try.func65, Try.ntmps65
  go_wp2
  obtain ⟨W, hW⟩ : ∃ W, W = w.alloc (.cells (zcells l.length) 3) := ⟨_, rfl⟩
  rw [← hW]
  have H0 := Lib.hid (show RowI W w.heap.size (rowH l 0) ∧ Below w.heap.size w W by rw [hW, rowH_zero]; exact ⟨RowI.zeros _ _, (by repeat' (first | (with_reducible exact Below.refl _ _) | (with_reducible assumption) | (with_reducible refine below_drewN ?_ _) | (with_reducible refine below_step (by assumption) ?_ ?_) | (with_reducible refine Below.alloc ?_ ?_ _) | (with_reducible refine Below.setCell ?_ ?_ _) | (with_reducible refine Below.drew ?_) | go_size | (exact Below.size (by assumption)) | (refine Nat.le_trans (Below.size (by assumption)) ?_)))⟩)
  clear hW hmk
  go_loopw [13] (fun t wr => ∃ k : Nat, t = .int .i64 k ∧ k ≤ l.length ∧ Hid (RowI wr w.heap.size (rowH l k) ∧ Below w.heap.size w wr)) (fun t _ => l.length - (intOf t).toNat)
  case atStart => exact ⟨0, rfl, by omega, H0⟩
  case round =>
    obtain ⟨k, rfl, hk, hr⟩ := hrel
    by_cases hlt : k < l.length
    · obtain ⟨b, o, rfl, hc⟩ := HL.out (by omega)
      obtain ⟨h1, h2, h3, h4, h5, A', c', h6, h8, h7⟩ := hc k hlt
      replace h4 := (hr.out.2.cell (p := ⟨b, _, none⟩) h3).trans h4
      replace h5 := (hr.out.2.cell (p := ⟨b, _, none⟩) h3).trans h5
      replace h6 := (hr.out.2.cell (p := ⟨b, _, none⟩) h3).trans h6
      have hmass := rowH_set HG.out hlt
      have hend := rowM_end hlt
      have hbd := fun m j hj => rowM_bd HG.out hl (m := m) (j := j) hlt hj
      have hgood := HG.out k hlt
      have hst := fun m a q => rowM_set (l := l) (k := k) (m := m) (a := a) (q := q) hlt
      have hme : massOf l k = l[k].mass := by unfold massOf; rw [getD_at' hlt]
      rw [hme] at hmass
      obtain ⟨x, hx⟩ : ∃ x, x = l[k] := ⟨_, rfl⟩
      rw [← hx] at h1 h2 h4 h5 h6 h7 h8 hmass hend hgood hst
      obtain ⟨kd, ms, ps⟩ := x
      simp only at h1 h2 h4 h5 h6 h8 hmass hend hst
      have HP := Lib.hid h7
      have HM := Lib.hid hmass
      have HE := Lib.hid hend
      have HB := Lib.hid hbd
      have HGD := Lib.hid hgood
      have HST := Lib.hid hst
      have hpl := hgood.plen
      simp only at hpl
      clear hc h7 hmass hend hbd hgood hst hx hme
      go_upto_region 5 with fail
      obtain ⟨wa, hwa⟩ : ∃ wa, wa = wr.alloc (.cells #[.int .i64 kd, .int .i64 ms, .slice A' ps.length c'] 37) := ⟨_, rfl⟩
      rw [← hwa]
      have q1 : wa.cell? ⟨wr.heap.size, 1, none⟩ = some (.int .i64 ms) := by rw [hwa]; simp
      have q2 : wa.cell? ⟨wr.heap.size, 2, none⟩ = some (.slice A' ps.length c') := by rw [hwa]; simp
      have hra := Lib.hid (show RowI wa w.heap.size (rowH l k) ∧ Below w.heap.size w wa by rw [hwa]; exact ⟨hr.out.1.alloc _, hr.out.2.alloc hr.out.2.size _⟩)
      have q3 := hra.out.1.get k (by rw [rowH_length]; exact hlt)
      have q4 : wa.frozen? ⟨w.heap.size, k, none⟩ = false := Row.free hra.out.1 k
      have q5 : w.heap.size < wa.heap.size := Row.lt hra.out.1
      have q6 : w.heap.size < wr.heap.size := Row.lt hr.out.1
      clear hwa h4 h5 h6 hr h3
      go_wp2
      obtain ⟨wb, hwb⟩ : ∃ wb, wb = wa.setCell ⟨w.heap.size, k, none⟩ (.int .i64 ms) := ⟨_, rfl⟩
      rw [← hwb]
      have hrb := Lib.hid (show RowI wb w.heap.size (rowM l k 0) ∧ Below w.heap.size w wb by rw [hwb, ← HM.out]; exact ⟨hra.out.1.set k ms, hra.out.2.setCell (by simp) _⟩)
      clear hwb q1 q2 q3 q4 q5 q6 hra
      go_loopw [26] (fun t wq => ∃ m : Nat, t = .int .i64 m ∧ m ≤ ps.length ∧ Hid (RowI wq w.heap.size (rowM l k m) ∧ Below w.heap.size w wq)) (fun t _ => ps.length - (intOf t).toNat)
      case atStart => exact ⟨0, rfl, by omega, hrb⟩
      case round =>
        clear hrb
        obtain ⟨m, rfl, hm, hq⟩ := hrel
        by_cases hml : m < ps.length
        · obtain ⟨b', o', rfl, hb', hcc⟩ := (HP.out.below hq.out.2).2 (by omega)
          obtain ⟨q0, q1⟩ := hcc m hml
          have hpg := HGD.out.part _ (List.getElem_mem hml)
          have hst := HST.out m
          obtain ⟨p, hp⟩ : ∃ p, p = ps[m] := ⟨_, rfl⟩
          rw [← hp] at q0 q1 hpg
          obtain ⟨p1, p2⟩ := p
          simp only at q0 q1 hpg
          obtain ⟨a, rfl⟩ : ∃ a : Nat, p1 = a := ⟨p1.toNat, by omega⟩
          have hset := hst a p2 hml hp.symm (by omega)
          have hbd := HB.out m a (by omega)
          obtain ⟨v, hv⟩ : ∃ v, v = (rowM l k m).getD a 0 := ⟨_, rfl⟩
          rw [← hv] at hset hbd
          have HSET := Lib.hid hset
          have HV := Lib.hid hv
          have ha : a < l.length := by omega
          clear hcc hst hp hset hv
          go_upto_region 9 with fail
          obtain ⟨wd, hwd⟩ : ∃ wd, wd = wr.alloc (.cells #[.int .i64 a, .int .i64 p2] 39) := ⟨_, rfl⟩
          rw [← hwd]
          have k0 : wd.cell? ⟨wr.heap.size, 0, none⟩ = some (.int .i64 a) := by rw [hwd]; simp
          have k1 : wd.cell? ⟨wr.heap.size, 1, none⟩ = some (.int .i64 p2) := by rw [hwd]; simp
          have kz : wr.heap.size < wd.heap.size := by rw [hwd]; simp
          have hd := Lib.hid (show RowI wd w.heap.size (rowM l k m) ∧ Below w.heap.size w wd by rw [hwd]; exact ⟨hq.out.1.alloc _, hq.out.2.alloc hq.out.2.size _⟩)
          have k2 := hd.out.1.get a (by rw [rowM_length]; exact ha)
          rw [← HV.out] at k2
          have k3 : wd.frozen? ⟨w.heap.size, a, none⟩ = false := Row.free hd.out.1 a
          have k4 : w.heap.size < wd.heap.size := Row.lt hd.out.1
          clear hwd q0 q1 hq hb'
          refine region_grow_tail 9 (by kernel_rfl) (by kernel_rfl) ?_
          simp only [List.take_succ_cons, List.take_zero, List.drop_succ_cons, List.drop_zero]
          repeat (go_big_quiet_step (fail))
          refine wpQuiet_nil ?_
          rintro w1 ⟨xg, hxg⟩
          have hb1 := below_grow wd xg
          rw [← hxg] at hb1
          clear hxg xg
          have h1d := Lib.hid (show RowI w1 w.heap.size (rowM l k m) ∧ Below w.heap.size w w1 from ⟨hd.out.1.keep hb1, hd.out.2.trans (hb1.mono hd.out.2.size)⟩)
          have k5 := h1d.out.1.get a (by rw [rowM_length]; exact ha)
          rw [← HV.out] at k5
          have k6 : w1.frozen? ⟨w.heap.size, a, none⟩ = false := Row.free h1d.out.1 a
          clear k0 k1 k2 k3 k4 kz hb1
          go_wp2
          go_roundw
          case rel => exact ⟨m + 1, by go_num, by omega, Lib.hid ⟨by rw [← HSET.out]; exact h1d.out.1.set a _, h1d.out.2.setCell (by simp) _⟩⟩
          case measure => simp [intOf]; omega
        · obtain rfl : m = ps.length := by omega
          have hq2 := Lib.hid (show RowI wr w.heap.size (rowH l (k + 1)) ∧ Below w.heap.size w wr from ⟨HE.out ▸ hq.out.1, hq.out.2⟩)
          clear hq
          go_wp2
          go_roundw
          case rel => exact ⟨k + 1, by go_num, by omega, hq2⟩
          case measure => simp [intOf]; omega
    · obtain rfl : k = l.length := by omega
      go_wp2
      go_ret
      exact ⟨rfl, by rw [← rowH_end]; exact hr.out.1, hr.out.2⟩
end Go.Proofs.Ytdgmpaijpjkeoaa
