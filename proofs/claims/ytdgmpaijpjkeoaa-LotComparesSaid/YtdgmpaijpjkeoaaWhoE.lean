/-
  WHOLE NUMBERS: By.
-/
import Derived.Test.YtdgmpaijpjkeoaaWhoD
namespace Go.Proofs.Ytdgmpaijpjkeoaa
open Go.RowKit
theorem make_w (n : Nat) (hn : n ≤ 1000000) (w : World) : (Instr.makeSlice 80 (.int .i64 (n : Int)) (.int .i64 (n : Int))).run Try.prog w = .ok (.slice (some ⟨w.heap.size, 0, none⟩) n n) (w.alloc (.cells (zcells n) 3)) := by
  obtain ⟨i0, hi, hz0, hz1, hz2⟩ := info_parts intInfo
  have hr := run_make (P := Try.prog) w 80 3 i0 (.int .i64 0) Try.underlying80 hi hz0 .i64 .i64 n n (by omega) (Int.le_refl _) (by rw [hz2]; omega) (by omega)
  rw [hz1] at hr
  simp only [Int.toNat_natCast, zcells_made] at hr
  exact hr
/-- The length of a slice. -/
def lenV (v : Value) : Nat := match v with | .slice _ n _ => n | _ => 0
theorem set_drop {xs : List Nat} {k q : Nat} (h : k < xs.length) : (xs.set k q).drop k = q :: xs.drop (k + 1) := by
  rw [List.drop_eq_getElem_cons (by rw [List.length_set]; exact h), List.getElem_set_self]
  congr 1
  rw [List.drop_set_of_lt (by omega)]
theorem casts_set (xs : List Nat) (k q : Nat) : casts (xs.set k q) = (casts xs).set k (q : Int) := by simp [casts, List.map_set]
theorem casts_zero (n : Nat) : casts (List.replicate n 0) = List.replicate n 0 := by simp [casts]
theorem dg_set {xs : List Nat} {k q : Nat} (h : ∀ z ∈ xs, z < 16777216) (hq : q < 16777216) : ∀ z ∈ xs.set k q, z < 16777216 := by
  intro z hz
  rcases List.mem_or_eq_of_mem_set hz with h1 | h1
  · exact h z h1
  · omega
theorem by_round {zs xs : List Nat} {k r m : Nat} (hk : k < zs.length) (hl : xs.length = zs.length) (h : vlW (zs.drop (k + 1)) = vlW (xs.drop (k + 1)) * m + r) :
    vlW (zs.drop k) = vlW ((xs.set k ((r * 16777216 + zs[k]) / m)).drop k) * m + (r * 16777216 + zs[k]) % m := by
  rw [set_drop (by omega), drop_cons hk, h, vlW, Nat.add_mul, Nat.mul_comm ((r * 16777216 + zs[k]) / m) m]
  have := Nat.div_add_mod (r * 16777216 + zs[k]) m
  rw [Nat.mul_add, Nat.mul_assoc]
  omega
theorem by_digit {r z m : Nat} (hr : r < m) (hz : z < 16777216) : (r * 16777216 + z) / m < 16777216 := by
  rw [Nat.div_lt_iff_lt_mul (by omega)]
  have : (r + 1) * 16777216 ≤ m * 16777216 := Nat.mul_le_mul_right _ hr
  rw [Nat.mul_comm m] at this
  omega
theorem casts_take (xs : List Nat) (k : Nat) : casts (xs.take k) = (casts xs).take k := by simp [casts, List.map_take]
theorem row_take {w : World} {g : Nat} {xs : List Nat} {k : Nat} (h : RowI w g (casts xs)) (hk : k ≤ xs.length) : IsL w (some ⟨g, 0, none⟩) k (casts (xs.take k)) := by
  refine ⟨by rw [casts_length, List.length_take]; omega, fun _ => ⟨g, 0, rfl, Row.lt h, fun i hi => ?_⟩⟩
  rw [Nat.zero_add, h.get i (by rw [casts_length]; omega), casts_getD (by omega), casts_getD (by rw [List.length_take]; omega), List.getElem_take]
set_option maxRecDepth 100000 in
set_option maxHeartbeats 1000000 in
theorem wby_any (A : Option Addr) (n c a m : Nat) (hm : 0 < m) (hm2 : m ≤ 274877906944) (hn : n ≤ 1000) (w : World) (hW : IsW w A n a) :
    Calls Try.prog 93 #[.slice A n c, .int .i64 m] w (RetW w (a / m)) := by
  obtain ⟨zs, hwn, rfl, hL⟩ := hW
  have hmk := fun w => make_w zs.length (by omega) w
  have HZ := Lib.hid hwn
  have HL := Lib.hid hL
  clear hwn hL
  go_enter Try.func93, Try.ntmps93
  go_wp2
  obtain ⟨W, hW⟩ : ∃ W, W = w.alloc (.cells (zcells zs.length) 3) := ⟨_, rfl⟩
  rw [← hW]
  have H0 := Lib.hid (show RowI W w.heap.size (casts (List.replicate zs.length 0)) ∧ Below w.heap.size w W by rw [hW, casts_zero]; exact ⟨RowI.zeros _ _, (by repeat' (first | (with_reducible exact Below.refl _ _) | (with_reducible assumption) | (with_reducible refine below_drewN ?_ _) | (with_reducible refine below_step (by assumption) ?_ ?_) | (with_reducible refine Below.alloc ?_ ?_ _) | (with_reducible refine Below.setCell ?_ ?_ _) | (with_reducible refine Below.drew ?_) | go_size | (exact Below.size (by assumption)) | (refine Nat.le_trans (Below.size (by assumption)) ?_)))⟩)
  clear hW hmk
  go_loopw [6, 7] (fun t i wr => ∃ (xs : List Nat) (r k : Nat), t = .int .i64 r ∧ i = .int .i64 ((k : Int) - 1) ∧ r < m ∧ k ≤ zs.length ∧ Hid (xs.length = zs.length ∧ (∀ z ∈ xs, z < 16777216) ∧ vlW (zs.drop k) = vlW (xs.drop k) * m + r ∧ RowI wr w.heap.size (casts xs) ∧ Below w.heap.size w wr)) (fun _ i _ => (intOf i + 1).toNat)
  case atStart => exact ⟨List.replicate zs.length 0, 0, zs.length, rfl, rfl, hm, Nat.le_refl _, Lib.hid ⟨by simp, fun z hz => by simp at hz; omega, by rw [List.drop_length, List.drop_eq_nil_of_le (by simp)]; simp [vlW], H0.out.1, H0.out.2⟩⟩
  case round =>
    clear H0
    obtain ⟨xs, r, k, rfl, rfl, hr, hk, hq⟩ := hrel
    cases k with
    | zero =>
      have hdiv : vlW xs = a / m := by
        have := hq.out.2.2.1
        rw [List.drop_zero, List.drop_zero, HZ.out.vl] at this
        rw [this, Nat.mul_comm, Nat.mul_add_div hm, Nat.div_eq_of_lt hr, Nat.add_zero]
      have HD := Lib.hid (show (∀ z ∈ xs, z < 16777216) ∧ vlW (xs.take zs.length) = a / m ∧ xs.length = zs.length from ⟨hq.out.2.1, by rw [List.take_of_length_le (by rw [hq.out.1]; omega)]; exact hdiv, hq.out.1⟩)
      have HQ := Lib.hid (show RowI wr w.heap.size (casts xs) ∧ Below w.heap.size w wr from hq.out.2.2.2)
      clear hdiv hq
      go_wp2
      go_loopw [5] (fun v wx => ∃ j : Nat, v = .slice (some ⟨w.heap.size, 0, none⟩) j zs.length ∧ j ≤ zs.length ∧ Hid (vlW (xs.take j) = a / m ∧ wx = wr)) (fun v _ => lenV v)
      case atStart => exact ⟨zs.length, rfl, Nat.le_refl _, Lib.hid ⟨HD.out.2.1, rfl⟩⟩
      case round =>
        obtain ⟨j, rfl, hj, hv⟩ := hrel
        have hwr := hv.out.2
        subst hwr
        have HV := Lib.hid hv.out.1
        clear hv
        by_cases hz : j = 0
        · subst hz
          have HA := Lib.hid (show 0 = a / m from HV.out)
          show Code.wp _ _ _ _ _
          go_wp2
          go_ret
          refine ⟨some ⟨w.heap.size, 0, none⟩, 0, zs.length, rfl, ?_, HQ.out.2, fun _ h => by cases h; exact Nat.le_refl _⟩
          rw [← HA.out]
          exact ⟨[], WN.nil, rfl, rfl, fun h => absurd h (by omega)⟩
        · obtain ⟨j', hj'⟩ : ∃ j', j = j' + 1 := ⟨j - 1, by omega⟩
          have he : (j : Int) - 1 = (j' : Int) := by omega
          have hjp : 0 < j := by omega
          have hj2 : j' < zs.length := by omega
          have hj3 : j' < j := by omega
          have hc := HQ.out.1.get j' (by rw [casts_length, HD.out.2.2]; omega)
          have hlt := Row.lt HQ.out.1
          rw [casts_getD (by rw [HD.out.2.2]; omega)] at hc
          have hxl : j' < xs.length := by rw [HD.out.2.2]; omega
          have hstr := strike_last hxl
          have hstop := stop_last (a := a / m) HD.out.1 (by rw [← hj']; exact HV.out) hxl
          rw [← hj'] at hstr hstop
          have HSR := Lib.hid hstr
          have HSO := Lib.hid hstop
          obtain ⟨z, hzz⟩ : ∃ z, z = xs[j'] := ⟨_, rfl⟩
          rw [← hzz] at hc HSR HSO
          have HJ := Lib.hid hj'
          clear hz hj' hstr hstop hzz hxl
          by_cases h0 : z = 0
          · have HS2 := Lib.hid (HSR.out h0)
            have d0 : ((z : Int) == 0) = true := by rw [beq_iff_eq]; omega
            clear h0
            go_wp2
            go_roundw
            case rel => exact ⟨j', rfl, by omega, Lib.hid ⟨by rw [← HS2.out]; exact HV.out, trivial⟩⟩
            case measure => simp [lenV]; omega
          · have HS2 := Lib.hid (HSO.out h0)
            have d0 : ((z : Int) == 0) = false := by rw [beq_eq_false_iff_ne]; omega
            clear h0
            go_wp2
            go_ret
            exact ⟨some ⟨w.heap.size, 0, none⟩, j, zs.length, rfl, ⟨xs.take j, HS2.out, by rw [List.length_take, HD.out.2.2]; omega, row_take HQ.out.1 (by rw [HD.out.2.2]; omega)⟩, HQ.out.2, fun _ h => by cases h; exact Nat.le_refl _⟩
    | succ k =>
      rw [show ((k + 1 : Nat) : Int) - 1 = (k : Int) by omega]
      have h1 : k < zs.length := by omega
      obtain ⟨p, o, rfl, hp, hc⟩ := (HL.out.below hq.out.2.2.2.2).digit h1 rfl
      have hz := HZ.out.dgAt h1
      have hst := by_round h1 hq.out.1 hq.out.2.2.1
      obtain ⟨z, hzz⟩ : ∃ z, z = zs[k] := ⟨_, rfl⟩
      rw [← hzz] at hc hz hst
      have hdg := by_digit hr hz
      have hmod := Nat.mod_lt (r * 16777216 + z) hm
      have hcell := hq.out.2.2.2.1.get k (by rw [casts_length, hq.out.1]; exact h1)
      have hfz : wr.frozen? ⟨w.heap.size, k, none⟩ = false := Row.free hq.out.2.2.2.1 k
      have hlt := Row.lt hq.out.2.2.2.1
      obtain ⟨q, hqq⟩ : ∃ q, q = (r * 16777216 + z) / m := ⟨_, rfl⟩
      obtain ⟨r', hrr⟩ : ∃ r', r' = (r * 16777216 + z) % m := ⟨_, rfl⟩
      have e1 : ((r : Int) * 16777216 + (z : Int)) / (m : Int) = (q : Int) := by rw [hqq]; simp
      have e2 : ((r : Int) * 16777216 + (z : Int)) % (m : Int) = (r' : Int) := by rw [hrr]; simp
      rw [← hqq] at hdg hst
      rw [← hrr] at hmod hst
      have HST := Lib.hid hst
      have HDG := Lib.hid hdg
      clear hst hzz hqq hrr hdg
      go_wp2
      go_roundw
      case rel => exact ⟨xs.set k q, r', k, by rw [e2], rfl, hmod, by omega, Lib.hid ⟨by rw [List.length_set]; exact hq.out.1, dg_set hq.out.2.1 HDG.out, HST.out, by rw [casts_set]; first | exact hq.out.2.2.2.1.set k _ | (rw [e1]; exact hq.out.2.2.2.1.set k _), hq.out.2.2.2.2.setCell (by simp) _⟩⟩
      case measure => simp [intOf]
end Go.Proofs.Ytdgmpaijpjkeoaa
