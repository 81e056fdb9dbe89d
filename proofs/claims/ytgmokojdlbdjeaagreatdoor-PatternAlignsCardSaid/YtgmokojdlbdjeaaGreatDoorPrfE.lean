/-
  THE REFERENCE: Equal, Copy.
-/
import Derived.Test.YtgmokojdlbdjeaaGreatDoorPrfD
import Derived.Deep.MidRow
namespace Go.Proofs.YtgmokojdlbdjeaaGreatDoor
open Go.RowKit
attribute [local go_sem] grow_cell grow_frozen
theorem two_boxes (w : World) (a b c : Int) (s : Value) (a' b' c' : Int) (s' : Value) :
    PBox ((w.alloc (.cells #[.int .i64 a, .int .i64 b, .int .i64 c, s] 24)).alloc (.cells #[.int .i64 a', .int .i64 b', .int .i64 c', s'] 24)) w.heap.size a b c s ∧ PBox ((w.alloc (.cells #[.int .i64 a, .int .i64 b, .int .i64 c, s] 24)).alloc (.cells #[.int .i64 a', .int .i64 b', .int .i64 c', s'] 24)) (w.heap.size + 1) a' b' c' s' := by
  refine ⟨(heap_alloc_old _ _ (by simp)).trans (heap_alloc_new w _), ?_⟩
  have := heap_alloc_new (w.alloc (.cells #[.int .i64 a, .int .i64 b, .int .i64 c, s] 24)) (.cells #[.int .i64 a', .int .i64 b', .int .i64 c', s'] 24)
  unfold PBox
  simpa using this
set_option maxRecDepth 100000 in
set_option maxHeartbeats 1000000 in
theorem equalP_any (p q : PatD) (hl : p.xs.length ≤ 1000000000) (hl2 : q.xs.length ≤ 1000000000) (r : Bool) (hr : r = true ↔ p = q) (A : Option Addr) (cap : Nat) (B : Option Addr) (cap2 : Nat) (w : World) (hi : PatIn w p A) (hq : PatIn w q B) :
    Calls Tryz.prog 20 #[.agg #[.int .i64 p.a, .int .i64 p.b, .int .i64 p.c, .slice A p.xs.length cap], .agg #[.int .i64 q.a, .int .i64 q.b, .int .i64 q.c, .slice B q.xs.length cap2]] w fun e w' => e = .returned (.bool r) ∧ Below w.heap.size w w' := by
  obtain ⟨a, b, c, xs⟩ := p
  obtain ⟨a', b', c', ys⟩ := q
  simp only at hl hl2 ⊢
  have HI := Lib.hid (show IsL w A xs.length xs from hi)
  have HQ := Lib.hid (show IsL w B ys.length ys from hq)
  rw [PatD.mk.injEq] at hr
  have HR := Lib.hid hr
  clear hi hq hr
  by_cases h1 : a = a'
  · subst h1
    have d1 : (a != a) = false := by simp
    by_cases h2 : b = b'
    · subst h2
      have d2 : (b != b) = false := by simp
      by_cases h3 : c = c'
      · subst h3
        have d3 : (c != c) = false := by simp
        by_cases h4 : xs.length = ys.length
        · have d4 : ((xs.length : Int) != (ys.length : Int)) = false := by rw [h4]; simp
          obtain ⟨n, hn⟩ : ∃ n, n = xs.length := ⟨_, rfl⟩
          have HN := Lib.hid (And.intro hn (hn.trans h4))
          have HI2 := Lib.hid (show IsL w A n xs by rw [hn]; exact HI.out)
          have HQ2 := Lib.hid (show IsL w B n ys by rw [hn, h4]; exact HQ.out)
          rw [← h4, ← hn]
          rw [← h4, ← hn] at d4
          have hn9 : n ≤ 1000000000 := by omega
          clear hn h4 HI HQ hl hl2
          go_enter Tryz.func20, Tryz.ntmps20
          go_upto_region 4 with fail
          have hbx := two_boxes w a b c (.slice A n cap) a b c (.slice B n cap2)
          obtain ⟨W, hW⟩ : ∃ W, W = (w.alloc (.cells #[.int .i64 a, .int .i64 b, .int .i64 c, .slice A n cap] 24)).alloc (.cells #[.int .i64 a, .int .i64 b, .int .i64 c, .slice B n cap2] 24) := ⟨_, rfl⟩
          have hb0 := Lib.hid (show Below w.heap.size w W by rw [hW]; exact (by repeat' (first | (with_reducible exact Below.refl _ _) | (with_reducible assumption) | (with_reducible refine below_drewN ?_ _) | (with_reducible refine below_step (by assumption) ?_ ?_) | (with_reducible refine Below.alloc ?_ ?_ _) | (with_reducible refine Below.setCell ?_ ?_ _) | (with_reducible refine Below.drew ?_) | go_size | (exact Below.size (by assumption)) | (refine Nat.le_trans (Below.size (by assumption)) ?_))))
          rw [← hW] at hbx ⊢
          obtain ⟨p0, p1, p2, p3, p4⟩ := hbx.1.cells
          obtain ⟨q0, q1, q2, q3, q4⟩ := hbx.2.cells
          clear hW hbx d1 d2 d3 d4
          go_loopw [5] (fun t wr => ∃ (k e : Nat), t = .int .i64 k ∧ k ≤ n ∧ wr = W.drewN e ∧ Hid (∀ j, j < k → xs.getD j 0 = ys.getD j 0)) (fun t _ => n - (intOf t).toNat)
          case atStart => exact ⟨0, 0, rfl, by omega, rfl, Lib.hid (fun j hj => by omega)⟩
          case round =>
            obtain ⟨k, e, rfl, hk, rfl, hr⟩ := hrel
            by_cases hlt : k < n
            · obtain ⟨b1, o1, rfl, hb1, hc1⟩ := (HI2.out.below hb0.out).2 (by omega)
              obtain ⟨b2, o2, rfl, hb2, hc2⟩ := (HQ2.out.below hb0.out).2 (by omega)
              have r1 := hc1 k hlt
              have r2 := hc2 k hlt
              obtain ⟨x, hx⟩ : ∃ x, x = xs.getD k 0 := ⟨_, rfl⟩
              obtain ⟨y, hy⟩ : ∃ y, y = ys.getD k 0 := ⟨_, rfl⟩
              rw [← hx] at r1
              rw [← hy] at r2
              have HXY := Lib.hid (And.intro hx hy)
              clear hc1 hc2 hx hy
              by_cases hz : x = y
              · have d5 : (x != y) = false := by simp [hz]
                have R2 := Lib.hid (show ∀ j, j < k + 1 → xs.getD j 0 = ys.getD j 0 from fun j hj => by
                  by_cases he : j < k
                  · exact hr.out j he
                  · obtain rfl : j = k := by omega
                    rw [← HXY.out.1, ← HXY.out.2]; exact hz)
                clear hz hr HXY
                go_wp2
                go_quiet (fail)
                go_wp2
                go_roundw
                case rel => exact ⟨k + 1, _, by go_num, by omega, rfl, R2⟩
                case measure => simp [intOf]; omega
              · have d5 : (x != y) = true := by rw [bne_iff_ne]; exact hz
                have HRF := Lib.hid (show r = false by
                  cases r with
                  | false => rfl
                  | true => exact absurd (by rw [HXY.out.1, HXY.out.2, ((HR.out.1 rfl).2.2.2)]) hz)
                clear hz hr HXY HR
                go_wp2
                go_quiet (fail)
                go_wp2
                go_ret
                exact ⟨by rw [HRF.out]; rfl, below_drewN (below_drewN hb0.out _) _⟩
            · obtain rfl : k = n := by omega
              have HRT := Lib.hid (show r = true from HR.out.2 ⟨by first | rfl | trivial, by first | rfl | trivial, by first | rfl | trivial, by
                apply List.ext_getElem
                · exact HN.out.1.symm.trans HN.out.2
                · intro j h1 h2
                  have := hr.out j (by rw [HN.out.1]; exact h1)
                  rw [← pgetD_at h1, ← pgetD_at h2] at this
                  exact this⟩)
              clear hr HR
              go_wp2
              go_ret
              exact ⟨by rw [HRT.out]; rfl, below_drewN hb0.out _⟩
        · have d4 : ((xs.length : Int) != (ys.length : Int)) = true := by rw [bne_iff_ne]; omega
          have HRF := Lib.hid (show r = false by
            cases r with
            | false => rfl
            | true => exact absurd (by rw [(HR.out.1 rfl).2.2.2]) h4)
          clear h4 HR
          go_enter Tryz.func20, Tryz.ntmps20
          go_wp2
          go_ret
          exact ⟨by rw [HRF.out]; rfl, (by repeat' (first | (with_reducible exact Below.refl _ _) | (with_reducible assumption) | (with_reducible refine below_drewN ?_ _) | (with_reducible refine below_step (by assumption) ?_ ?_) | (with_reducible refine Below.alloc ?_ ?_ _) | (with_reducible refine Below.setCell ?_ ?_ _) | (with_reducible refine Below.drew ?_) | go_size | (exact Below.size (by assumption)) | (refine Nat.le_trans (Below.size (by assumption)) ?_)))⟩
      · have d3 : (c != c') = true := by rw [bne_iff_ne]; exact h3
        have HRF := Lib.hid (show r = false by
          cases r with
          | false => rfl
          | true => exact absurd (HR.out.1 rfl).2.2.1 h3)
        clear h3 HR
        go_enter Tryz.func20, Tryz.ntmps20
        go_wp2
        go_ret
        exact ⟨by rw [HRF.out]; rfl, (by repeat' (first | (with_reducible exact Below.refl _ _) | (with_reducible assumption) | (with_reducible refine below_drewN ?_ _) | (with_reducible refine below_step (by assumption) ?_ ?_) | (with_reducible refine Below.alloc ?_ ?_ _) | (with_reducible refine Below.setCell ?_ ?_ _) | (with_reducible refine Below.drew ?_) | go_size | (exact Below.size (by assumption)) | (refine Nat.le_trans (Below.size (by assumption)) ?_)))⟩
    · have d2 : (b != b') = true := by rw [bne_iff_ne]; exact h2
      have HRF := Lib.hid (show r = false by
        cases r with
        | false => rfl
        | true => exact absurd (HR.out.1 rfl).2.1 h2)
      clear h2 HR
      go_enter Tryz.func20, Tryz.ntmps20
      go_wp2
      go_ret
      exact ⟨by rw [HRF.out]; rfl, (by repeat' (first | (with_reducible exact Below.refl _ _) | (with_reducible assumption) | (with_reducible refine below_drewN ?_ _) | (with_reducible refine below_step (by assumption) ?_ ?_) | (with_reducible refine Below.alloc ?_ ?_ _) | (with_reducible refine Below.setCell ?_ ?_ _) | (with_reducible refine Below.drew ?_) | go_size | (exact Below.size (by assumption)) | (refine Nat.le_trans (Below.size (by assumption)) ?_)))⟩
  · have d1 : (a != a') = true := by rw [bne_iff_ne]; exact h1
    have HRF := Lib.hid (show r = false by
      cases r with
      | false => rfl
      | true => exact absurd (HR.out.1 rfl).1 h1)
    clear h1 HR
    go_enter Tryz.func20, Tryz.ntmps20
    go_wp2
    go_ret
    exact ⟨by rw [HRF.out]; rfl, (by repeat' (first | (with_reducible exact Below.refl _ _) | (with_reducible assumption) | (with_reducible refine below_drewN ?_ _) | (with_reducible refine below_step (by assumption) ?_ ?_) | (with_reducible refine Below.alloc ?_ ?_ _) | (with_reducible refine Below.setCell ?_ ?_ _) | (with_reducible refine Below.drew ?_) | go_size | (exact Below.size (by assumption)) | (refine Nat.le_trans (Below.size (by assumption)) ?_)))⟩
/-- append(empty, xs...): the integers in new memory. -/
theorem ints_run (w : World) (ty : TypeId) (xs : List Int) (A : Option Addr) (c : Nat) (hP : IsL (w.alloc (.cells #[] 3)) A xs.length xs) (hn : xs.length ≤ 1000000000) :
    ∃ s w', (Builtin.append_ #[22, 22] ty #[.slice (some ⟨w.heap.size, 0, none⟩) 0 0, .slice A xs.length c]).run Tryz.prog (w.alloc (.cells #[] 3)) = .ok s w' ∧ OwnI w' w.heap.size s xs ∧ Below w.heap.size w w' := by
  have hown : (w.alloc (.cells #[] 3)).ownsRow w.heap.size 3 1 (.slice (some ⟨w.heap.size, 0, none⟩) 0 0) 0 [] :=
    ⟨by simp, .inr ⟨w.heap.size, 0, #[], rfl, Nat.le_refl _, heap_alloc_new w _, Nat.le_refl _, Nat.zero_le _, by simp, by simp⟩⟩
  have hal := (Below.refl w.heap.size w).alloc (Nat.le_refl _) (.cells #[] 3)
  obtain ⟨i0, hi, hz0, hz1, hz2⟩ := info_parts intInfo
  cases A with
  | none =>
    have h0 : xs = [] := by
      rcases Nat.eq_zero_or_pos xs.length with h | h
      · exact List.eq_nil_of_length_eq_zero h
      · obtain ⟨b, o, hb, -⟩ := hP.2 h; cases hb
    subst h0
    refine ⟨_, w.alloc (.cells #[] 3), ?_, hown, hal⟩
    simp [Builtin.append_, run_underlying Tryz.underlying22, sizeOf, typeInfo, hi, Builtin.lenOf, Builtin.firstCells, storeCells]
  | some ad =>
    obtain ⟨v', w', hr, h2, h3, -, h5⟩ := run_append_own_at (P := Tryz.prog) (w.alloc (.cells #[] 3)) w.heap.size 22 ty 3 i0 (.int .i64 0) 1 8 Tryz.underlying22 hi hz0 hz1 hz2 rfl (by decide) _ 0 [] hown ad xs.length c (xs.map (Value.int .i64)) (by simp) (fun j u hu => by
      obtain ⟨hj, rfl⟩ := List.getElem?_eq_some_iff.1 hu
      rw [List.length_map] at hj
      obtain ⟨b, o, hb, -, hcc⟩ := hP.2 (by omega)
      cases hb
      rw [Addr.add_mid, hcc j hj]
      simp [hj]) (fun u hu => by obtain ⟨y, -, rfl⟩ := List.mem_map.1 hu; rfl) (by unfold maxLen; omega) (by omega) (by simp)
    rw [Nat.zero_add, List.nil_append] at h2
    exact ⟨v', w', hr, h2, hal.grown h3 (by simp) (fun g e => by simp [Value.ownBlock] at e; omega)⟩
attribute [local irreducible] plainUpon stepC
set_option maxRecDepth 100000 in
set_option maxHeartbeats 1000000 in
theorem copyP_any (p : PatD) (hl : p.xs.length ≤ 1000000000) (A : Option Addr) (cap : Nat) (w : World) (hi : PatIn w p A) :
    Calls Tryz.prog 17 #[.agg #[.int .i64 p.a, .int .i64 p.b, .int .i64 p.c, .slice A p.xs.length cap]] w fun e w' => ∃ v, e = .returned (.agg #[.int .i64 p.a, .int .i64 p.b, .int .i64 p.c, v]) ∧ OwnI w' w.heap.size v p.xs ∧ Below w.heap.size w w' := by
  obtain ⟨a, b, c, xs⟩ := p
  simp only at hl ⊢
  have HI := Lib.hid (show IsL w A xs.length xs from hi)
  clear hi
  go_enter Tryz.func17, Tryz.ntmps17
  go_upto_region 1 with fail
  have hbx := two_boxes w a b c (.slice A xs.length cap) 0 0 0 (.slice none 0 0)
  obtain ⟨W, hW⟩ : ∃ W, W = (w.alloc (.cells #[.int .i64 a, .int .i64 b, .int .i64 c, .slice A xs.length cap] 24)).alloc (.cells #[.int .i64 0, .int .i64 0, .int .i64 0, .slice none 0 0] 24) := ⟨_, rfl⟩
  have hb0 := Lib.hid (show Below w.heap.size w W by rw [hW]; exact (by repeat' (first | (with_reducible exact Below.refl _ _) | (with_reducible assumption) | (with_reducible refine below_drewN ?_ _) | (with_reducible refine below_step (by assumption) ?_ ?_) | (with_reducible refine Below.alloc ?_ ?_ _) | (with_reducible refine Below.setCell ?_ ?_ _) | (with_reducible refine Below.drew ?_) | go_size | (exact Below.size (by assumption)) | (refine Nat.le_trans (Below.size (by assumption)) ?_))))
  rw [← hW] at hbx ⊢
  obtain ⟨rb, hrb⟩ : ∃ rb, rb = w.heap.size + 1 := ⟨_, rfl⟩
  rw [← hrb] at hbx ⊢
  have hwr : w.heap.size ≤ rb := by omega
  obtain ⟨p0, p1, p2, p3, p4⟩ := hbx.1.cells
  have HBX := Lib.hid hbx.2
  clear hW hbx hrb
  refine region_last1 (C := fun w' => ∃ x, w' = grow W x) [0, 1, 2, 3, 4, 5, 7, 8] [6, 9, 10, 11] 11 (by kernel_rfl) (by kernel_rfl) (grow_start W) ?_
  simp only [pickL, List.getElem?_cons_zero, List.getElem?_cons_succ]
  repeat (go_big_quiet_step (fail))
  refine wpQuiet_nil ?_
  obtain ⟨w3, hw3⟩ : ∃ w3 : World, w3 = { W with drawn := W.drawn + 1 } := ⟨_, rfl⟩
  rw [← hw3]
  have hb3 : Below W.heap.size W w3 := by rw [hw3]; exact (Below.refl _ _).drew
  clear hw3
  have hal := (Below.refl w3.heap.size w3).alloc (Nat.le_refl _) (.cells #[] 3)
  have hb4 := hb3.trans (hal.mono hb3.size)
  refine d_val (.slice (some ⟨w3.heap.size, 0, none⟩) 0 0) (w3.alloc (.cells #[] 3)) rfl (by go_simp) (grow_of_below hb3) ?_
  obtain ⟨s, w5, r1, r2, r3⟩ := ints_run w3 22 xs A cap (IsL.below hb4 (IsL.below hb0.out HI.out)) hl
  obtain ⟨A5, n5, rfl, -⟩ := r2.isL
  have hb5 := hb3.trans (r3.mono hb3.size)
  refine d_val (.slice A5 xs.length n5) w5 rfl (ap_exec (.tmp 9) (.tmp 11) 22 rfl _ _ _ w5 rfl rfl r1) (grow_of_below hb4) ?_
  refine d_val (.agg #[.int .i64 a, .int .i64 b, .int .i64 c, .slice A5 xs.length n5]) w5 rfl (by go_simp) (grow_of_below hb5) ?_
  have hbx5 := HBX.out.keep hb5
  obtain ⟨s0, s1, s2, s3, s4⟩ := hbx5.cells
  have f0 : w5.frozen? ⟨rb, 0, none⟩ = false := frozen_of_row w5 rb 0 _ _ hbx5
  have f1 : w5.frozen? ⟨rb, 1, none⟩ = false := frozen_of_row w5 rb 1 _ _ hbx5
  have f2 : w5.frozen? ⟨rb, 2, none⟩ = false := frozen_of_row w5 rb 2 _ _ hbx5
  have f3 : w5.frozen? ⟨rb, 3, none⟩ = false := frozen_of_row w5 rb 3 _ _ hbx5
  have HP := Lib.hid (put_ret hbx5 (hb0.out.trans (hb5.mono hb0.out.size)) hwr ⟨a, b, c, xs⟩ _ r2 (Nat.le_trans hb0.out.size hb3.size) (Nat.lt_of_lt_of_le (Array.getElem?_eq_some_iff.1 HBX.out).1 hb3.size))
  refine d_skip (set4 w5 rb a b c (.slice A5 xs.length n5)) rfl (by unfold set4; go_simp) (grow_of_below hb5) ?_
  obtain ⟨w6, hw6⟩ : ∃ w6, w6 = set4 w5 rb a b c (.slice A5 xs.length n5) := ⟨_, rfl⟩
  simp only at HP
  rw [← hw6] at HP
  show plainD _ _ _ _ _ _ _
  rw [← hw6]
  clear hw6 hbx5 s0 s1 s2 s3 s4 f0 f1 f2 f3 r1 r2 r3 hb5 hb4 hal hb3 HBX p0 p1 p2 p3 p4
  simp only [plainD]
  go_simp
  go_wp2
  refine bodyPost_ret (v := .agg #[.int .i64 a, .int .i64 b, .int .i64 c, .slice A5 xs.length n5]) (ret_pat rfl rfl HP.out.1) rfl ?_
  exact ⟨_, rfl, HP.out.2⟩
end Go.Proofs.YtgmokojdlbdjeaaGreatDoor
