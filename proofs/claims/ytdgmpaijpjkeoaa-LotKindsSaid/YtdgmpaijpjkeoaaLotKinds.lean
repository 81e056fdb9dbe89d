/-
  THE WALK OF THE LAW LotKinds: it returns true.
-/
import Derived.Test.YtdgmpaijpjkeoaaLotK
import Derived.Test.YtdgmpaijpjkeoaaKndC
import Derived.Test.YtdgmpaijpjkeoaaNumE
namespace Go.Proofs.Ytdgmpaijpjkeoaa
open Go.RowKit
attribute [local go_sem] grow_cell grow_frozen
attribute [local irreducible] plainUpon GrowsTo GrowsR
theorem knd_len {l : List LotD} {i : Int} {a : List (Int × Int)} {z : Int} (h : kndE l i = (a, z)) : a.length ≤ 8 ∧ (∀ p ∈ a, 0 ≤ p.1 ∧ p.1 ≤ 1048576 ∧ 0 ≤ p.2 ∧ p.2 ≤ 1048576) ∧ (0 < a.length → z = 0) := by
  unfold kndE at h
  split at h
  · simp only [Prod.mk.injEq] at h
    obtain ⟨rfl, rfl⟩ := h
    simp
  · rename_i hc
    split at h
    · simp only [Prod.mk.injEq] at h
      obtain ⟨rfl, rfl⟩ := h
      refine ⟨by rw [kL_length]; omega, fun p hp => ?_, fun _ => rfl⟩
      obtain ⟨m, -, rfl⟩ := List.mem_map.1 hp
      exact kF_bd l i.toNat m (chk_zero (by simpa using hc)).1.lot
    · simp only [Prod.mk.injEq] at h
      obtain ⟨rfl, rfl⟩ := h
      simp
theorem knd_step {l : List LotD} {i : Int} {a : List (Int × Int)} {z : Int} (h : kndE l i = (a, z)) {k : Nat} (hk : k < a.length) {s1 s2 u1 u2 : Int} (hs : z = 0 → SumOK l i.toNat k s1 s2) (hu : addM s1 s2 a[k].1 a[k].2 = (u1, u2, 0)) : z = 0 → SumOK l i.toNat (k + 1) u1 u2 := by
  intro hz
  subst hz
  unfold kndE at h
  split at h
  · rename_i hc
    simp only [Prod.mk.injEq] at h
    exact absurd h.2 hc
  · rename_i hc
    split at h
    · rename_i hok
      simp only [Prod.mk.injEq, and_true] at h
      subst h
      rw [kL_length] at hk
      have hg := (chk_zero (show chkE l [i] = 0 by simpa using hc)).1.lot
      rw [kL_at hk] at hu
      exact (hs rfl).step hg (show kF l i.toNat k = ((kF l i.toNat k).1, (kF l i.toNat k).2.1, 0) by rw [← kOk_le hok hk]) hu
    · simp only [Prod.mk.injEq] at h
      omega
theorem knd_done {l : List LotD} {i : Int} {a : List (Int × Int)} (h : kndE l i = (a, 0)) {s1 s2 : Int} (hs : SumOK l i.toNat a.length s1 s2) : s1 = 1 ∧ s2 = 1 := by
  unfold kndE at h
  split at h
  · rename_i hc
    simp only [Prod.mk.injEq] at h
    exact absurd h.2 hc
  · rename_i hc
    split at h
    · simp only [Prod.mk.injEq, and_true] at h
      subst h
      rw [kL_length] at hs
      obtain ⟨hg, hin⟩ := chk_zero (show chkE l [i] = 0 by simpa using hc)
      have := hin i (by simp)
      exact hs.done hg.lot (by omega)
    · simp only [Prod.mk.injEq] at h
      omega
set_option maxRecDepth 100000 in
set_option maxHeartbeats 4000000 in
theorem lotKinds_walk (A : Option Addr) (c : Nat) (l : List LotD) (i : Int) (hi : -9223372036854775808 ≤ i) (ki : i ≤ 9223372036854775807) (w : World) (hL : LotsIn w A l) (hl : l.length ≤ maxLen) :
    Calls Try.prog 8 #[.slice A l.length c, .int .i64 i] w fun e w' => e = .returned (.bool true) ∧ Below w.heap.size w w' := by
  have HL := Lib.hid hL
  clear hL
  cases hlong : longB l with
  | true =>
    have HLO := Lib.hid hlong
    clear hlong
    go_enter Try.func8, Try.ntmps8
    go_wp2_with fail
    refine (long_any l true HLO.out A c _ HL.out hl).mono ?_
    rintro e w' ⟨rfl, rfl⟩
    go_wp2_with fail
    refine (known_any _).mono ?_
    rintro e w1 ⟨rfl, hb1⟩
    go_wp2
    go_ret
    exact ⟨rfl, hb1⟩
  | false =>
    obtain ⟨hl40, hps20⟩ := long_small hlong
    have HLO := Lib.hid hlong
    have HPS := Lib.hid (show ∀ x ∈ l, x.parts.length ≤ 1000 from fun x hx => by have := hps20 x hx; omega)
    obtain ⟨a, z, hm1⟩ : ∃ a z, kndE l i = (a, z) := ⟨_, _, rfl⟩
    obtain ⟨ba, bb, bz⟩ := knd_len hm1
    have HM1 := Lib.hid hm1
    have HBB := Lib.hid bb
    have HBZ := Lib.hid bz
    clear hlong hps20 hm1 bb bz
    go_enter Try.func8, Try.ntmps8
    go_wp2_with fail
    refine (long_any l false HLO.out A c _ HL.out hl).mono ?_
    rintro e w' ⟨rfl, rfl⟩
    go_wp2_with fail
    refine (kinds_any l (by omega) HPS.out i a z HM1.out (by omega) (by omega) A c w HL.out).mono ?_
    rintro e w1 ⟨A1, c1, rfl, i1, hb1⟩
    have ib := Lib.hid hb1
    have I1 := Lib.hid i1
    clear hb1 i1
    go_wp2_with fail
    refine (rkinds_any l (by omega) HPS.out i a z HM1.out (by omega) (by omega) A c w1 (HL.out.below ib.out)).mono ?_
    rintro e w2 ⟨A2, c2, rfl, i2, hb1⟩
    have jb := Lib.hid (ib.out.trans (hb1.mono ib.out.size))
    have I2 := Lib.hid (And.intro (I1.out.below hb1) i2)
    clear ib hb1 I1 i2
    have d0 : (z != z) = false := by simp
    have d00 : ((a.length : Int) != (a.length : Int)) = false := by simp
    go_upto_region 8 with fail
    obtain ⟨W, hW⟩ : ∃ W, W = w2.alloc (.cells #[.int .i64 0, .int .i64 1] 28) := ⟨_, rfl⟩
    rw [← hW]
    have hb2 : Below w2.heap.size w2 W := by rw [hW]; exact (Below.refl _ _).alloc (Nat.le_refl _) _
    have kb := Lib.hid (And.intro hb2 (And.intro (show Box2 W w2.heap.size (.int .i64 0) (.int .i64 1) by rw [hW]; exact Box2.new _ _ _ _) (show z = 0 → SumOK l i.toNat 0 0 1 from fun _ => SumOK.start l _)))
    clear hW d0 d00 hb2
    go_wp2
    go_loopw [10, 11] (fun v t wr => ∃ (k : Nat) (ok : Bool) (s1 s2 : Int), t = .int .i64 k ∧ v = .bool ok ∧ k ≤ a.length ∧ (-1099511627776 ≤ s1 ∧ s1 ≤ 1099511627776) ∧ (0 ≤ s2 ∧ s2 ≤ 1048576) ∧ Hid (Below w2.heap.size w2 wr ∧ Box2 wr w2.heap.size (.int .i64 s1) (.int .i64 s2) ∧ (ok = true → z = 0 → SumOK l i.toNat k s1 s2))) (fun _ t _ => a.length - (intOf t).toNat)
    case atStart => exact ⟨0, true, 0, 1, rfl, rfl, by omega, by omega, by omega, Lib.hid ⟨kb.out.1, kb.out.2.1, fun _ => kb.out.2.2⟩⟩
    case round =>
      clear kb
      obtain ⟨k, ok, s1, s2, rfl, rfl, hk, hs1, hs2, hr⟩ := hrel
      by_cases hlt : k < a.length
      · obtain ⟨b1, o1, rfl, hz1, hc1⟩ := (I2.out.1.below hr.out.1).2 (by omega)
        obtain ⟨b2, o2, rfl, hz2, hc2⟩ := (I2.out.2.below hr.out.1).2 (by omega)
        obtain ⟨q1, q2⟩ := hc1 k hlt
        obtain ⟨q3, q4⟩ := hc2 k hlt
        have hbd := HBB.out _ (List.getElem_mem hlt)
        have HZ0 := Lib.hid (HBZ.out (show 0 < a.length by omega))
        have hst := fun u1 u2 (h : SumOK l i.toNat k s1 s2) (hu : addM s1 s2 a[k].1 a[k].2 = (u1, u2, 0)) => knd_step (u1 := u1) (u2 := u2) HM1.out hlt (fun _ => h) hu HZ0.out
        obtain ⟨P, hP⟩ : ∃ P, P = a[k] := ⟨_, rfl⟩
        rw [← hP] at q1 q2 q3 q4 hbd
        simp only [← hP] at hst
        obtain ⟨p, q⟩ := P
        simp only at q1 q2 q3 q4 hbd hst
        obtain ⟨u1, u2, g, hu⟩ : ∃ x y z, addM s1 s2 p q = (x, y, z) := ⟨_, _, _, rfl⟩
        have bu := addM_bd hu
        have HUU := Lib.hid hu
        have HST := Lib.hid (show g = 0 → SumOK l i.toNat k s1 s2 → SumOK l i.toNat (k + 1) u1 u2 from fun hg h => by subst hg; exact hst u1 u2 h hu)
        have dpp : (p == p) = true := by simp
        have dqq : (q == q) = true := by simp
        have dpn : (p != p) = false := by simp
        have dqn : (q != q) = false := by simp
        clear hc1 hc2 hst hP hu
        go_upto_region 11 with fail
        go_quiet (fail)
        go_upto_region 13 with fail
        obtain ⟨w4, hw4⟩ : ∃ w4, w4 = wr.drewN nq := ⟨_, rfl⟩
        rw [← hw4]
        have H4 := Lib.hid (show Below w2.heap.size w2 w4 ∧ Box2 w4 w2.heap.size (.int .i64 s1) (.int .i64 s2) ∧ (ok = true → SumOK l i.toNat k s1 s2) ∧ Below wr.heap.size wr w4 by
          rw [hw4]
          exact ⟨below_drewN hr.out.1 _, hr.out.2.1.drewN _, fun h => hr.out.2.2 h HZ0.out, below_drewN (Below.refl _ _) _⟩)
        replace q1 := (H4.out.2.2.2.cell (p := ⟨b1, _, none⟩) hz1).trans q1
        replace q2 := (H4.out.2.2.2.cell (p := ⟨b1, _, none⟩) hz1).trans q2
        replace hz1 := Nat.lt_of_lt_of_le hz1 H4.out.2.2.2.size
        clear q3 q4 hz2 hw4 hr
        obtain ⟨x0, x1, x2, x3, x4⟩ := H4.out.2.1
        go_cut [12, 13] (fun v12 v13 wx => ∃ nb : Nat, v12 = .pointer (some ⟨nb, 0, none⟩) ∧ v13 = .int .i64 g ∧ Hid (Below w4.heap.size w4 wx ∧ RatB wx nb u1 u2))
        case first =>
          have hck := fun w => add_any s1 s2 p q u1 u2 g HUU.out (by omega) (by omega) (by omega) (by omega) (by omega) (by omega) (by omega) (by omega) w
          refine region_float (C := fun w' => ∃ x, w' = grow w4 x) (Fresh w4.heap.size 28 (ratC 0 0)) [0, 1, 2, 3, 4] [(false, 5), (true, 6), (true, 7), (true, 8)] 9 [10, 11] (by kernel_rfl) (by kernel_rfl) (by kernel_rfl) grow_trans Fresh.grow (grow_start w4) (by simp only [atOp, List.getElem?_cons_zero, List.getElem?_cons_succ]; exact fresh_alloc 28 (ratC 0 0) rfl ratZero) ?_
          simp only [pickL, List.getElem?_cons_zero, List.getElem?_cons_succ]
          repeat (go_big_quiet_step (fail))
          refine wpQuiet_nil ?_
          rintro - -
          simp only [floS, tailS, atOp, List.getElem?_cons_zero, List.getElem?_cons_succ]
          refine ⟨.tuple #[.agg #[.int .i64 u1, .int .i64 u2], .int .i64 g], flo_call 24 #[.agg #[.int .i64 s1, .int .i64 s2], .agg #[.int .i64 p, .int .i64 q]] (fun _ => by go_simp) (fun w _ => hck w) ?_⟩
          refine ⟨.tuple #[.agg #[.int .i64 u1, .int .i64 u2], .int .i64 g], fun _ => (by go_simp), ?_⟩
          refine ⟨.agg #[.int .i64 u1, .int .i64 u2], fun _ => (by go_simp), ?_⟩
          refine ⟨.int .i64 g, fun _ => (by go_simp), ?_⟩
          intro u w3 hw3 hg3
          refine ⟨hw3, ?_⟩
          refine tail_store 28 _ _ rfl (ratC 0 0) (ratC u1 u2) u (by go_simp) hg3 (by go_simp; rfl) hw3 (ratInfo u1 u2) rfl (by simp [ratC, Value.oneCell']) ?_
          clear hw3 hg3
          intro w4 hw4 hg4
          obtain ⟨nb, rfl, hnb, hn⟩ := hg4.rat
          clear hg4
          refine ⟨hw4, ?_⟩
          refine g_assignV _ rfl (.int .i64 g) (by go_simp) ?_
          refine ⟨hw4, ?_⟩
          obtain ⟨xg, rfl⟩ := hw4
          have hb4 := below_grow w4 xg
          go_wp2_with fail
          go_simp
          go_meet
          exact ⟨nb, rfl, rfl, Lib.hid ⟨hb4, hn⟩⟩
        case rest =>
          obtain ⟨nb, rfl, rfl, hc1⟩ := hcut
          have H5 := Lib.hid (And.intro (H4.out.1.trans (hc1.out.1.mono H4.out.1.size)) (And.intro (H4.out.2.1.keep hc1.out.1) H4.out.2.2.1))
          have HNB := Lib.hid hc1.out.2
          have hwsz := H4.out.1.size
          have hsbz := x4
          clear hc1 H4 x0 x1 x2 x3 x4 q1 q2 hz1
          cases ok with
          | false =>
            have R := Lib.hid (show Below w2.heap.size w2 wc ∧ Box2 wc w2.heap.size (.int .i64 s1) (.int .i64 s2) ∧ (false = true → z = 0 → SumOK l i.toNat (k + 1) s1 s2) from ⟨H5.out.1, H5.out.2.1, fun h => by cases h⟩)
            clear H5
            go_wp2
            go_roundw
            case rel => exact ⟨k + 1, false, s1, s2, by go_num, rfl, by omega, hs1, hs2, R⟩
            case measure => simp [intOf]; omega
          | true =>
            by_cases hg : g = 0
            · subst hg
              obtain ⟨y0, y1, y2, y3, y4⟩ := HNB.out.box
              obtain ⟨z0, z1, z2, z3, z4⟩ := H5.out.2.1
              have hsum := HST.out rfl (H5.out.2.2 rfl)
              have R := Lib.hid (show ∃ w', w' = (wc.setCell ⟨w2.heap.size, 0, none⟩ (.int .i64 u1)).setCell ⟨w2.heap.size, 1, none⟩ (.int .i64 u2) ∧ Below w2.heap.size w2 w' ∧ Box2 w' w2.heap.size (.int .i64 u1) (.int .i64 u2) ∧ (true = true → z = 0 → SumOK l i.toNat (k + 1) u1 u2) from ⟨_, rfl, (H5.out.1.setCell (Nat.le_refl _) _).setCell (Nat.le_refl _) _, ⟨by simp [go_sem, z0], by simp [go_sem, z1], by simp [go_sem, z2], by simp [go_sem, z3], by simpa [World.setCell] using z4⟩, fun _ _ => hsum⟩)
              clear hsum H5
              go_wp2_with fail
              obtain ⟨w', hw', R2⟩ := R.out
              rw [← hw']
              exact ⟨⟨k + 1, true, u1, u2, by go_num, rfl, by omega, by omega, by omega, Lib.hid R2⟩, by simp [intOf]; omega⟩
            · have d1 : (g == 0) = false := by rw [beq_eq_false_iff_ne]; exact hg
              have R := Lib.hid (show Below w2.heap.size w2 wc ∧ Box2 wc w2.heap.size (.int .i64 s1) (.int .i64 s2) ∧ (false = true → z = 0 → SumOK l i.toNat (k + 1) s1 s2) from ⟨H5.out.1, H5.out.2.1, fun h => by cases h⟩)
              clear H5 hg
              go_wp2
              go_roundw
              case rel => exact ⟨k + 1, false, s1, s2, by go_num, rfl, by omega, hs1, hs2, R⟩
              case measure => simp [intOf]; omega
      · obtain rfl : k = a.length := by omega
        by_cases hz : z = 0
        · subst hz
          have d1 : ((0 : Int) != 0) = false := rfl
          cases ok with
          | false =>
            go_wp2_with (go_at_call 16; refine (known_any _).mono ?_; rintro e w9 ⟨rfl, hb9⟩)
            go_ret
            exact ⟨rfl, (jb.out.trans (hr.out.1.mono jb.out.size)).trans (hb9.mono (Nat.le_trans jb.out.size hr.out.1.size))⟩
          | true =>
            obtain ⟨rfl, rfl⟩ := knd_done HM1.out (hr.out.2.2 rfl rfl)
            obtain ⟨x0, x1, x2, x3, x4⟩ := hr.out.2.1
            go_wp2_with (go_at_call 16; refine (known_any _).mono ?_; rintro e w9 ⟨rfl, hb9⟩)
            go_ret
            exact ⟨rfl, (jb.out.trans (hr.out.1.mono jb.out.size)).trans (hb9.mono (Nat.le_trans jb.out.size hr.out.1.size))⟩
        · have d1 : (z != 0) = true := by rw [bne_iff_ne]; exact hz
          clear hz
          go_wp2_with (go_at_call 16; refine (known_any _).mono ?_; rintro e w9 ⟨rfl, hb9⟩)
          go_ret
          exact ⟨rfl, (jb.out.trans (hr.out.1.mono jb.out.size)).trans (hb9.mono (Nat.le_trans jb.out.size hr.out.1.size))⟩
end Go.Proofs.Ytdgmpaijpjkeoaa
