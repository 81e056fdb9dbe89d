/-
  THE WALK OF THE LAW LotOnlyKeeps: it returns true.
-/
import Derived.Test.YtdgmpaijpjkeoaaKeepM
import Derived.Test.YtdgmpaijpjkeoaaLotOnly
import Derived.Test.YtdgmpaijpjkeoaaPthA
import Derived.Test.YtdgmpaijpjkeoaaRegT
import Derived.Deep.DeepCutAuto
namespace Go.Proofs.Ytdgmpaijpjkeoaa
open Go.RowKit
attribute [local go_sem] grow_cell grow_frozen
attribute [local irreducible] plainUpon GrowsTo stepC
theorem PthV_bd {l : List LotD} (h : valE l = 0) {i j : Nat} (hj : j < l.length) : -9223372036854775808 ≤ pathV l i j ∧ pathV l i j ≤ 9223372036854775807 := by
  have hg := valE_zero h
  have h24 := hg.len
  have := path_bd hg.lot (of := i) (show j ≤ 23 by omega)
  omega
set_option maxRecDepth 100000 in
set_option maxHeartbeats 4000000 in
theorem lotOnlyKeeps_walk (A : Option Addr) (c : Nat) (l : List LotD) (hc : l.length ≤ c) (O : Option Addr) (d : Nat) (xs : List Int) (of i : Int) (hof : -9223372036854775808 ≤ of) (kof : of ≤ 9223372036854775807) (hi : -9223372036854775808 ≤ i) (ki : i ≤ 9223372036854775807) (w : World) (hL : LotsIn w A l) (hl : l.length ≤ maxLen) (hO : IsL w O xs.length xs) (hx : xs.length ≤ maxLen) (h64 : ∀ x ∈ xs, I64 x) :
    Calls Try.prog 13 #[.slice A l.length c, .slice O xs.length d, .agg #[.int .i64 of, .int .i64 i]] w fun e w' => e = .returned (.bool true) ∧ Below w.heap.size w w' := by
  have HL := Lib.hid hL
  have HO := Lib.hid hO
  have HX := Lib.hid h64
  unfold maxLen at hx
  clear hL hO h64
  cases hlong : longB l with
  | true =>
    have HLO := Lib.hid hlong
    clear hlong
    go_enter Try.func13, Try.ntmps13
    go_wp2_with fail
    refine (long_any l true HLO.out A c _ (HL.out.below (by repeat' (first | (with_reducible exact Below.refl _ _) | (with_reducible assumption) | (with_reducible refine below_drewN ?_ _) | (with_reducible refine below_step (by assumption) ?_ ?_) | (with_reducible refine Below.alloc ?_ ?_ _) | (with_reducible refine Below.setCell ?_ ?_ _) | (with_reducible refine Below.drew ?_) | go_size | (exact Below.size (by assumption)) | (refine Nat.le_trans (Below.size (by assumption)) ?_)))) hl).mono ?_
    rintro e w' ⟨rfl, rfl⟩
    go_wp2_with fail
    refine (known_any _).mono ?_
    rintro e w1 ⟨rfl, hb1⟩
    go_wp2
    go_ret
    exact ⟨rfl, (by repeat' (first | (with_reducible exact Below.refl _ _) | (with_reducible assumption) | (with_reducible refine below_drewN ?_ _) | (with_reducible refine below_step (by assumption) ?_ ?_) | (with_reducible refine Below.alloc ?_ ?_ _) | (with_reducible refine Below.setCell ?_ ?_ _) | (with_reducible refine Below.drew ?_) | go_size | (exact Below.size (by assumption)) | (refine Nat.le_trans (Below.size (by assumption)) ?_)))⟩
  | false =>
    obtain ⟨hl40, hps20⟩ := long_small hlong
    have HLO := Lib.hid hlong
    clear hlong
    by_cases h60 : 60 < xs.length
    · have d0 : decide ((60 : Int) < (xs.length : Int)) = true := decide_eq_true (by omega)
      clear hps20
      go_enter Try.func13, Try.ntmps13
      go_wp2_with fail
      refine (long_any l false HLO.out A c _ (HL.out.below (by repeat' (first | (with_reducible exact Below.refl _ _) | (with_reducible assumption) | (with_reducible refine below_drewN ?_ _) | (with_reducible refine below_step (by assumption) ?_ ?_) | (with_reducible refine Below.alloc ?_ ?_ _) | (with_reducible refine Below.setCell ?_ ?_ _) | (with_reducible refine Below.drew ?_) | go_size | (exact Below.size (by assumption)) | (refine Nat.le_trans (Below.size (by assumption)) ?_)))) hl).mono ?_
      rintro e w' ⟨rfl, rfl⟩
      go_wp2_with fail
      refine (known_any _).mono ?_
      rintro e w1 ⟨rfl, hb1⟩
      go_wp2
      go_ret
      exact ⟨rfl, (by repeat' (first | (with_reducible exact Below.refl _ _) | (with_reducible assumption) | (with_reducible refine below_drewN ?_ _) | (with_reducible refine below_step (by assumption) ?_ ?_) | (with_reducible refine Below.alloc ?_ ?_ _) | (with_reducible refine Below.setCell ?_ ?_ _) | (with_reducible refine Below.drew ?_) | go_size | (exact Below.size (by assumption)) | (refine Nat.le_trans (Below.size (by assumption)) ?_)))⟩
    · obtain ⟨a, old, z, hm⟩ : ∃ a old z, onlyE l xs = (a, old, z) := ⟨_, _, _, rfl⟩
      obtain ⟨ha, ho40, hpa⟩ := onlyE_len hm hl40 hps20
      simp only at ha ho40 hpa
      have HM := Lib.hid hm
      have HPS := Lib.hid (show ∀ x ∈ l, x.parts.length ≤ 1000 from fun x hx => by have := hps20 x hx; omega)
      have HPA := Lib.hid (show ∀ x ∈ a, x.parts.length ≤ 1000 from fun x hx => by have := hpa x hx; omega)
      have d0 : decide ((60 : Int) < (xs.length : Int)) = false := decide_eq_false (by omega)
      clear hm hps20 hpa
      go_enter Try.func13, Try.ntmps13
      go_wp2_with fail
      obtain ⟨W, hW⟩ : ∃ W, W = w.alloc (.cells #[.int .i64 of, .int .i64 i] 24) := ⟨_, rfl⟩
      rw [← hW]
      have hb := Lib.hid (show Below w.heap.size w W by rw [hW]; exact (by repeat' (first | (with_reducible exact Below.refl _ _) | (with_reducible assumption) | (with_reducible refine below_drewN ?_ _) | (with_reducible refine below_step (by assumption) ?_ ?_) | (with_reducible refine Below.alloc ?_ ?_ _) | (with_reducible refine Below.setCell ?_ ?_ _) | (with_reducible refine Below.drew ?_) | go_size | (exact Below.size (by assumption)) | (refine Nat.le_trans (Below.size (by assumption)) ?_))))
      have HBX := Lib.hid (show Box2 W w.heap.size (.int .i64 of) (.int .i64 i) by rw [hW]; exact Box2.new _ _ _ _)
      clear hW
      refine (long_any l false HLO.out A c _ (HL.out.below hb.out) hl).mono ?_
      rintro e w' ⟨rfl, rfl⟩
      go_wp2_with fail
      refine (only_any l (by omega) HPS.out xs (by omega) HX.out (a, old, z) HM.out A c hc O d W (HL.out.below hb.out) (HO.out.below hb.out)).mono ?_
      rintro e w1 ⟨v, Ao, co, rfl, o1, i1, hb1⟩
      simp only at o1 i1
      obtain ⟨A2, c2, rfl, -, L1⟩ := o1.lots
      have H1 := Lib.hid (And.intro (hb.out.trans (hb1.mono hb.out.size)) (And.intro L1 (And.intro i1 (HBX.out.keep hb1))))
      clear o1 L1 i1 hb1 hb HBX
      obtain ⟨x0, x1, x2, x3, x4⟩ := H1.out.2.2.2
      by_cases hz : z = 0
      · have d1 : (z != 0) = false := by rw [hz]; rfl
        by_cases hin : 0 ≤ of ∧ 0 ≤ i ∧ of < old.length ∧ i < old.length
        · obtain ⟨p, rfl⟩ : ∃ p : Nat, of = p := ⟨of.toNat, by omega⟩
          obtain ⟨q, rfl⟩ : ∃ q : Nat, i = q := ⟨i.toNat, by omega⟩
          have hp : p < old.length := by omega
          have hq : q < old.length := by omega
          have hm := HM.out
          rw [hz] at hm
          obtain ⟨k1, k2, k3, k4, k5, k6, k7⟩ := keeps_plain hm hp hq
          obtain ⟨r1, r2, f, hs⟩ : ∃ r1 r2 f, shE a p q = (r1, r2, f) := ⟨_, _, _, rfl⟩
          rw [hs] at k5
          have hbd := sh_bd hs
          have HS1 := Lib.hid hs
          have hv : valE l = 0 := by
            have := hm
            unfold onlyE at this
            by_cases h : valE l = 0
            · exact h
            · rw [if_pos h] at this; simp only [Prod.mk.injEq] at this; exact absurd this.2.2 h
          have hnb := PthV_bd hv (i := (old.getD p 0).toNat) (j := (old.getD q 0).toNat) (by omega)
          obtain ⟨n, hn⟩ : ∃ n, n = pathV l (old.getD p 0).toNat (old.getD q 0).toNat := ⟨_, rfl⟩
          rw [← hn] at k6 k7 hnb
          have HP1 := Lib.hid k6
          have HIS := Lib.hid H1.out.2.2.1
          obtain ⟨x, hxx⟩ : ∃ x, x = old.getD p 0 := ⟨_, rfl⟩
          obtain ⟨y, hyy⟩ : ∃ y, y = old.getD q 0 := ⟨_, rfl⟩
          rw [← hxx] at k1 k2 k5 k7
          rw [← hyy] at k3 k4 k5 k7
          have HS2 := Lib.hid k5.symm
          have HP2 := Lib.hid k7
          have HXX := Lib.hid hxx
          have HYY := Lib.hid hyy
          have e1 : decide (old.length ≤ p) = false := decide_eq_false (by omega)
          have e2 : decide (old.length ≤ q) = false := decide_eq_false (by omega)
          have hx64 : -9223372036854775808 ≤ x ∧ x ≤ 9223372036854775807 := by omega
          have hy64 : -9223372036854775808 ≤ y ∧ y ≤ 9223372036854775807 := by omega
          clear hm k5 k6 k7 hs hn hxx hyy hz hin hv
          go_wp2_with fail
          refine (share_any a (by omega) HPA.out p q r1 r2 f HS1.out (by omega) (by omega) (by omega) (by omega) A2 c2 w1 H1.out.2.1).mono ?_
          rintro e w2 ⟨rfl, hb2⟩
          clear x0 x1 x2 x3 x4
          have H2 := Lib.hid (And.intro (H1.out.1.trans (hb2.mono H1.out.1.size)) (And.intro (H1.out.2.1.below hb2) (And.intro (H1.out.2.2.1.below hb2) (H1.out.2.2.2.keep hb2))))
          clear hb2 HIS H1
          go_upto_region 7 with fail
          obtain ⟨W2, hW2⟩ : ∃ W2, W2 = w2.alloc (.cells #[.int .i64 r1, .int .i64 r2] 28) := ⟨_, rfl⟩
          rw [← hW2]
          have hal := (Below.refl w2.heap.size w2).alloc (Nat.le_refl _) (.cells #[.int .i64 r1, .int .i64 r2] 28)
          rw [← hW2] at hal
          have H3 := Lib.hid (And.intro (H2.out.1.trans (hal.mono H2.out.1.size)) (And.intro (H2.out.2.1.below hal) (And.intro (H2.out.2.2.1.below hal) (And.intro (H2.out.2.2.2.keep hal) (show Box2 W2 w2.heap.size (.int .i64 r1) (.int .i64 r2) by rw [hW2]; exact Box2.new _ _ _ _)))))
          clear hW2 hal H2
          obtain ⟨x0, x1, x2, x3, x4⟩ := H3.out.2.2.2.1
          obtain ⟨b, o, rfl, hbz, hcx⟩ := H3.out.2.2.1.2 (by omega)
          have q1 := hcx p hp
          have q2 := hcx q hq
          rw [← HXX.out] at q1
          rw [← HYY.out] at q2
          clear hcx
          go_cut [12, 13] (fun v12 v13 wx => ∃ nb : Nat, v12 = .pointer (some ⟨nb, 0, none⟩) ∧ v13 = .int .i64 f ∧ Hid (Below W2.heap.size W2 wx ∧ RatB wx nb r1 r2))
          case first =>
            have hck := fun w (hw : Below W2.heap.size W2 w) => share_any l (by omega) HPS.out x y r1 r2 f HS2.out (by omega) (by omega) (by omega) (by omega) A c w ((HL.out.below H3.out.1).below hw)
            refine region_float (C := fun w' => ∃ x, w' = grow W2 x) (Fresh W2.heap.size 28 (ratC 0 0)) [0, 1, 2, 3, 4, 5, 6, 7, 8, 9, 10] [(false, 11), (true, 12), (true, 13), (true, 14)] 15 [16, 17] (by kernel_rfl) (by kernel_rfl) (by kernel_rfl) grow_trans Fresh.grow (grow_start W2) (by simp only [atOp, List.getElem?_cons_zero, List.getElem?_cons_succ]; exact fresh_alloc 28 (ratC 0 0) rfl ratZero) ?_
            simp only [pickL, List.getElem?_cons_zero, List.getElem?_cons_succ]
            repeat (go_big_quiet_step (fail))
            refine wpQuiet_nil ?_
            rintro - -
            simp only [floS, tailS, atOp, List.getElem?_cons_zero, List.getElem?_cons_succ]
            refine ⟨.tuple #[.agg #[.int .i64 r1, .int .i64 r2], .int .i64 f], flo_call 17 #[.slice A l.length c, .int .i64 x, .int .i64 y] (fun _ => by go_simp) (fun w hw => by obtain ⟨x, rfl⟩ := hw; exact hck _ (below_grow W2 x)) ?_⟩
            refine ⟨.tuple #[.agg #[.int .i64 r1, .int .i64 r2], .int .i64 f], fun _ => (by go_simp), ?_⟩
            refine ⟨.agg #[.int .i64 r1, .int .i64 r2], fun _ => (by go_simp), ?_⟩
            refine ⟨.int .i64 f, fun _ => (by go_simp), ?_⟩
            intro u w3 hw3 hg3
            refine ⟨hw3, ?_⟩
            refine tail_store 28 _ _ rfl (ratC 0 0) (ratC r1 r2) u (by go_simp) hg3 (by go_simp; rfl) hw3 (ratInfo r1 r2) rfl (by simp [ratC, Value.oneCell']) ?_
            clear hw3 hg3
            intro w4 hw4 hg4
            obtain ⟨nb, rfl, hnb, hn⟩ := hg4.rat
            clear hg4
            refine ⟨hw4, ?_⟩
            refine g_assign _ rfl ?_
            refine ⟨hw4, ?_⟩
            obtain ⟨xg, rfl⟩ := hw4
            have hb4 := below_grow W2 xg
            go_wp2_with fail
            go_meet
            exact ⟨nb, rfl, rfl, Lib.hid ⟨hb4, hn⟩⟩
          case rest =>
            obtain ⟨nb, rfl, rfl, hc1⟩ := hcut
            have h4 := hc1.out.1
            have H4 := Lib.hid (And.intro (H3.out.1.trans (h4.mono H3.out.1.size)) (And.intro (H3.out.2.1.below h4) (And.intro (H3.out.2.2.1.below h4) (And.intro (H3.out.2.2.2.1.keep h4) (And.intro (H3.out.2.2.2.2.keep h4) hc1.out.2)))))
            clear h4 hc1 H3 x0 x1 x2 x3 x4 q1 q2
            obtain ⟨x0, x1, x2, x3, x4⟩ := H4.out.2.2.2.1
            have hbz4 := Nat.lt_of_lt_of_le x4 (Nat.le_refl _)
            go_wp2_with fail
            refine (lotPaths_any a (by omega) HPA.out p q n 0 HP1.out (by omega) (by omega) (by omega) (by omega) A2 c2 wc H4.out.2.1).mono ?_
            rintro e w5 ⟨rfl, h5⟩
            have H5 := Lib.hid (And.intro (H4.out.1.trans (h5.mono H4.out.1.size)) (And.intro (H4.out.2.2.1.below h5) (And.intro (H4.out.2.2.2.1.keep h5) (And.intro (H4.out.2.2.2.2.1.keep h5) (H4.out.2.2.2.2.2.keep h5)))))
            clear h5 H4 x0 x1 x2 x3 x4 hbz4
            obtain ⟨x0, x1, x2, x3, x4⟩ := H5.out.2.2.1
            obtain ⟨b', o', eA, hbz5, hcx⟩ := H5.out.2.1.2 (by omega)
            cases eA
            have q1 := hcx p hp
            have q2 := hcx q hq
            rw [← HXX.out] at q1
            rw [← HYY.out] at q2
            clear hcx
            go_upto_region 9 with fail
            have hck := fun w (hw : Below w5.heap.size w5 w) => lotPaths_any l (by omega) HPS.out x y n 0 HP2.out (by omega) (by omega) (by omega) (by omega) A c w ((HL.out.below H5.out.1).below hw)
            refine region_tree (C := fun w' => ∃ x, w' = grow w5 x) [0, 1, 2, 3, 4, 5, 6, 7, 8, 9, 10] (.one 11 (.one 12 (.read 13 (.read 14 (OT.seq [15, 16]))))) (by kernel_rfl) (by kernel_rfl) (grow_start w5) ?_
            simp only [pickL, List.getElem?_cons_zero, List.getElem?_cons_succ]
            repeat (go_big_quiet_step (fail))
            refine wpQuiet_nil ?_
            rintro w6 ⟨xg, hxg⟩
            have hb6 := below_grow w5 xg
            rw [← hxg] at hb6
            simp only [treeS, OT.seq, atOp, List.getElem?_cons_zero, List.getElem?_cons_succ]
            refine ⟨⟨xg, hxg⟩, ?_⟩
            refine s_call 25 #[.slice A l.length c, .int .i64 x, .int .i64 y] rfl (by go_simp) ?_
            refine (hck w6 hb6).mono ?_
            rintro e w7 ⟨rfl, hb7⟩
            have hb7' := hb6.trans (hb7.mono hb6.size)
            have HG := Lib.hid (grow_of_below hb7')
            clear hb7 hck hxg hb6
            refine ⟨_, rfl, HG.out, ?_⟩
            refine s_val (.tuple #[.int .i64 n, .int .i64 0]) w7 rfl (by go_simp) ?_
            refine ⟨HG.out, .int .i64 n, s_read _ rfl (fun _ _ => by go_simp), ?_⟩
            refine ⟨HG.out, .int .i64 0, s_read _ rfl (fun _ _ => by go_simp), ?_⟩
            refine ⟨HG.out, ?_⟩
            refine s_assign _ rfl rfl (.int .i64 n) (by go_simp) ?_
            refine ⟨HG.out, ?_⟩
            refine s_assign _ rfl rfl (.int .i64 0) (by go_simp) ?_
            refine ⟨HG.out, ?_⟩
            have H7 := Lib.hid (And.intro (H5.out.1.trans (hb7'.mono H5.out.1.size)) (And.intro (H5.out.2.2.2.1.keep hb7') (H5.out.2.2.2.2.keep hb7')))
            clear H5 x0 x1 x2 x3 x4 q1 q2 hb7' HG
            go_simp
            obtain ⟨x0, x1, x2, x3, x4⟩ := H7.out.2.1
            obtain ⟨y0, y1, y2, y3, y4⟩ := H7.out.2.2.box
            have d1 : (n == n) = true := by simp
            have d2 : (f == f) = true := by simp
            have d3 : (r1 == r1) = true := by simp
            have d4 : (r2 == r2) = true := by simp
            go_wp2_with fail
            refine (known_any _).mono ?_
            rintro e w8 ⟨rfl, hb8⟩
            have HB8 := Lib.hid (H7.out.1.trans (hb8.mono H7.out.1.size))
            clear hb8 H7 x0 x1 x2 x3 x4 y0 y1 y2 y3 y4
            go_wp2
            go_ret
            exact ⟨rfl, HB8.out⟩
        · clear HM
          have hfin : ∀ w2, Below w1.heap.size w1 w2 → Below w.heap.size w w2 := fun w2 hb2 => H1.out.1.trans (hb2.mono H1.out.1.size)
          have HFIN := Lib.hid hfin
          clear hfin
          by_cases c1 : of < 0
          · have t1 : decide (of < 0) = true := decide_eq_true c1
            go_wp2_with fail
            refine (known_any _).mono ?_
            rintro e w2 ⟨rfl, hb2⟩
            go_wp2
            go_ret
            exact ⟨rfl, HFIN.out w2 hb2⟩
          · have t1 : decide (of < 0) = false := decide_eq_false c1
            by_cases c2 : i < 0
            · have t2 : decide (i < 0) = true := decide_eq_true c2
              go_wp2_with fail
              refine (known_any _).mono ?_
              rintro e w2 ⟨rfl, hb2⟩
              go_wp2
              go_ret
              exact ⟨rfl, HFIN.out w2 hb2⟩
            · have t2 : decide (i < 0) = false := decide_eq_false c2
              by_cases c3 : (old.length : Int) ≤ of
              · have t3 : decide ((old.length : Int) ≤ of) = true := decide_eq_true c3
                go_wp2_with fail
                refine (known_any _).mono ?_
                rintro e w2 ⟨rfl, hb2⟩
                go_wp2
                go_ret
                exact ⟨rfl, HFIN.out w2 hb2⟩
              · have t3 : decide ((old.length : Int) ≤ of) = false := decide_eq_false c3
                have c4 : (old.length : Int) ≤ i := by omega
                have t4 : decide ((old.length : Int) ≤ i) = true := decide_eq_true c4
                go_wp2_with fail
                refine (known_any _).mono ?_
                rintro e w2 ⟨rfl, hb2⟩
                go_wp2
                go_ret
                exact ⟨rfl, HFIN.out w2 hb2⟩
      · have d1 : (z != 0) = true := by rw [bne_iff_ne]; exact hz
        clear hz
        go_wp2_with fail
        refine (known_any _).mono ?_
        rintro e w2 ⟨rfl, hb2⟩
        go_wp2
        go_ret
        exact ⟨rfl, H1.out.1.trans (hb2.mono H1.out.1.size)⟩
end Go.Proofs.Ytdgmpaijpjkeoaa
