/-
  THE WALK OF THE LAW LotDilutes: it returns true.
-/
import Derived.Test.YtdgmpaijpjkeoaaLotK
import Derived.Test.YtdgmpaijpjkeoaaDilM
import Derived.Test.YtdgmpaijpjkeoaaNumE
import Derived.Test.YtdgmpaijpjkeoaaRefA
import Derived.Test.YtdgmpaijpjkeoaaLotP
import Derived.Test.YtdgmpaijpjkeoaaRegK
namespace Go.Proofs.Ytdgmpaijpjkeoaa
open Go.RowKit
attribute [local go_sem] grow_cell grow_frozen
attribute [local irreducible] plainUpon GrowsTo
/-- The world in the loop: the boxes of the pair, of the share, of the lot and of the sum. -/
structure DW (w wr : World) (pb rb lb sb : Nat) (of i p q : Int) (kd ms : Int) (B : Option Addr) (n c : Nat) (a b : Int) : Prop where
  px : Box2 wr pb (.int .i64 of) (.int .i64 i)
  rx : Box2 wr rb (.int .i64 p) (.int .i64 q)
  l0 : wr.cell? ⟨lb, 0, none⟩ = some (.int .i64 kd)
  l1 : wr.cell? ⟨lb, 1, none⟩ = some (.int .i64 ms)
  l2 : wr.cell? ⟨lb, 2, none⟩ = some (.slice B n c)
  lz : lb < wr.heap.size
  sx : Box2 wr sb (.int .i64 a) (.int .i64 b)
  b : Below w.heap.size w wr
theorem DW.keep {w wr w' : World} {pb rb lb sb : Nat} {of i p q kd ms : Int} {B : Option Addr} {n c : Nat} {a b : Int} (h : DW w wr pb rb lb sb of i p q kd ms B n c a b) (hb : Below wr.heap.size wr w') : DW w w' pb rb lb sb of i p q kd ms B n c a b :=
  ⟨h.px.keep hb, h.rx.keep hb, (hb.cell (p := ⟨lb, 0, none⟩) h.lz).trans h.l0, (hb.cell (p := ⟨lb, 1, none⟩) h.lz).trans h.l1, (hb.cell (p := ⟨lb, 2, none⟩) h.lz).trans h.l2, Nat.lt_of_lt_of_le h.lz hb.size, h.sx.keep hb, h.b.trans (hb.mono h.b.size)⟩
theorem DW.set {w wr : World} {pb rb lb sb : Nat} {of i p q kd ms : Int} {B : Option Addr} {n c : Nat} {a b a' b' : Int} (h : DW w wr pb rb lb sb of i p q kd ms B n c a b) (h1 : pb ≠ sb) (h2 : rb ≠ sb) (h3 : lb ≠ sb) (h4 : w.heap.size ≤ sb) :
    DW w ((wr.setCell ⟨sb, 0, none⟩ (.int .i64 a')).setCell ⟨sb, 1, none⟩ (.int .i64 b')) pb rb lb sb of i p q kd ms B n c a' b' := by
  obtain ⟨s0, s1, s2, s3, s4⟩ := h.sx
  refine ⟨(h.px.setCell (p := ⟨sb, 0, none⟩) h1 _).setCell (p := ⟨sb, 1, none⟩) h1 _, (h.rx.setCell (p := ⟨sb, 0, none⟩) h2 _).setCell (p := ⟨sb, 1, none⟩) h2 _, ?_, ?_, ?_, ?_, ?_, (h.b.setCell h4 _).setCell h4 _⟩
  · have e := (Below.heap_setCell (wr.setCell ⟨sb, 0, none⟩ (.int .i64 a')) ⟨sb, 1, none⟩ (.int .i64 b') lb h3).trans (Below.heap_setCell wr ⟨sb, 0, none⟩ (.int .i64 a') lb h3)
    exact (World.cell?_of_block (a := ⟨lb, 0, none⟩) e).trans h.l0
  · have e := (Below.heap_setCell (wr.setCell ⟨sb, 0, none⟩ (.int .i64 a')) ⟨sb, 1, none⟩ (.int .i64 b') lb h3).trans (Below.heap_setCell wr ⟨sb, 0, none⟩ (.int .i64 a') lb h3)
    exact (World.cell?_of_block (a := ⟨lb, 1, none⟩) e).trans h.l1
  · have e := (Below.heap_setCell (wr.setCell ⟨sb, 0, none⟩ (.int .i64 a')) ⟨sb, 1, none⟩ (.int .i64 b') lb h3).trans (Below.heap_setCell wr ⟨sb, 0, none⟩ (.int .i64 a') lb h3)
    exact (World.cell?_of_block (a := ⟨lb, 2, none⟩) e).trans h.l2
  · simpa [World.setCell] using h.lz
  · refine ⟨by simp [go_sem, s0], by simp [go_sem, s1], by simp [go_sem, s2], by simp [go_sem, s3], by simpa [World.setCell] using s4⟩
set_option maxRecDepth 100000 in
set_option maxHeartbeats 8000000 in
theorem lotDilutes_walk (A : Option Addr) (c : Nat) (l : List LotD) (of i : Int) (hof : -9223372036854775808 ≤ of) (kof : of ≤ 9223372036854775807) (hi : -9223372036854775808 ≤ i) (ki : i ≤ 9223372036854775807) (w : World) (hL : LotsIn w A l) (hl : l.length ≤ maxLen) :
    Calls Try.prog 5 #[.slice A l.length c, .agg #[.int .i64 of, .int .i64 i]] w fun e w' => e = .returned (.bool true) ∧ Below w.heap.size w w' := by
  have HL := Lib.hid hL
  clear hL
  cases hlong : longB l with
  | true =>
    -- STUB
    have HLO := Lib.hid hlong
    clear hlong
    go_enter Try.func5, Try.ntmps5
    go_wp2_with fail
    refine (long_any l true HLO.out A c _ (HL.out.below (by repeat' (first | (with_reducible exact Below.refl _ _) | (with_reducible assumption) | (with_reducible refine below_drewN ?_ _) | (with_reducible refine below_step (by assumption) ?_ ?_) | (with_reducible refine Below.alloc ?_ ?_ _) | (with_reducible refine Below.setCell ?_ ?_ _) | (with_reducible refine Below.drew ?_) | go_size | (exact Below.size (by assumption)) | (refine Nat.le_trans (Below.size (by assumption)) ?_)))) hl).mono ?_
    rintro e w' ⟨rfl, rfl⟩
    go_wp2_with fail
    refine (known_any _).mono ?_
    rintro e w1 ⟨rfl, hb1⟩
    go_wp2
    go_ret
    exact ⟨rfl, (by repeat' (first | (with_reducible exact Below.refl _ _) | (with_reducible assumption) | (with_reducible refine below_drewN ?_ _) | (with_reducible refine below_step (by assumption) ?_ ?_) | (with_reducible refine Below.alloc ?_ ?_ _) | (with_reducible refine Below.setCell ?_ ?_ _) | (with_reducible refine Below.drew ?_) | go_size | (exact Below.size (by assumption)) | (refine Nat.le_trans (Below.size (by assumption)) ?_)))⟩
    -- END
  | false =>
    obtain ⟨hl40, hps20⟩ := long_small hlong
    have HLO := Lib.hid hlong
    have HPS := Lib.hid (show ∀ x ∈ l, x.parts.length ≤ 1000 from fun x hx => by have := hps20 x hx; omega)
    obtain ⟨p, q, z, hm⟩ : ∃ p q z, shE l of i = (p, q, z) := ⟨_, _, _, rfl⟩
    have hbd := sh_bd hm
    have HM := Lib.hid hm
    clear hlong hps20 hm
    go_enter Try.func5, Try.ntmps5
    go_wp2_with fail
    obtain ⟨W, hW⟩ : ∃ W, W = w.alloc (.cells #[.int .i64 of, .int .i64 i] 24) := ⟨_, rfl⟩
    rw [← hW]
    have hb := Lib.hid (show Below w.heap.size w W by rw [hW]; exact (by repeat' (first | (with_reducible exact Below.refl _ _) | (with_reducible assumption) | (with_reducible refine below_drewN ?_ _) | (with_reducible refine below_step (by assumption) ?_ ?_) | (with_reducible refine Below.alloc ?_ ?_ _) | (with_reducible refine Below.setCell ?_ ?_ _) | (with_reducible refine Below.drew ?_) | go_size | (exact Below.size (by assumption)) | (refine Nat.le_trans (Below.size (by assumption)) ?_))))
    have hx : Box2 W w.heap.size (.int .i64 of) (.int .i64 i) := by rw [hW]; exact Box2.new _ _ _ _
    clear hW
    refine (long_any l false HLO.out A c _ (HL.out.below hb.out) hl).mono ?_
    rintro e w' ⟨rfl, rfl⟩
    obtain ⟨x0, x1, x2, x3, x4⟩ := id hx
    go_wp2_with fail
    refine (share_any l (by omega) HPS.out of i p q z HM.out (by omega) (by omega) (by omega) (by omega) A c W (HL.out.below hb.out)).mono ?_
    rintro e w1 ⟨rfl, hb1⟩
    have ib := Lib.hid (hb.out.trans (hb1.mono hb.out.size))
    have ix := hx.keep hb1
    clear x0 x1 x2 x3 x4 hx hb hb1
    go_upto_region 4 with fail
    obtain ⟨W2, hW2⟩ : ∃ W2, W2 = w1.alloc (.cells #[.int .i64 p, .int .i64 q] 28) := ⟨_, rfl⟩
    rw [← hW2]
    have jb := Lib.hid (show Below w.heap.size w W2 by rw [hW2]; exact ib.out.alloc ib.out.size _)
    have jy : Box2 W2 w1.heap.size (.int .i64 p) (.int .i64 q) := by rw [hW2]; exact Box2.new _ _ _ _
    have jx : Box2 W2 w.heap.size (.int .i64 of) (.int .i64 i) := by rw [hW2]; exact ix.alloc _
    have hz1 := ix.2.2.2.2
    clear hW2 ix ib
    obtain ⟨x0, x1, x2, x3, x4⟩ := id jx
    obtain ⟨y0, y1, y2, y3, y4⟩ := id jy
    by_cases hin : 0 ≤ i ∧ i < l.length
    · obtain ⟨i, rfl⟩ : ∃ k : Nat, i = k := ⟨i.toNat, by omega⟩
      have hil : i < l.length := by omega
      obtain ⟨b, o, rfl, hc⟩ := HL.out (by omega)
      obtain ⟨e1, e2, e3, e4, e5, B', c', e6, e8, e7⟩ := hc i hil
      replace e4 := (jb.out.cell (p := ⟨b, _, none⟩) e3).trans e4
      replace e5 := (jb.out.cell (p := ⟨b, _, none⟩) e3).trans e5
      replace e6 := (jb.out.cell (p := ⟨b, _, none⟩) e3).trans e6
      replace e3 := Nat.lt_of_lt_of_le e3 jb.out.size
      have hsm := HM.out
      obtain ⟨y, hy⟩ : ∃ y, y = l[i] := ⟨_, rfl⟩
      have hyd : l.getD i default = y := by rw [getD_at' hil, hy]
      rw [← hy] at e1 e2 e4 e5 e6 e7 e8
      obtain ⟨kd, ms, ps⟩ := y
      simp only at e1 e2 e4 e5 e6 e7 e8
      have HY := Lib.hid hyd
      have HP := Lib.hid e7
      have hpl : ps.length ≤ 1000 := by have := HPS.out _ (List.getElem_mem hil); rw [← hy] at this; exact this
      clear hc e7 hy hyd hin
      by_cases hz : z = 0
      · subst hz
        by_cases hoi : of = i
        · obtain ⟨rfl, rfl⟩ := sh_self (show shE l i i = (p, q, 0) by rw [← hsm, hoi])
          -- STUB
          have d1 : (of == (i : Int)) = true := by rw [beq_iff_eq]; exact hoi
          clear hoi hsm
          go_wp2_with (go_at_call 16; refine (known_any _).mono ?_; rintro e w7 ⟨rfl, hb6⟩)
          go_ret
          exact ⟨rfl, jb.out.trans (hb6.mono jb.out.size)⟩
          -- END
        · have d1 : (of == (i : Int)) = false := by rw [beq_eq_false_iff_ne]; exact hoi
          have d2 : (of != (i : Int)) = true := by rw [bne_iff_ne]; exact hoi
          by_cases h0 : ps.length = 0
          · obtain ⟨rfl, rfl⟩ := sh_none hsm hoi (by rw [Int.toNat_natCast, HY.out]; exact h0)
            -- STUB
            have d3 : ((ps.length : Int) == 0) = true := by rw [beq_iff_eq]; omega
            clear hoi hsm h0
            go_wp2_with (go_at_call 16; refine (known_any _).mono ?_; rintro e w7 ⟨rfl, hb6⟩)
            go_ret
            exact ⟨rfl, jb.out.trans (hb6.mono jb.out.size)⟩
            -- END
          · have d3 : ((ps.length : Int) == 0) = false := by rw [beq_eq_false_iff_ne]; omega
            have HOI := Lib.hid hoi
            clear hoi hsm
            go_upto_region 10 with fail
            obtain ⟨W5, hW5⟩ : ∃ W5, W5 = (W2.alloc (.cells #[.int .i64 kd, .int .i64 ms, .slice B' ps.length c'] 37)).alloc (.cells #[.int .i64 0, .int .i64 1] 28) := ⟨_, rfl⟩
            rw [← hW5]
            have hck : chkE l [of, (i : Int)] = 0 := by
              have h1 := HM.out
              unfold shE at h1
              by_cases hc : chkE l [of, (i : Int)] = 0
              · exact hc
              · rw [if_pos hc] at h1
                simp only [Prod.mk.injEq] at h1
                exact absurd h1.2.2 hc
            obtain ⟨hgl, hin⟩ := chk_zero hck
            have hof0 := hin of (by simp)
            obtain ⟨of, rfl⟩ : ∃ k : Nat, of = k := ⟨of.toNat, by omega⟩
            have HG := Lib.hid hgl.lot
            have hz2 : w1.heap.size < W2.heap.size := jy.2.2.2.2
            have D0 := Lib.hid (show DilOK l of i 0 0 1 ∧ DW w W5 w.heap.size w1.heap.size W2.heap.size (W2.heap.size + 1) of i p q kd ms B' ps.length c' 0 1 from ⟨DilOK.start l of i, by
              rw [hW5]
              refine ⟨(jx.alloc _).alloc _, (jy.alloc _).alloc _, by simp, by simp, by simp, by simp; omega, Box2.new1 _ _ _ _ _, (jb.out.alloc jb.out.size _).alloc (by simp; have := jb.out.size; omega) _⟩⟩)
            have hzw := jb.out.size
            clear hW5 hck hgl hin e1 e2 e3 e4 e5 e6 x0 x1 x2 x3 x4 y0 y1 y2 y3 y4 jx jy h0 d1 d2 d3
            go_wp2
            go_loopw [9] (fun t wr => ∃ (k : Nat) (a b : Int), t = .int .i64 k ∧ k ≤ ps.length ∧ Hid (DilOK l of i k a b ∧ DW w wr w.heap.size w1.heap.size W2.heap.size (W2.heap.size + 1) of i p q kd ms B' ps.length c' a b)) (fun t _ => ps.length - (intOf t).toNat)
            case atStart => exact ⟨0, 0, 1, rfl, by omega, D0⟩
            case round =>
              clear D0
              obtain ⟨k, a, b1, rfl, hk, hr⟩ := hrel
              by_cases hlt : k < ps.length
              · obtain ⟨b', o', rfl, hb', hcc⟩ := (HP.out.below hr.out.2.b).2 (by omega)
                obtain ⟨q0, q1⟩ := hcc k hlt
                have hgd : GoodLot l i ⟨kd, ms, ps⟩ := by have := HG.out i hil; rw [← getD_at' hil, HY.out] at this; exact this
                have hsmall := hgd.small
                have hsum := hgd.sum
                have hpg := hgd.part _ (List.getElem_mem hlt)
                simp only at hsmall hsum hpg
                have hstep := fun s1 s2 k1 k2 t1 t2 u1 u2 => dilOK_step (u1 := u1) (u2 := u2) (s1 := s1) (s2 := s2) (k1 := k1) (k2 := k2) (t1 := t1) (t2 := t2) HG.out hr.out.1 (by rw [HY.out]; exact hlt)
                simp only [HY.out] at hstep
                obtain ⟨P, hP⟩ : ∃ P, P = ps[k] := ⟨_, rfl⟩
                rw [← hP] at q0 q1 hpg
                simp only [← hP] at hstep
                obtain ⟨p1, p2⟩ := P
                simp only at q0 q1 hpg hstep
                obtain ⟨T, hT⟩ : ∃ T, T = sumP ps := ⟨_, rfl⟩
                rw [← hT] at hsum
                simp only [← hT] at hstep
                obtain ⟨s1, s2, f, hs⟩ : ∃ p q z, shE l of p1 = (p, q, z) := ⟨_, _, _, rfl⟩
                obtain ⟨k1, k2, g, hkk⟩ : ∃ p q z, mk p2 T = (p, q, z) := ⟨_, _, _, rfl⟩
                obtain ⟨t1, t2, h, ht⟩ : ∃ p q z, mulM s1 s2 k1 k2 = (p, q, z) := ⟨_, _, _, rfl⟩
                obtain ⟨u1, u2, j, hu⟩ : ∃ p q z, addM a b1 t1 t2 = (p, q, z) := ⟨_, _, _, rfl⟩
                have bs := sh_bd hs
                have bk := mk_bd hkk
                have bt := mulM_bd ht
                have bu := addM_bd hu
                have ba := vld_bd hr.out.1.v
                have HST := Lib.hid (show f = 0 → g = 0 → h = 0 → j = 0 → DilOK l of i (k + 1) u1 u2 from fun a1 a2 a3 a4 => by
                  subst a1; subst a2; subst a3; subst a4
                  exact hstep s1 s2 k1 k2 t1 t2 u1 u2 hs hkk ht hu)
                have HSH := Lib.hid hs
                have HKK := Lib.hid hkk
                have HTT := Lib.hid ht
                have HUU := Lib.hid hu
                have HTE := Lib.hid hT
                have HSM := Lib.hid hsmall
                have DR := Lib.hid hr.out.2
                clear hcc hgd hsmall hstep hP hs hkk ht hu hT hr
                obtain ⟨x0, x1, x2, x3, x4⟩ := DR.out.px
                have l2 := DR.out.l2
                have lz := DR.out.lz
                -- STUB
                go_upto_region 13 with fail
                go_cut [10, 11] (fun v10 v11 wx => ∃ nb : Nat, v10 = .pointer (some ⟨nb, 0, none⟩) ∧ v11 = .int .i64 f ∧ Hid (Below wr.heap.size wr wx ∧ RatB wx nb s1 s2))
                case first =>
                  -- STUB
                  have hck := fun w (hw : Below wr.heap.size wr w) => share_any l (by omega) HPS.out of p1 s1 s2 f HSH.out (by omega) (by omega) (by omega) (by omega) (some ⟨b, o, none⟩) c w ((HL.out.below DR.out.b).below hw)
                  refine region_float (C := fun w' => ∃ x, w' = grow wr x) (Fresh wr.heap.size 28 (ratC 0 0)) [0, 1, 2, 3, 4, 5, 6, 7, 8] [(false, 9), (true, 10), (true, 11), (true, 12)] 13 [14, 15] (by kernel_rfl) (by kernel_rfl) (by kernel_rfl) grow_trans Fresh.grow (grow_start wr) (by simp only [atOp, List.getElem?_cons_zero, List.getElem?_cons_succ]; exact fresh_alloc 28 (ratC 0 0) rfl ratZero) ?_
                  simp only [pickL, List.getElem?_cons_zero, List.getElem?_cons_succ]
                  repeat (go_big_quiet_step (fail))
                  refine wpQuiet_nil ?_
                  rintro - -
                  simp only [floS, tailS, atOp, List.getElem?_cons_zero, List.getElem?_cons_succ]
                  refine ⟨.tuple #[.agg #[.int .i64 s1, .int .i64 s2], .int .i64 f], flo_call 17 #[.slice (some ⟨b, o, none⟩) l.length c, .int .i64 of, .int .i64 p1] (fun _ => by go_simp) (fun w hw => by obtain ⟨x, rfl⟩ := hw; exact hck _ (below_grow wr x)) ?_⟩
                  refine ⟨.tuple #[.agg #[.int .i64 s1, .int .i64 s2], .int .i64 f], fun _ => (by go_simp), ?_⟩
                  refine ⟨.agg #[.int .i64 s1, .int .i64 s2], fun _ => (by go_simp), ?_⟩
                  refine ⟨.int .i64 f, fun _ => (by go_simp), ?_⟩
                  intro u w3 hw3 hg3
                  refine ⟨hw3, ?_⟩
                  refine tail_store 28 _ _ rfl (ratC 0 0) (ratC s1 s2) u (by go_simp) hg3 (by go_simp; rfl) hw3 (ratInfo s1 s2) rfl (by simp [ratC, Value.oneCell']) ?_
                  clear hw3 hg3
                  intro w4 hw4 hg4
                  obtain ⟨nb, rfl, hnb, hn⟩ := hg4.rat
                  clear hg4
                  refine ⟨hw4, ?_⟩
                  refine g_assign _ rfl ?_
                  refine ⟨hw4, ?_⟩
                  obtain ⟨xg, rfl⟩ := hw4
                  have hb4 := below_grow wr xg
                  go_wp2_with fail
                  go_meet
                  exact ⟨nb, rfl, rfl, Lib.hid ⟨hb4, hn⟩⟩
                  -- END
                case rest =>
                  obtain ⟨nb, rfl, rfl, hc1⟩ := hcut
                  have D1 := Lib.hid (DR.out.keep hc1.out.1)
                  have N1 := Lib.hid hc1.out.2
                  have r0 := (hc1.out.1.cell (p := ⟨b', o' + k * 2 + 1, none⟩) hb').trans q1
                  have hb2 := Nat.lt_of_lt_of_le hb' hc1.out.1.size
                  have hpp := Lib.hid (HP.out.below D1.out.b)
                  have l0 := D1.out.l0
                  have l1 := D1.out.l1
                  have m2 := D1.out.l2
                  have mz := D1.out.lz
                  clear x0 x1 x2 x3 x4 l2 lz q0 q1 hc1 DR hb'
                  go_upto_region 14 with fail
                  go_cut [12, 13] (fun v12 v13 wy => ∃ mb : Nat, v12 = .pointer (some ⟨mb, 0, none⟩) ∧ v13 = .int .i64 g ∧ Hid (Below wc.heap.size wc wy ∧ RatB wy mb k1 k2))
                  case first =>
                    -- STUB
                    have hck := fun w (hw : Below wc.heap.size wc w) => rtakes_any ⟨kd, ms, ps⟩ (some ⟨b', o', none⟩) c' w (hpp.out.below hw) HSM.out
                    have hmk := fun w => make_any p2 (sumP ps) k1 k2 g (HTE.out ▸ HKK.out) (by omega) (by omega) (by rw [← HTE.out]; omega) (by rw [← HTE.out]; omega) w
                    simp only [← HTE.out] at hck hmk
                    refine region_float (C := fun w' => ∃ x, w' = grow wc x) (Fresh wc.heap.size 28 (ratC 0 0)) [0, 1, 2, 3, 4, 5, 6] [(false, 7), (false, 8), (true, 9), (true, 10), (true, 11)] 12 [13, 14] (by kernel_rfl) (by kernel_rfl) (by kernel_rfl) grow_trans Fresh.grow (grow_start wc) (by simp only [atOp, List.getElem?_cons_zero, List.getElem?_cons_succ]; exact fresh_alloc 28 (ratC 0 0) rfl ratZero) ?_
                    simp only [pickL, List.getElem?_cons_zero, List.getElem?_cons_succ]
                    repeat (go_big_quiet_step (fail))
                    refine wpQuiet_nil ?_
                    rintro - -
                    simp only [floS, tailS, atOp, List.getElem?_cons_zero, List.getElem?_cons_succ]
                    refine ⟨.int .i64 T, flo_call 22 #[.agg #[.int .i64 kd, .int .i64 ms, .slice (some ⟨b', o', none⟩) ps.length c']] (fun _ => by go_simp) (fun w hw => by obtain ⟨x, rfl⟩ := hw; exact hck _ (below_grow wc x)) ?_⟩
                    refine ⟨.tuple #[.agg #[.int .i64 k1, .int .i64 k2], .int .i64 g], flo_call 21 #[.int .i64 p2, .int .i64 T] (fun _ => by go_simp) (fun w _ => hmk w) ?_⟩
                    refine ⟨.tuple #[.agg #[.int .i64 k1, .int .i64 k2], .int .i64 g], fun _ => (by go_simp), ?_⟩
                    refine ⟨.agg #[.int .i64 k1, .int .i64 k2], fun _ => (by go_simp), ?_⟩
                    refine ⟨.int .i64 g, fun _ => (by go_simp), ?_⟩
                    intro u w3 hw3 hg3
                    refine ⟨hw3, ?_⟩
                    refine tail_store 28 _ _ rfl (ratC 0 0) (ratC k1 k2) u (by go_simp) hg3 (by go_simp; rfl) hw3 (ratInfo k1 k2) rfl (by simp [ratC, Value.oneCell']) ?_
                    clear hw3 hg3
                    intro w4 hw4 hg4
                    obtain ⟨mb, rfl, hnb, hn⟩ := hg4.rat
                    clear hg4
                    refine ⟨hw4, ?_⟩
                    refine g_assign _ rfl ?_
                    refine ⟨hw4, ?_⟩
                    obtain ⟨xg, rfl⟩ := hw4
                    have hb4 := below_grow wc xg
                    go_wp2_with fail
                    go_meet
                    exact ⟨mb, rfl, rfl, Lib.hid ⟨hb4, hn⟩⟩
                    -- END
                  case rest =>
                    obtain ⟨mb, rfl, rfl, hc1⟩ := hcut
                    have D2 := Lib.hid (D1.out.keep hc1.out.1)
                    have N2 := Lib.hid (N1.out.keep hc1.out.1)
                    have M2 := Lib.hid hc1.out.2
                    clear l0 l1 m2 mz r0 hb2 hpp D1 N1 hc1
                    obtain ⟨x0, x1, x2, x3, x4⟩ := N2.out.box
                    obtain ⟨y0, y1, y2, y3, y4⟩ := M2.out.box
                    go_wp2_with fail
                    refine (mul_any s1 s2 k1 k2 t1 t2 h HTT.out (by omega) (by omega) (by omega) (by omega) (by omega) (by omega) (by omega) (by omega) _).mono ?_
                    rintro e w5 ⟨rfl, hb5⟩
                    have D3 := Lib.hid (D2.out.keep hb5)
                    clear x0 x1 x2 x3 x4 y0 y1 y2 y3 y4 N2 M2 D2 hb5
                    go_upto_region 16 with fail
                    obtain ⟨W6, hW6⟩ : ∃ W6, W6 = w5.alloc (.cells #[.int .i64 t1, .int .i64 t2] 28) := ⟨_, rfl⟩
                    rw [← hW6]
                    have hb6 : Below w5.heap.size w5 W6 := by rw [hW6]; exact (Below.refl _ _).alloc (Nat.le_refl _) _
                    have D4 := Lib.hid (D3.out.keep hb6)
                    have ty : Box2 W6 w5.heap.size (.int .i64 t1) (.int .i64 t2) := by rw [hW6]; exact Box2.new _ _ _ _
                    clear hW6 hb6 D3
                    obtain ⟨x0, x1, x2, x3, x4⟩ := D4.out.sx
                    obtain ⟨y0, y1, y2, y3, y4⟩ := id ty
                    go_wp2_with fail
                    refine (add_any a b1 t1 t2 u1 u2 j HUU.out (by omega) (by omega) (by omega) (by omega) (by omega) (by omega) (by omega) (by omega) _).mono ?_
                    rintro e w7 ⟨rfl, hb7⟩
                    have D5 := Lib.hid (D4.out.keep hb7)
                    clear x0 x1 x2 x3 x4 y0 y1 y2 y3 y4 D4 hb7 ty
                    go_upto_region 17 with fail
                    obtain ⟨W8, hW8⟩ : ∃ W8, W8 = w7.alloc (.cells #[.int .i64 u1, .int .i64 u2] 28) := ⟨_, rfl⟩
                    rw [← hW8]
                    have hb8 : Below w7.heap.size w7 W8 := by rw [hW8]; exact (Below.refl _ _).alloc (Nat.le_refl _) _
                    have D6 := Lib.hid (D5.out.keep hb8)
                    have uy : Box2 W8 w7.heap.size (.int .i64 u1) (.int .i64 u2) := by rw [hW8]; exact Box2.new _ _ _ _
                    clear hW8 hb8 D5
                    obtain ⟨y0, y1, y2, y3, y4⟩ := id uy
                    by_cases hf : f = 0 ∧ g = 0 ∧ h = 0 ∧ j = 0
                    · obtain ⟨rfl, rfl, rfl, rfl⟩ := hf
                      obtain ⟨x0, x1, x2, x3, x4⟩ := D6.out.sx
                      have hst := Lib.hid (HST.out rfl rfl rfl rfl)
                      go_wp2_with fail
                      exact ⟨⟨k + 1, by omega, by omega, u1, u2, Lib.hid ⟨hst.out, D6.out.set (by omega) (by omega) (by omega) (by omega)⟩⟩, by simp [intOf]; omega⟩
                    · have hany : (f != 0) = true ∨ (f != 0) = false ∧ ((g != 0) = true ∨ (g != 0) = false ∧ ((h != 0) = true ∨ (h != 0) = false ∧ (j != 0) = true)) := by
                        simp only [bne_iff_ne, bne_eq_false_iff_eq]
                        by_cases f = 0 <;> by_cases g = 0 <;> by_cases h = 0 <;> by_cases j = 0 <;> simp_all
                      clear hf
                      rcases hany with d1 | ⟨d1, d2 | ⟨d2, d3 | ⟨d3, d4⟩⟩⟩
                      all_goals
                        go_wp2_with (go_at_call 16; refine (known_any _).mono ?_; rintro e w9 ⟨rfl, hb9⟩)
                        go_ret
                        exact ⟨rfl, D6.out.b.trans (hb9.mono D6.out.b.size)⟩
                -- END
              · obtain rfl : k = ps.length := by omega
                obtain ⟨hd, hD⟩ := hr.out
                have hdd : a = p ∧ b1 = q := DilOK.done HM.out HOI.out (by simp only [Int.toNat_natCast]; rw [HY.out]; exact hd)
                obtain ⟨rfl, rfl⟩ := hdd
                have D6 := Lib.hid hD
                obtain ⟨x0, x1, x2, x3, x4⟩ := D6.out.sx
                obtain ⟨y0, y1, y2, y3, y4⟩ := D6.out.rx
                have l2 := D6.out.l2
                have lz := D6.out.lz
                clear hr hd hD
                go_wp2_with (go_at_call 16; refine (known_any _).mono ?_; rintro e w9 ⟨rfl, hb9⟩)
                go_ret
                exact ⟨rfl, D6.out.b.trans (hb9.mono D6.out.b.size)⟩
      · have d1 : (z != 0) = true := by rw [bne_iff_ne]; exact hz
        -- STUB
        have d2 : (z == 0) = false := by rw [beq_eq_false_iff_ne]; exact hz
        clear hz hsm
        go_wp2_with (go_at_call 16; refine (known_any _).mono ?_; rintro e w7 ⟨rfl, hb6⟩)
        go_ret
        exact ⟨rfl, jb.out.trans (hb6.mono jb.out.size)⟩
        -- END
    · have hz := sh_out HM.out (by omega)
      -- STUB
      have d1 : (z != 0) = true := by rw [bne_iff_ne]; exact hz
      have d2 : (z == 0) = false := by rw [beq_eq_false_iff_ne]; exact hz
      clear hz
      by_cases h0 : i < 0
      · go_wp2_with (go_at_call 16; refine (known_any _).mono ?_; rintro e w7 ⟨rfl, hb6⟩)
        go_ret
        exact ⟨rfl, jb.out.trans (hb6.mono jb.out.size)⟩
      · have d3 : decide ((l.length : Int) ≤ i) = true := decide_eq_true (by omega)
        go_wp2_with (go_at_call 16; refine (known_any _).mono ?_; rintro e w7 ⟨rfl, hb6⟩)
        go_ret
        exact ⟨rfl, jb.out.trans (hb6.mono jb.out.size)⟩
      -- END
end Go.Proofs.Ytdgmpaijpjkeoaa
