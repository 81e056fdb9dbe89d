/-
  THE REFERENCE: compare, CompareShare.
-/
import Derived.Test.YtdgmpaijpjkeoaaRefC
import Derived.Test.YtdgmpaijpjkeoaaCmpA
namespace Go.Proofs.Ytdgmpaijpjkeoaa
open Go.RowKit
attribute [local go_sem] grow_cell grow_frozen
theorem cmp_top {a b : Nat} (ha : a ≤ 600000 ^ 24) (hb : b ≤ 1048576) : a * b < topW :=
  Nat.lt_of_le_of_lt (Nat.mul_le_mul ha hb) (by decide +kernel)
theorem cmp_high {N D r d : Nat} (h : N ≤ D) (hD : 0 < D) (hr : d < r) : cmpN (N * d) (D * r) = -1 := by
  have h1 : N * d ≤ D * d := Nat.mul_le_mul_right _ h
  have h2 : D * d < D * r := Nat.mul_lt_mul_of_pos_left hr hD
  rw [cmpN, if_pos (by omega)]
set_option maxRecDepth 100000 in
set_option maxHeartbeats 1000000 in
theorem rcompare_any (A : Option Addr) (n c N : Nat) (B : Option Addr) (n' c' D : Nat) (rn rd v : Int) (hm : (if rn < 0 then 1 else cmpN (N * rd.toNat) (D * rn.toNat)) = v) (hv : vld rn rd = true) (hND : N ≤ D) (hD : 0 < D) (hDb : D ≤ 600000 ^ 24) (w : World) (hW : IsW w A n N) (hX : IsW w B n' D) :
    Calls Try.prog 81 #[.slice A n c, .slice B n' c', .agg #[.int .i64 rn, .int .i64 rd]] w fun e w' => e = .returned (.int .i64 v) ∧ Below w.heap.size w w' := by
  obtain ⟨v1, v2, v3, v4, -⟩ := vld_iff.1 hv
  have HW := Lib.hid hW
  have HX := Lib.hid hX
  have HDB := Lib.hid hDb
  have HM := Lib.hid hm
  clear hv hW hX hDb hm
  go_enter Try.func81, Try.ntmps81
  go_upto_region 1 with fail
  obtain ⟨W, hWW⟩ : ∃ W, W = w.alloc (.cells #[.int .i64 rn, .int .i64 rd] 28) := ⟨_, rfl⟩
  rw [← hWW]
  have hb := Lib.hid (show Below w.heap.size w W by rw [hWW]; exact (by repeat' (first | (with_reducible exact Below.refl _ _) | (with_reducible assumption) | (with_reducible refine below_drewN ?_ _) | (with_reducible refine below_step (by assumption) ?_ ?_) | (with_reducible refine Below.alloc ?_ ?_ _) | (with_reducible refine Below.setCell ?_ ?_ _) | (with_reducible refine Below.drew ?_) | go_size | (exact Below.size (by assumption)) | (refine Nat.le_trans (Below.size (by assumption)) ?_))))
  have hx : Box2 W w.heap.size (.int .i64 rn) (.int .i64 rd) := by rw [hWW]; exact Box2.new _ _ _ _
  clear hWW
  obtain ⟨x0, x1, x2, x3, x4⟩ := id hx
  by_cases hneg : rn < 0
  · have HM2 := Lib.hid (HM.out.symm.trans (if_pos hneg))
    go_wp2
    go_ret
    exact ⟨by rw [HM2.out]; rfl, hb.out⟩
  · have hm2 := HM.out.symm.trans (if_neg hneg)
    obtain ⟨r, rfl⟩ : ∃ n : Nat, rn = n := ⟨rn.toNat, by omega⟩
    obtain ⟨d, rfl⟩ : ∃ n : Nat, rd = n := ⟨rd.toNat, by omega⟩
    rw [Int.toNat_natCast, Int.toNat_natCast] at hm2
    by_cases hlt : d < r
    · rw [cmp_high hND hD hlt] at hm2
      have HM2 := Lib.hid hm2
      clear hm2
      have d1 : decide ((d : Int) < (r : Int)) = true := decide_eq_true (by omega)
      go_wp2
      go_ret
      exact ⟨by rw [HM2.out]; rfl, hb.out⟩
    · have d1 : decide ((d : Int) < (r : Int)) = false := decide_eq_false (by omega)
      have HG := Lib.hid hm2
      have t0 : N * 1 < topW := cmp_top (Nat.le_trans hND HDB.out) (by omega)
      have t1 : D * 1 < topW := cmp_top HDB.out (by omega)
      rw [Nat.mul_one] at t0 t1
      have t2 : N * d < topW := cmp_top (Nat.le_trans hND HDB.out) (by omega)
      have t3 : D * r < topW := cmp_top HDB.out (by omega)
      have H0 := Lib.hid t0
      have H1 := Lib.hid t1
      have H2 := Lib.hid t2
      have H3 := Lib.hid t3
      clear hm2 t0 t1 t2 t3
      go_upto_region 5 with fail
      refine region_pick (C := fun w' => ∃ x, w' = grow W x) [0, 1, 2, 4, 5, 6] [3, 7, 8, 9] (by kernel_rfl) (by kernel_rfl) (grow_start W) ?_
      simp only [pickL, List.getElem?_cons_zero, List.getElem?_cons_succ]
      repeat (go_big_quiet_step (fail))
      refine wpQuiet_nil ?_
      rintro w3 ⟨xg, hxg⟩
      have hb3 := below_grow W xg
      rw [← hxg] at hb3
      refine plain_call 91 #[.slice A n c, .int .i64 d] rfl (by go_simp) ⟨xg, hxg⟩ ?_
      refine (wtimes_any A n c N d (by omega) H0.out w3 ((HW.out.below hb.out).below hb3)).mono ?_
      rintro e w4 ⟨A4, n4, c4, rfl, hw4, hb4, -⟩
      refine ⟨_, rfl, ?_⟩
      have hb4' := hb3.trans (hb4.mono hb3.size)
      refine plain_call 91 #[.slice B n' c', .int .i64 r] rfl (by go_simp) (grow_of_below hb4') ?_
      refine (wtimes_any B n' c' D r (by omega) H1.out w4 ((HX.out.below hb.out).below hb4')).mono ?_
      rintro e w5 ⟨A5, n5, c5, rfl, hw5, hb5, -⟩
      refine ⟨_, rfl, ?_⟩
      have hb5' := hb4'.trans (hb5.mono hb4'.size)
      have hw4' := hw4.below hb5
      refine plain_call 107 #[.slice A4 n4 c4, .slice A5 n5 c5] rfl (by go_simp) (grow_of_below hb5') ?_
      refine (wcompare_any A4 n4 c4 _ A5 n5 c5 _ (by have := hw4'.len H2.out; omega) (by have := hw5.len H3.out; omega) w5 hw4' hw5).mono ?_
      rintro e w6 ⟨rfl, hb6⟩
      rw [← HG.out]
      refine ⟨_, rfl, ?_⟩
      have hb6' := hb5'.trans (hb6.mono hb5'.size)
      refine plain_assign _ rfl rfl (grow_of_below hb6') ?_
      refine ⟨grow_of_below hb6', ?_⟩
      have lb := Lib.hid (hb.out.trans (hb6'.mono hb.out.size))
      clear hxg hb3 hw4 hb4 hb4' hw5 hb5 hb5' hw4' hb6 hb6' x0 x1 x2 x3 x4 hx hb
      go_simp
      go_wp2
      go_ret
      exact ⟨rfl, lb.out⟩
/-- The mixture of one lot's marks. -/
theorem one_mix (l : List LotD) (hl24 : l.length ≤ 24) (hg : GoodAll l) (A : Option Addr) (c : Nat) (M : Option Addr) (of : Nat) (hof : of < l.length) (i : Nat) (hi : i < l.length) (hl : l.length ≤ 1000) (w : World) (hL : LotsIn w A l) (hB : IsB w M l.length (oneB l.length of)) :
    Calls Try.prog 62 #[.slice A l.length c, .slice M l.length l.length, .int .i64 i] w (RetM w (fN l of i) (Pr (tN l) 0 (i + 1))) := by
  have hf : ∀ j, j ≤ i → fN l of j * Pr (tN l) (j + 1) (i + 1) = stepR (t := tN l) (ps := psN l) (fun j => (oneB l.length of).getD j false) (Pr (tN l) 0 (i + 1)) j (fun j => fN l of j * Pr (tN l) (j + 1) (i + 1)) := fun j hj => by
    rw [show (fun j => (oneB l.length of).getD j false) = (fun j => decide (j = of)) from funext (oneB_at hof)]
    exact (stepR_one (psN_lt hg) (tN_pos hg) hj).symm
  have hfb : ∀ j, j ≤ i → fN l of j * Pr (tN l) (j + 1) (i + 1) ≤ Pr (tN l) 0 (i + 1) := fun j hj => by
    rw [← Pr_mul (t := tN l) (a := 0) (b := j + 1) (c := i + 1) (by omega) (by omega)]
    exact Nat.mul_le_mul_right _ (fN_le hg of j)
  have hmix := mixture_any l hl24 hg A c M l.length l.length (oneB l.length of) i hi hi hl (fun j => fN l of j * Pr (tN l) (j + 1) (i + 1)) hf hfb w hL hB
  simp only [Pr_self, Nat.mul_one] at hmix
  exact hmix
set_option maxRecDepth 100000 in
set_option maxHeartbeats 1000000 in
theorem rcompareShare_any (l : List LotD) (hl : l.length ≤ 1000) (hps : ∀ x ∈ l, x.parts.length ≤ 1000) (of i rn rd v z : Int) (hm : csE l of i rn rd = (v, z)) (hof : -9223372036854775808 ≤ of) (kof : of ≤ 9223372036854775807) (hi : -9223372036854775808 ≤ i) (ki : i ≤ 9223372036854775807) (hrn : -9223372036854775808 ≤ rn) (krn : rn ≤ 9223372036854775807) (hrd : -9223372036854775808 ≤ rd) (krd : rd ≤ 9223372036854775807) (A : Option Addr) (c : Nat) (w : World) (hL : LotsIn w A l) :
    Calls Try.prog 48 #[.slice A l.length c, .int .i64 of, .int .i64 i, .agg #[.int .i64 rn, .int .i64 rd]] w fun e w' => e = .returned (.tuple #[.int .i64 v, .int .i64 z]) ∧ Below w.heap.size w w' := by
  have HM := Lib.hid hm
  have HL := Lib.hid hL
  have HPS := Lib.hid hps
  clear hm hL hps
  go_enter Try.func48, Try.ntmps48
  go_wp2_with fail
  obtain ⟨W, hW⟩ : ∃ W, W = w.alloc (.cells #[.int .i64 rn, .int .i64 rd] 28) := ⟨_, rfl⟩
  rw [← hW]
  have hb := Lib.hid (show Below w.heap.size w W by rw [hW]; exact (by repeat' (first | (with_reducible exact Below.refl _ _) | (with_reducible assumption) | (with_reducible refine below_drewN ?_ _) | (with_reducible refine below_step (by assumption) ?_ ?_) | (with_reducible refine Below.alloc ?_ ?_ _) | (with_reducible refine Below.setCell ?_ ?_ _) | (with_reducible refine Below.drew ?_) | go_size | (exact Below.size (by assumption)) | (refine Nat.le_trans (Below.size (by assumption)) ?_))))
  have hx : Box2 W w.heap.size (.int .i64 rn) (.int .i64 rd) := by rw [hW]; exact Box2.new _ _ _ _
  clear hW
  obtain ⟨E, hE⟩ : ∃ E, E = chkE l [of, i] := ⟨_, rfl⟩
  have HE := Lib.hid hE
  clear hE
  refine (named_any l hl HPS.out of i A c W (HL.out.below hb.out)).mono ?_
  rw [← HE.out]
  rintro e w1 ⟨rfl, hb1⟩
  have ib := Lib.hid (hb.out.trans (hb1.mono hb.out.size))
  have ix := hx.keep hb1
  clear hb1 hx hb
  by_cases hz : E = 0
  · subst hz
    have hm2 := HM.out
    unfold csE at hm2
    rw [if_neg (by rw [← HE.out]; decide)] at hm2
    obtain ⟨hgl, hin⟩ := chk_zero HE.out.symm
    have h1 := hin of (by simp)
    have h2 := hin i (by simp)
    obtain ⟨of, rfl⟩ : ∃ n : Nat, of = n := ⟨of.toNat, by omega⟩
    obtain ⟨i, rfl⟩ : ∃ n : Nat, i = n := ⟨i.toNat, by omega⟩
    rw [Int.toNat_natCast, Int.toNat_natCast] at hm2
    have HM1 := Lib.hid hm2
    have HG := Lib.hid hgl.lot
    have hl24 := hgl.len
    have hi : i < l.length := by omega
    have hof : of < l.length := by omega
    obtain ⟨V, hV⟩ : ∃ V, V = vld rn rd := ⟨_, rfl⟩
    have HV := Lib.hid hV
    clear hm2 hgl hin h1 h2 hV
    obtain ⟨x0, x1, x2, x3, x4⟩ := id ix
    go_wp2_with fail
    refine (rvalid_any rn rd (by omega) (by omega) (by omega) (by omega) w1).mono ?_
    rw [← HV.out]
    rintro e w2 ⟨rfl, hb2⟩
    have jb := Lib.hid (ib.out.trans (hb2.mono ib.out.size))
    have jx := ix.keep hb2
    clear hb2 ix ib x0 x1 x2 x3 x4
    cases V with
    | false =>
      have HM2 := Lib.hid (show ((0 : Int), (1 : Int)) = (v, z) by have := HM1.out; rwa [if_neg (by rw [← HV.out]; decide)] at this)
      go_wp2
      refine bodyPost_ret (v := .tuple #[.int .i64 (v), .int .i64 (z)]) (by simp only [results, Try.results48]; go_simp; exact Prod.mk.inj HM2.out) rfl ⟨rfl, ?_⟩
      exact jb.out
    | true =>
      have HM2 := Lib.hid (show (agE l of i rn rd, (0 : Int)) = (v, z) by have := HM1.out; rwa [if_pos HV.out.symm] at this)
      obtain ⟨G, hG⟩ : ∃ G, G = agE l of i rn rd := ⟨_, rfl⟩
      rw [← hG] at HM2
      have HGG := Lib.hid hG
      clear hG
      go_wp2_with fail
      refine (one_any l hl of hof A c w2).mono ?_
      rintro e w3 ⟨rfl, hrow, hb3⟩
      have hisb := hrow.isB
      rw [oneB_length] at hisb
      have HB := Lib.hid hisb
      have kb := Lib.hid (jb.out.trans (hb3.mono jb.out.size))
      have kx := jx.keep hb3
      clear hrow hb3 jx jb hisb
      have hmix := one_mix l hl24 HG.out A c (some ⟨w2.heap.size, 0, none⟩) of hof i hi hl w3 (HL.out.below kb.out) HB.out
      have HMX := Lib.hid hmix
      clear hmix
      go_wp2_with fail
      refine HMX.out.mono ?_
      rintro e w4 ⟨A3, n3, c3, B3, n4, c4, rfl, hw1, hw2, hb4⟩
      have H3 := Lib.hid (show IsW w4 A3 n3 (fN l of i) ∧ IsW w4 B3 n4 (Pr (tN l) 0 (i + 1)) ∧ Below w.heap.size w w4 from ⟨hw1, hw2, kb.out.trans (hb4.mono kb.out.size)⟩)
      have lx := kx.keep hb4
      clear hw1 hw2 hb4 kx kb HMX HB
      obtain ⟨x0, x1, x2, x3, x4⟩ := id lx
      go_wp2_with fail
      refine (rcompare_any A3 n3 c3 _ B3 n4 c4 _ rn rd G HGG.out.symm HV.out.symm (fN_le HG.out of i) (Pr_pos (tN_pos HG.out) _ _) (pr_big HG.out hl24 (show i + 1 ≤ l.length by omega)) w4 H3.out.1 H3.out.2.1).mono ?_
      rintro e w5 ⟨rfl, hb5⟩
      have mb := Lib.hid (H3.out.2.2.trans (hb5.mono H3.out.2.2.size))
      clear hb5 lx H3 x0 x1 x2 x3 x4
      go_wp2
      refine bodyPost_ret (v := .tuple #[.int .i64 (v), .int .i64 (z)]) (by simp only [results, Try.results48]; go_simp; exact Prod.mk.inj HM2.out) rfl ⟨rfl, ?_⟩
      exact mb.out
  · have hm2 := HM.out
    unfold csE at hm2
    rw [if_pos (by rw [← HE.out]; exact hz), ← HE.out] at hm2
    have HM2 := Lib.hid hm2
    have d1 : (E == 0) = false := by rw [beq_eq_false_iff_ne]; exact hz
    have d2 : (E != 0) = true := by rw [bne_iff_ne]; exact hz
    clear hm2 hz
    go_wp2
    refine bodyPost_ret (v := .tuple #[.int .i64 (v), .int .i64 (z)]) (by simp only [results, Try.results48]; go_simp; exact Prod.mk.inj HM2.out) rfl ⟨rfl, ?_⟩
    exact ib.out
end Go.Proofs.Ytdgmpaijpjkeoaa
