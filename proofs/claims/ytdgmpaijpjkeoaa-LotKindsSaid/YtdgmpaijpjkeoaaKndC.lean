/-
  THE REFERENCE: Kinds.
-/
import Derived.Test.YtdgmpaijpjkeoaaKndB
import Derived.Test.YtdgmpaijpjkeoaaBools
import Derived.Deep.DeepCutAuto
namespace Go.Proofs.Ytdgmpaijpjkeoaa
open Go.RowKit
def mkL (l : List LotD) (kd k : Nat) : List Bool := (List.range k).map (isK l kd)
theorem mkL_length (l : List LotD) (kd k : Nat) : (mkL l kd k).length = k := by simp [mkL]
theorem mkL_succ (l : List LotD) (kd k : Nat) : mkL l kd (k + 1) = mkL l kd k ++ [isK l kd k] := by simp [mkL, List.range_succ]
theorem mkL_at {l : List LotD} {kd k j : Nat} (h : j < k) : (mkL l kd k).getD j false = isK l kd j := by simp [mkL, h]
theorem kind_mix (l : List LotD) (hl24 : l.length ≤ 24) (hg : GoodAll l) (A : Option Addr) (c : Nat) (M : Option Addr) (c' kd i : Nat) (hi : i < l.length) (w : World) (hL : LotsIn w A l) (hB : IsB w M l.length (mkL l kd l.length)) :
    Calls Try.prog 62 #[.slice A l.length c, .slice M l.length c', .int .i64 i] w (RetM w (kN l kd i) (Pr (tN l) 0 (i + 1))) := by
  have hf : ∀ j, j ≤ i → kN l kd j * Pr (tN l) (j + 1) (i + 1) = stepR (t := tN l) (ps := psN l) (fun j => (mkL l kd l.length).getD j false) (Pr (tN l) 0 (i + 1)) j (fun j => kN l kd j * Pr (tN l) (j + 1) (i + 1)) := fun j hj => by
    have := KN_stepR (psN_lt hg) (tN_pos hg) (B := isK l kd) (fun _ h => isK_nil h) hj
    unfold stepR at this ⊢
    simp only [mkL_at (show j < l.length by omega)]
    exact this
  have hfb : ∀ j, j ≤ i → kN l kd j * Pr (tN l) (j + 1) (i + 1) ≤ Pr (tN l) 0 (i + 1) := fun j hj => by
    rw [← Pr_mul (t := tN l) (a := 0) (b := j + 1) (c := i + 1) (by omega) (by omega)]
    exact Nat.mul_le_mul_right _ (kN_le hg kd j)
  have hmix := mixture_any l hl24 hg A c M l.length c' (mkL l kd l.length) i hi hi (by omega) (fun j => kN l kd j * Pr (tN l) (j + 1) (i + 1)) hf hfb w hL hB
  simp only [Pr_self, Nat.mul_one] at hmix
  exact hmix
set_option maxRecDepth 100000 in
set_option maxHeartbeats 4000000 in
theorem rkinds_any (l : List LotD) (hl : l.length ≤ 1000) (hps : ∀ x ∈ l, x.parts.length ≤ 1000) (i : Int) (a : List (Int × Int)) (z : Int) (hm : kndE l i = (a, z)) (hi : -9223372036854775808 ≤ i) (ki : i ≤ 9223372036854775807) (A : Option Addr) (c : Nat) (w : World) (hL : LotsIn w A l) :
    Calls Try.prog 36 #[.slice A l.length c, .int .i64 i] w (OutR w a z) := by
  have HM := Lib.hid hm
  have HL := Lib.hid hL
  have HPS := Lib.hid hps
  clear hm hL hps
  go_enter Try.func36, Try.ntmps36
  go_wp2_with fail
  obtain ⟨E, hE⟩ : ∃ E, E = chkE l [i] := ⟨_, rfl⟩
  have HE := Lib.hid hE
  clear hE
  have hnm := named_any l hl HPS.out i i A c w HL.out
  rw [chk_one, ← HE.out] at hnm
  refine hnm.mono ?_
  clear hnm
  rintro e w1 ⟨rfl, hb1⟩
  have ib := Lib.hid hb1
  clear hb1
  by_cases hz : E = 0
  · subst hz
    have hm2 := HM.out
    unfold kndE at hm2
    rw [if_neg (by rw [← HE.out]; decide)] at hm2
    obtain ⟨hgl, hin⟩ := chk_zero HE.out.symm
    have h1 := hin i (by simp)
    obtain ⟨i, rfl⟩ : ∃ n : Nat, i = n := ⟨i.toNat, by omega⟩
    rw [Int.toNat_natCast] at hm2
    have HM1 := Lib.hid hm2
    have HG := Lib.hid hgl.lot
    have hl24 := hgl.len
    have hi : i < l.length := by omega
    clear hm2 hgl hin h1 HM
    have O0 := Lib.hid (show kOk l i 0 = true ∧ OwnR w1 w.heap.size (.slice none 0 0) (kL l i 0) ∧ Below w.heap.size w w1 from ⟨rfl, OwnR.nil _ _, ib.out⟩)
    clear ib
    go_wp2
    go_loopw [7, 8] (fun v t wr => ∃ k : Nat, t = .int .i64 k ∧ k ≤ 8 ∧ Hid (kOk l i k = true ∧ OwnR wr w.heap.size v (kL l i k) ∧ Below w.heap.size w wr)) (fun _ t _ => 8 - (intOf t).toNat)
    case atStart => exact ⟨0, rfl, by omega, O0⟩
    case round =>
      clear O0
      obtain ⟨k, rfl, hk, hr⟩ := hrel
      by_cases hlt : k < 8
      · obtain ⟨p, q, y, hfr⟩ : ∃ p q y, kF l i k = (p, q, y) := ⟨_, _, _, rfl⟩
        have hbd := kF_bd l i k HG.out
        have hzc := fr_zc (kN l k i) (Pr (tN l) 0 (i + 1))
        rw [show frE (kN l k i) (Pr (tN l) 0 (i + 1)) = kF l i k from rfl] at hzc
        have hLS := kL_succ l i k
        have hOS := kOk_succ l i k
        have hNO := kOk_no (l := l) (i := i) (m := k) (n := 8)
        rw [hfr] at hbd hzc hLS hOS hNO
        simp only at hbd hzc hLS hOS hNO
        have HFR := Lib.hid (show frE (kN l k i) (Pr (tN l) 0 (i + 1)) = (p, q, y) from hfr)
        have HLS := Lib.hid hLS
        have HOS := Lib.hid hOS
        have HNO := Lib.hid hNO
        have B0 := Lib.hid (show OwnB wr wr.heap.size (.slice none 0 0) (mkL l k 0) ∧ Below wr.heap.size wr wr from ⟨OwnB.nil _ _, Below.refl _ _⟩)
        clear hLS hOS hNO hfr
        obtain ⟨wo, rfl⟩ : ∃ wo : World, wo = wr := ⟨_, rfl⟩
        have d8 : decide ((k : Int) < 8) = true := decide_eq_true (by omega)
        go_wp2
        go_loopw [9, 10] (fun v t wq => ∃ m : Nat, t = .int .i64 m ∧ m ≤ l.length ∧ Hid (OwnB wq wo.heap.size v (mkL l k m) ∧ Below wo.heap.size wo wq)) (fun _ t _ => l.length - (intOf t).toNat)
        case atStart => exact ⟨0, rfl, by omega, B0⟩
        case round =>
          clear B0
          obtain ⟨m, rfl, hm, hq⟩ := hrel
          by_cases hml : m < l.length
          · obtain ⟨b, o, rfl, hc⟩ := (HL.out.below (hr.out.2.2.trans (hq.out.2.mono hr.out.2.2.size))) (by omega)
            obtain ⟨e1, e2, e3, e4, e5, A', c', e6, e8, e7⟩ := hc m hml
            have hyd : l.getD m default = l[m] := getD_at' hml
            obtain ⟨r, hr2⟩ : ∃ r, r = isK l k m := ⟨_, rfl⟩
            have hre : r = (decide (l[m].parts.length = 0) && l[m].kind == (k : Int)) := by rw [hr2, isK, hyd]
            have HSC := Lib.hid (mkL_succ l k m)
            rw [← hr2] at HSC
            obtain ⟨n, hn⟩ : ∃ n, n = l[m].parts.length := ⟨_, rfl⟩
            obtain ⟨kd, hkd⟩ : ∃ kd, kd = l[m].kind := ⟨_, rfl⟩
            rw [← hkd] at e4 hre
            rw [← hn] at e6 hre
            have hsz := hq.out.2.size
            have HLM := Lib.hid (show (mkL l k m).length ≤ 1000000 by rw [mkL_length]; omega)
            clear hc e1 e2 e5 e7 e8 hyd hr2 hn hkd
            by_cases h0 : n = 0
            · have d1 : ((n : Int) == 0) = true := by rw [beq_iff_eq]; omega
              have hre2 : (kd == (k : Int)) = r := by rw [hre, decide_eq_true h0]; rfl
              clear hre
              go_wp2_with (at_builtin; refine append_bool (.tmp 32) (.tmp 49) rfl rfl wo.heap.size _ _ r wr rfl rfl hq.out.1 rfl HLM.out hsz ?_)
              intro v' w6 ho6 hg6 hd6
              rw [← HSC.out] at ho6
              have Q2 := Lib.hid (And.intro ho6 (hq.out.2.grown hg6 hsz (fun g hg => (hq.out.1.lt g hg).1)))
              clear ho6 hg6 hd6 hq
              go_wp2
              go_roundw
              case rel => exact ⟨m + 1, by go_num, by omega, Q2⟩
              case measure => simp [intOf]; omega
            · have d1 : ((n : Int) == 0) = false := by rw [beq_eq_false_iff_ne]; omega
              have hre2 : r = false := by rw [hre, decide_eq_false h0]; rfl
              subst hre2
              clear hre
              go_wp2_with (at_builtin; refine append_bool (.tmp 32) (.tmp 49) rfl rfl wo.heap.size _ _ false wr rfl rfl hq.out.1 rfl HLM.out hsz ?_)
              intro v' w6 ho6 hg6 hd6
              rw [← HSC.out] at ho6
              have Q2 := Lib.hid (And.intro ho6 (hq.out.2.grown hg6 hsz (fun g hg => (hq.out.1.lt g hg).1)))
              clear ho6 hg6 hd6 hq
              go_wp2
              go_roundw
              case rel => exact ⟨m + 1, by go_num, by omega, Q2⟩
              case measure => simp [intOf]; omega
          · obtain rfl : m = l.length := by omega
            obtain ⟨M, cm, rfl, hB⟩ := hq.out.1.isB
            rw [mkL_length] at hB ⊢
            have HB := Lib.hid hB
            have H1 := Lib.hid (And.intro hr.out.1 (And.intro (hr.out.2.1.keep hq.out.2) (hr.out.2.2.trans (hq.out.2.mono hr.out.2.2.size))))
            have hmix := kind_mix l hl24 HG.out A c M cm k i hi wr (HL.out.below H1.out.2.2) HB.out
            have HMX := Lib.hid hmix
            clear hB hq hr hmix
            go_wp2_with fail
            refine HMX.out.mono ?_
            rintro e w4 ⟨A3, n3, c3, B3, n4, c4, rfl, hw1, hw2, hb4⟩
            have H3 := Lib.hid (And.intro hw1 hw2)
            have H2 := Lib.hid (And.intro H1.out.1 (And.intro (H1.out.2.1.keep hb4) (H1.out.2.2.trans (hb4.mono H1.out.2.2.size))))
            clear hw1 hw2 hb4 HMX HB H1
            go_wp2_with fail
            refine (rfraction_any A3 n3 c3 _ B3 n4 c4 _ p q y HFR.out (kN_le HG.out k i) (by have := pr_top HG.out hl24 (a := 0) (b := i + 1) (by omega); omega) _ H3.out.1 H3.out.2).mono ?_
            rintro e w5 ⟨rfl, hb5⟩
            have H4 := Lib.hid (And.intro H2.out.1 (And.intro (H2.out.2.1.keep hb5) (H2.out.2.2.trans (hb5.mono H2.out.2.2.size))))
            clear hb5 H2 H3
            go_upto_region 15 with fail
            obtain ⟨w6, hw6⟩ : ∃ w6, w6 = w5.alloc (.cells #[.int .i64 p, .int .i64 q] 28) := ⟨_, rfl⟩
            rw [← hw6]
            have hb6 : Below w5.heap.size w5 w6 := by rw [hw6]; exact (Below.refl _ _).alloc (Nat.le_refl _) _
            have hx6 : Box2 w6 w5.heap.size (.int .i64 p) (.int .i64 q) := by rw [hw6]; exact Box2.new _ _ _ _
            have H5 := Lib.hid (And.intro H4.out.1 (And.intro (H4.out.2.1.keep hb6) (H4.out.2.2.trans (hb6.mono H4.out.2.2.size))))
            have hsz := H5.out.2.2.size
            clear hw6 hb6 H4
            obtain ⟨x0, x1, x2, x3, x4⟩ := hx6
            by_cases hy : y = 0
            · subst hy
              have HL8 := Lib.hid (show (kL l i k).length ≤ 1000000 by rw [kL_length]; omega)
              go_wp2_with (at_builtin; refine append_rat (.tmp 66) (.tmp 68) rfl rfl w.heap.size _ _ p q w6 rfl rfl H5.out.2.1 rfl HL8.out hsz ?_)
              intro v' w7 ho6 hg6 hd6
              rw [← HLS.out] at ho6
              have H6 := Lib.hid (And.intro (show kOk l i (k + 1) = true by rw [HOS.out, H5.out.1]; rfl) (And.intro ho6 (H5.out.2.2.grown hg6 hsz (fun g hg => (H5.out.2.1.lt g hg).1))))
              clear ho6 hg6 hd6 H5 x0 x1 x2 x3 x4
              go_wp2
              go_roundw
              case rel => exact ⟨k + 1, by go_num, by omega, H6⟩
              case measure => simp [intOf]; omega
            · have d1 : (y == 0) = false := by rw [beq_eq_false_iff_ne]; exact hy
              have HM2 := Lib.hid (show (([] : List (Int × Int)), (4 : Int)) = (a, z) by
                have := HM1.out
                rwa [if_neg (by rw [HNO.out hy hlt]; simp)] at this)
              clear hy hzc
              go_wp2
              go_ret2
              exact OutR.no HM2.out H5.out.2.2
      · obtain rfl : k = 8 := by omega
        have HM2 := Lib.hid (show (kL l i 8, (0 : Int)) = (a, z) by have := HM1.out; rwa [if_pos hr.out.1] at this)
        obtain ⟨A', c', rfl, hP⟩ := hr.out.2.1.parts (zs := kL l i 8) (fun p hp => by
          obtain ⟨m, -, rfl⟩ := List.mem_map.1 hp
          have := kF_bd l i m HG.out
          exact ⟨⟨by omega, by omega⟩, ⟨by omega, by omega⟩⟩)
        have HP := Lib.hid hP
        have HB := Lib.hid hr.out.2.2
        rw [kL_length]
        clear hr hP
        go_wp2
        go_ret2
        obtain ⟨rfl, rfl⟩ := Prod.mk.inj HM2.out
        exact ⟨A', c', by rw [kL_length]; first | done | rfl, HP.out, HB.out⟩
  · have hm2 := HM.out
    unfold kndE at hm2
    rw [if_pos (by rw [← HE.out]; exact hz), ← HE.out] at hm2
    have HM2 := Lib.hid hm2
    have d1 : (E == 0) = false := by rw [beq_eq_false_iff_ne]; exact hz
    have d2 : (E != 0) = true := by rw [bne_iff_ne]; exact hz
    clear hm2 hz
    go_wp2
    go_ret2
    exact OutR.no HM2.out ib.out
end Go.Proofs.Ytdgmpaijpjkeoaa
