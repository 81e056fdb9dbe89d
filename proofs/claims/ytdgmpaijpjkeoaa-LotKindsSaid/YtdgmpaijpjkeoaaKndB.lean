/-
  Kinds (the program's).
-/
import Derived.Test.YtdgmpaijpjkeoaaKndA
namespace Go.Proofs.Ytdgmpaijpjkeoaa
open Go.RowKit
attribute [local go_sem] grow_cell grow_frozen
attribute [local irreducible] plainUpon GrowsTo GrowsR natV Pr fN
def OutR (w : World) (l : List (Int × Int)) (z : Int) (e : Ending) (w' : World) : Prop :=
  ∃ A c, e = .returned (.tuple #[.slice A l.length c, .int .i64 z]) ∧ PartsIn w' A l ∧ Below w.heap.size w w'
theorem OutR.no {w w' : World} {l : List (Int × Int)} {z y : Int} (h : (([] : List (Int × Int)), y) = (l, z)) (hb : Below w.heap.size w w') : OutR w l z (.returned (.tuple #[.slice none 0 0, .int .i64 y])) w' := by
  simp only [Prod.mk.injEq] at h
  obtain ⟨rfl, rfl⟩ := h
  exact ⟨none, 0, rfl, ⟨by simp, fun h => by simp at h⟩, hb⟩
/-- The world in the first loop. -/
structure KW (w wr : World) (sb : Nat) (f : Nat → Nat) : Prop where
  s : SumsB wr sb f
  b : Below w.heap.size w wr
  g : w.heap.size ≤ sb
theorem KW.store {w wr w' : World} {sb : Nat} {f : Nat → Nat} (h : KW w wr sb f) (hb : Below wr.heap.size wr w') {k : Nat} (hk : k < 8) (v : Nat) {g : Nat → Nat} (hg1 : g k = v) (hg2 : ∀ j, j ≠ k → g j = f j) : KW w (w'.setCells sb (k * 20) (natC v).toList) sb g :=
  ⟨(h.s.keep hb).set hk v hg1 hg2, below_grown (h.b.trans (hb.mono h.b.size)) (grown_setCells _ _ _ _) h.g (Nat.le_trans h.b.size hb.size), h.g⟩
set_option maxRecDepth 100000 in
set_option maxHeartbeats 4000000 in
theorem kinds_any (l : List LotD) (hl : l.length ≤ 1000) (hps : ∀ x ∈ l, x.parts.length ≤ 1000) (i : Int) (a : List (Int × Int)) (z : Int) (hm : kndE l i = (a, z)) (hi : -9223372036854775808 ≤ i) (ki : i ≤ 9223372036854775807) (A : Option Addr) (c : Nat) (w : World) (hL : LotsIn w A l) :
    Calls Try.prog 35 #[.slice A l.length c, .int .i64 i] w (OutR w a z) := by
  have HM := Lib.hid hm
  have HL := Lib.hid hL
  have HPS := Lib.hid hps
  clear hm hL hps
  go_enter Try.func35, Try.ntmps35
  go_wp2_with fail
  obtain ⟨W, hW⟩ : ∃ W, W = w.alloc (.cells #[.int .i64 i] 3) := ⟨_, rfl⟩
  rw [← hW]
  have hb := Lib.hid (show Below w.heap.size w W by rw [hW]; exact (by repeat' (first | (with_reducible exact Below.refl _ _) | (with_reducible assumption) | (with_reducible refine below_drewN ?_ _) | (with_reducible refine below_step (by assumption) ?_ ?_) | (with_reducible refine Below.alloc ?_ ?_ _) | (with_reducible refine Below.setCell ?_ ?_ _) | (with_reducible refine Below.drew ?_) | go_size | (exact Below.size (by assumption)) | (refine Nat.le_trans (Below.size (by assumption)) ?_))))
  have hI := Lib.hid (show IsL W (some ⟨w.heap.size, 0, none⟩) 1 [i] by rw [hW]; exact isL_one w i _)
  clear hW
  obtain ⟨E, hE⟩ : ∃ E, E = chkE l [i] := ⟨_, rfl⟩
  have HE := Lib.hid hE
  clear hE
  refine (check_any l hl HPS.out A c _ 1 1 [i] W (HL.out.below hb.out) hI.out (by omega) (fun x hx => by simp at hx; subst hx; exact ⟨by omega, by omega⟩)).mono ?_
  rw [← HE.out]
  rintro e w1 ⟨rfl, hb1⟩
  have ib := Lib.hid (hb.out.trans (hb1.mono hb.out.size))
  clear hb1 hI hb
  by_cases hz : E = 0
  · subst hz
    have hm2 := HM.out
    unfold kndE at hm2
    rw [if_neg (by rw [← HE.out]; decide)] at hm2
    obtain ⟨hgl, hin⟩ := chk_zero HE.out.symm
    have h1 := hin i (by simp)
    obtain ⟨i, rfl⟩ : ∃ n : Nat, i = n := ⟨i.toNat, by omega⟩
    rw [Int.toNat_natCast] at hm2
    have HM1 := Lib.hid hm2
    have HG := Lib.hid hgl.lot
    have hl24 := hgl.len
    have hi : i < l.length := by omega
    clear hm2 hgl hin h1 HM
    go_wp2_with (refine al_sums rfl rfl ?_; intro w2 hs2 hb2)
    have K0 := Lib.hid (show KW w w2 w1.heap.size (kP l i 0) from ⟨hs2, ib.out.trans (hb2.mono ib.out.size), ib.out.size⟩)
    obtain ⟨sb, hsb⟩ : ∃ sb, sb = w1.heap.size := ⟨_, rfl⟩
    rw [← hsb] at K0 ⊢
    clear hs2 hb2 ib hsb
    go_wp2
    go_loopw [8] (fun t wr => ∃ k : Nat, t = .int .i64 k ∧ k ≤ i + 1 ∧ Hid (KW w wr sb (kP l i k))) (fun t _ => i + 1 - (intOf t).toNat)
    case atStart => exact ⟨0, rfl, by omega, K0⟩
    case round =>
      clear K0
      obtain ⟨k, rfl, hk, hr⟩ := hrel
      by_cases hlt : k ≤ i
      · have hkl : k < l.length := by omega
        obtain ⟨b, o, rfl, hc⟩ := (HL.out.below hr.out.b) (by omega)
        obtain ⟨e1, e2, e3, e4, e5, A', c', e6, e8, e7⟩ := hc k hkl
        have hgd := HG.out k hkl
        have hk0 := hgd.kind0
        have hk1 := hgd.kind1
        have hyd : l.getD k default = l[k] := getD_at' hkl
        have HSK := Lib.hid (show l[k].parts.length ≠ 0 → kP l i (k + 1) = kP l i k from fun h => funext fun kd => kP_skip (by rw [hyd]; exact h))
        have HAD := Lib.hid (show l[k].parts.length = 0 → ∀ kd : Nat, kP l i (k + 1) kd = kP l i k kd + (if l[k].kind = (kd : Int) then fN l k i else 0) from fun h kd => by have := kP_add (l := l) (i := i) (k := k) (kd := kd) (by rw [hyd]; exact h); rw [hyd] at this; exact this)
        obtain ⟨n, hn⟩ : ∃ n, n = l[k].parts.length := ⟨_, rfl⟩
        obtain ⟨kk, hkk⟩ : ∃ kk : Nat, l[k].kind = kk := ⟨l[k].kind.toNat, by omega⟩
        rw [hkk] at e4 HAD
        rw [hkk] at hk0 hk1
        rw [← hn] at e6 HSK HAD
        clear hc e1 e2 e5 e7 e8 hgd hyd hn hkk
        by_cases h0 : n = 0
        · have d1 : ((n : Int) == 0) = true := by rw [beq_iff_eq]; omega
          subst h0
          have HAD2 := Lib.hid (HAD.out rfl)
          clear HAD HSK
          go_upto_region 9 with fail
          have hk8 : kk < 8 := by omega
          have hrs : ∀ w', (∃ x, w' = grow wr x) → SumsB w' sb (kP l i k) := fun w' hw => hr.out.s.keep (by obtain ⟨x, rfl⟩ := hw; exact below_grow wr x)
          have hsz := hr.out.b.size
          refine region_last (C := fun w' => ∃ x, w' = grow wr x) [0, 1, 2, 3, 4, 5, 6, 7, 8, 9, 10, 11, 12, 13, 15] [14, 16, 17, 18, 19] 19 (by kernel_rfl) (by kernel_rfl) (grow_start wr) ?_
          simp only [pickL, List.getElem?_cons_zero, List.getElem?_cons_succ]
          repeat (first | (go_big_quiet_want; refine quiet_ld_mid _ rfl sb kk _ rfl (by omega) hk8 hrs ?_; go_simp; go_big_quiet_on) | go_big_quiet_step (fail))
          refine wpQuiet_nil ?_
          rintro w3 ⟨xg, hxg⟩
          have hb3 := below_grow wr xg
          rw [← hxg] at hb3
          clear hrs
          refine d_call 57 #[.slice (some ⟨b, o, none⟩) l.length c, .int .i64 k] rfl (by go_simp) ⟨xg, hxg⟩ ?_
          refine (sharesOf_any l (some ⟨b, o, none⟩) c k w3 ((HL.out.below hr.out.b).below hb3)).mono ?_
          rintro e w4 ⟨s4, m4, rfl, hS, hM⟩
          refine ⟨_, rfl, ?_⟩
          have hb4 := hb3.trans (hS.b.mono hb3.size)
          refine d_call 59 #[.pointer (some ⟨s4, 0, none⟩), .int .i64 i] rfl (by go_simp) (grow_of_below hb4) ?_
          refine (in_any l hl24 HG.out (some ⟨b, o, none⟩) c s4 m4 k w3 i hi w4 _ hS hM).mono ?_
          rintro e w5 ⟨rfl, hg5, -⟩
          refine ⟨_, rfl, ?_⟩
          have hb5 : Below wr.heap.size wr w5 := below_grown hb4 hg5 (Nat.le_trans hb3.size hS.s3) hb4.size
          refine d_call 77 #[natV (kP l i k kk), natV (fN l k i)] rfl (by go_simp) (grow_of_below hb5) ?_
          refine (nat_plus _ _ w5).mono ?_
          rintro e w6 ⟨rfl, hb6⟩
          refine ⟨_, rfl, ?_⟩
          have hb6' := hb5.trans (hb6.mono hb5.size)
          have H7 := Lib.hid (hr.out.store hb6' hk8 (kP l i k kk + fN l k i) (g := kP l i (k + 1)) (by rw [HAD2.out, if_pos rfl]) (fun j hj => by rw [HAD2.out, if_neg (by omega), Nat.add_zero]))
          have hr6 := hr.out.s.keep hb6'
          have ht := hr6.there hk8
          clear hS hM hb4 hg5 hb5 hb6 hb3 hxg
          refine d_val (.pointer (some ⟨sb, kk * 20, none⟩)) w6 rfl (by go_simp) (grow_of_below hb6') ?_
          refine d_skip (w6.setCells sb (kk * 20) (natC (kP l i k kk + fN l k i)).toList) rfl ?_ (grow_of_below hb6') ?_
          · exact st_mid_run _ _ rfl sb kk _ rfl rfl ht
          · obtain ⟨w7, hw7⟩ : ∃ w7, w7 = w6.setCells sb (kk * 20) (natC (kP l i k kk + fN l k i)).toList := ⟨_, rfl⟩
            rw [← hw7] at H7
            show plainD _ _ _ _ _ _ _
            rw [← hw7]
            clear hw7 ht hr6 hb6' hr
            simp only [plainD]
            go_simp
            go_wp2
            go_roundw
            case rel => exact ⟨k + 1, by go_num, by omega, H7⟩
            case measure => simp [intOf]; omega
        · have d1 : ((n : Int) == 0) = false := by rw [beq_eq_false_iff_ne]; omega
          have hs := HSK.out h0
          rw [← hs] at hr
          clear hs HAD
          go_wp2
          go_roundw
          case rel => exact ⟨k + 1, by go_num, by omega, hr⟩
          case measure => simp [intOf]; omega
      · obtain rfl : k = i + 1 := by omega
        obtain ⟨f, hf⟩ : ∃ f, f = kP l i (i + 1) := ⟨_, rfl⟩
        rw [← hf] at hr
        have HF := Lib.hid (show ∀ kd, f kd = kN l kd i from fun kd => by rw [hf]; rfl)
        clear hf
        obtain ⟨S, hS⟩ : ∃ S, S = sumsC f := ⟨_, rfl⟩
        have HS := Lib.hid hS
        go_upto_region 12 with (refine ld_sums rfl _ rfl sb rfl hr.out.s ?_)
        rw [← hS]
        have O0 := Lib.hid (show kOk l i 0 = true ∧ OwnR wr w.heap.size (.slice none 0 0) (kL l i 0) ∧ Below w.heap.size w wr from ⟨rfl, OwnR.nil _ _, hr.out.b⟩)
        clear hr hS hk
        go_loopw [9, 53] (fun v t wq => ∃ k : Nat, t = .int .i64 k ∧ k ≤ 8 ∧ Hid (kOk l i k = true ∧ OwnR wq w.heap.size v (kL l i k) ∧ Below w.heap.size w wq)) (fun _ t _ => 8 - (intOf t).toNat)
        case atStart => exact ⟨0, rfl, by omega, O0⟩
        case round =>
          clear O0
          obtain ⟨k, rfl, hk, hr⟩ := hrel
          by_cases hlt : k < 8
          · have hix := fun w => index_sums (f := f) hlt w
            rw [← HS.out] at hix
            obtain ⟨p, q, y, hfr⟩ : ∃ p q y, kF l i k = (p, q, y) := ⟨_, _, _, rfl⟩
            have hbd := kF_bd l i k HG.out
            have hzc := fr_zc (kN l k i) (Pr (tN l) 0 (i + 1))
            rw [show frE (kN l k i) (Pr (tN l) 0 (i + 1)) = kF l i k from rfl] at hzc
            have hLS := kL_succ l i k
            have hOS := kOk_succ l i k
            have hNO := kOk_no (l := l) (i := i) (m := k) (n := 8)
            rw [hfr] at hbd hzc hLS hOS hNO
            simp only at hbd hzc hLS hOS hNO
            have HFR := Lib.hid (show frE (f k) (Pr (tN l) 0 (i + 1)) = (p, q, y) by rw [HF.out]; exact hfr)
            have HLS := Lib.hid hLS
            have HOS := Lib.hid hOS
            have HNO := Lib.hid hNO
            clear hLS hOS hNO hfr
            have hz : NatB (wr.alloc (.cells (natC 0) 77)) wr.heap.size 0 := NB.new _ _
            rw [← natZ] at hz
            have HZ := Lib.hid hz
            clear hz
            go_upto_region 14 with (refine st_nat rfl _ _ rfl rfl _ _ _ rfl rfl HZ.out ?_; intro w1 hn1 hg1)
            have hb1 : Below wr.heap.size wr w1 := below_grown ((Below.refl _ _).alloc (Nat.le_refl _) _) hg1 (Nat.le_refl _) (by simp)
            have H1 := Lib.hid (And.intro hn1 (And.intro hr.out.1 (And.intro (hr.out.2.1.keep hb1) (And.intro (hr.out.2.2.trans (hb1.mono hr.out.2.2.size)) hn1.lt))))
            clear hn1 hg1 hb1 hr HZ hix
            go_cut [12, 13] (fun v12 v13 wx => ∃ nb : Nat, v12 = .pointer (some ⟨nb, 0, none⟩) ∧ v13 = .int .i64 y ∧ Hid (Below w1.heap.size w1 wx ∧ RatB wx nb p q))
            case first =>
              have hle : f k ≤ Pr (tN l) 0 (i + 1) := by rw [HF.out]; exact kN_le HG.out k i
              have hpr := Nat.lt_of_le_of_lt (pr_big HG.out hl24 (a := 0) (b := i + 1) (by omega)) big_lt
              have HIN := Lib.hid (H1.out.1.inGrow)
              refine region_float2 (C0 := fun w' => ∃ x, w' = grow w1 x) (Fresh w1.heap.size 28 (ratC 0 0)) [0, 1, 2, 4] [(2, 3), (1, 5), (1, 6), (0, 7), (0, 8), (0, 9)] 10 [11, 12] (by kernel_rfl) (by kernel_rfl) (by kernel_rfl) grow_trans Fresh.grow (grow_start w1) (by simp only [atOp, List.getElem?_cons_zero, List.getElem?_cons_succ]; exact fresh_alloc 28 (ratC 0 0) rfl ratZero) ?_
              simp only [pickL, List.getElem?_cons_zero, List.getElem?_cons_succ]
              repeat (first | (go_big_quiet_want; refine quiet_ld_nat _ rfl _ _ rfl HIN.out ?_; go_simp; go_big_quiet_on) | go_big_quiet_step (fail))
              refine wpQuiet_nil ?_
              rintro - -
              simp only [floS2, tailS, atOp, List.getElem?_cons_zero, List.getElem?_cons_succ]
              refine ⟨fun v w' => ∃ s m w0, v = .pointer (some ⟨s, 0, none⟩) ∧ ShIn w0 w' s m l A c i, flo_callR 57 #[.slice A l.length c, .int .i64 i] (by rintro v w y ⟨s, m, w0, rfl, h⟩; exact ⟨s, m, w0, rfl, h.keep (below_grow w y)⟩) (fun _ => by go_simp) (by
                rintro w' ⟨x, rfl⟩
                refine (sharesOf_any l A c i _ ((HL.out.below H1.out.2.2.2.1).below (below_grow w1 x))).mono ?_
                rintro e w2 ⟨s, m, rfl, hS, -⟩
                exact ⟨_, rfl, ⟨s, m, _, rfl, hS⟩, hS.b⟩) ?_⟩
              intro vs
              refine ⟨natV (Pr (tN l) 0 (i + 1)), flo_call 60 #[vs, .int .i64 i] (fun _ => by go_simp) (by
                rintro w' ⟨-, s, m, w0, rfl, hS⟩
                exact whole_any l hl24 HG.out A c s m i i hi w0 w' hS) ?_⟩
              refine ⟨.tuple #[.agg #[.int .i64 p, .int .i64 q], .int .i64 y], flo_call 58 #[natV (f k), natV (Pr (tN l) 0 (i + 1))] (fun _ => by go_simp) (by
                rintro w' -
                exact fraction_any (f k) (Pr (tN l) 0 (i + 1)) p q y HFR.out (by omega) hpr hle w') ?_⟩
              refine ⟨.tuple #[.agg #[.int .i64 p, .int .i64 q], .int .i64 y], fun _ => (by go_simp), ?_⟩
              refine ⟨.agg #[.int .i64 p, .int .i64 q], fun _ => (by go_simp), ?_⟩
              refine ⟨.int .i64 y, fun _ => (by go_simp), ?_⟩
              intro u w3 hw3 hg3
              replace hw3 := hw3.1
              refine ⟨hw3, ?_⟩
              refine tail_store 28 _ _ rfl (ratC 0 0) (ratC p q) u (by go_simp) hg3 (by go_simp; rfl) hw3 (ratInfo p q) rfl (by simp [ratC, Value.oneCell']) ?_
              clear hw3 hg3
              intro w4 hw4 hg4
              obtain ⟨nb, rfl, hnb, hn⟩ := hg4.rat
              clear hg4
              refine ⟨hw4, ?_⟩
              refine g_assignV _ rfl (.int .i64 y) (by go_simp) ?_
              refine ⟨hw4, ?_⟩
              obtain ⟨xg, rfl⟩ := hw4
              have hb4 := below_grow w1 xg
              go_wp2_with fail
              go_simp
              go_meet
              exact ⟨nb, rfl, rfl, Lib.hid ⟨hb4, hn⟩⟩
            case rest =>
              obtain ⟨nb, rfl, rfl, hc1⟩ := hcut
              have H2 := Lib.hid (And.intro H1.out.2.1 (And.intro (H1.out.2.2.1.keep hc1.out.1) (H1.out.2.2.2.1.trans (hc1.out.1.mono H1.out.2.2.2.1.size))))
              obtain ⟨x0, x1, x2, x3, x4⟩ := hc1.out.2.box
              have hsz := H2.out.2.2.size
              clear hc1 H1
              by_cases hy : y = 0
              · subst hy
                have HL8 := Lib.hid (show (kL l i k).length ≤ 1000000 by rw [kL_length]; omega)
                go_wp2_with (at_builtin; refine append_rat (.tmp 69) (.tmp 71) rfl rfl w.heap.size _ _ p q wc rfl rfl H2.out.2.1 rfl HL8.out hsz ?_)
                intro v' w6 ho6 hg6 hd6
                rw [← HLS.out] at ho6
                have H3 := Lib.hid (And.intro (show kOk l i (k + 1) = true by rw [HOS.out, H2.out.1]; rfl) (And.intro ho6 (H2.out.2.2.grown hg6 hsz (fun g hg => (H2.out.2.1.lt g hg).1))))
                clear ho6 hg6 hd6 H2 x0 x1 x2 x3 x4
                go_wp2
                go_roundw
                case rel => exact ⟨k + 1, by go_num, by omega, H3⟩
                case measure => simp [intOf]; omega
              · have d1 : (y != 0) = true := by rw [bne_iff_ne]; exact hy
                have HM2 := Lib.hid (show (([] : List (Int × Int)), y) = (a, z) by
                  have := HM1.out
                  rw [if_neg (by rw [HNO.out hy hlt]; simp)] at this
                  rw [← this]
                  rcases hzc with h | h
                  · exact absurd h hy
                  · rw [h])
                clear hy hzc
                go_wp2
                go_ret2
                exact OutR.no HM2.out H2.out.2.2
          · obtain rfl : k = 8 := by omega
            have HM2 := Lib.hid (show (kL l i 8, (0 : Int)) = (a, z) by have := HM1.out; rwa [if_pos hr.out.1] at this)
            obtain ⟨A', c', rfl, hP⟩ := hr.out.2.1.parts (zs := kL l i 8) (fun p hp => by
              obtain ⟨m, -, rfl⟩ := List.mem_map.1 hp
              have := kF_bd l i m HG.out
              exact ⟨⟨by omega, by omega⟩, ⟨by omega, by omega⟩⟩)
            have HP := Lib.hid hP
            have HB := Lib.hid hr.out.2.2
            rw [kL_length]
            clear hr hP
            go_wp2
            go_ret2
            obtain ⟨rfl, rfl⟩ := Prod.mk.inj HM2.out
            exact ⟨A', c', by rw [kL_length]; first | done | rfl, HP.out, HB.out⟩
  · have hm2 := HM.out
    unfold kndE at hm2
    rw [if_pos (by rw [← HE.out]; exact hz), ← HE.out] at hm2
    have HM2 := Lib.hid hm2
    have d1 : (E == 0) = false := by rw [beq_eq_false_iff_ne]; exact hz
    have d2 : (E != 0) = true := by rw [bne_iff_ne]; exact hz
    clear hm2 hz
    go_wp2
    go_ret2
    exact OutR.no HM2.out ib.out
end Go.Proofs.Ytdgmpaijpjkeoaa
