/-
  THE REFERENCE: inLattice; Turn, Mirror.
-/
import Derived.Test.YtgmokojdlbdjeaaGreatDoorPrfF
import Derived.Test.YtgmokojdlbdjeaaGreatDoorLawP
namespace Go.Proofs.YtgmokojdlbdjeaaGreatDoor
open Go.RowKit
attribute [local go_sem] sub_cell sub_frozen
attribute [local irreducible] RP.plainUpon RP.stepC
/-- The same, where the new box was laid in other words. -/
theorem RW.new2 {w w1 W : World} {pb rb : Nat} {a b c : Int} {s : Value} (hp : PBox w1 pb a b c s) (hr : PBox w1 rb 0 0 0 (.slice none 0 0)) (hb : Below w.heap.size w w1) (hrw : w.heap.size ≤ rb) {x y z : Int} (hbn : Below w1.heap.size w1 W) (ho : PBox W w1.heap.size x y z (.slice none 0 0)) :
    RW w W (w1.heap.size + 1) pb rb w1.heap.size a b c s x y z (.slice none 0 0) [] := by
  have h1 := (Array.getElem?_eq_some_iff.1 hp).1
  have h2 := (Array.getElem?_eq_some_iff.1 hr).1
  have h3 := (Array.getElem?_eq_some_iff.1 ho).1
  exact ⟨hp.keep hbn, hr.keep hbn, ho, OwnI.nil _ _, hb.trans (hbn.mono hb.size), by omega, by omega, by omega, by omega, by omega, hb.size, hrw, by omega, by have := hb.size; omega⟩
theorem tmod_zero_iff {n d : Int} : n.tmod d = 0 ↔ n % d = 0 := by
  rw [← Int.dvd_iff_tmod_eq_zero, Int.dvd_iff_emod_eq_zero]
theorem tdiv_exact {n d : Int} (h : n % d = 0) : n.tdiv d = n / d := Int.tdiv_eq_ediv_of_dvd (Int.dvd_of_emod_eq_zero h)
set_option maxRecDepth 100000 in
set_option maxHeartbeats 1000000 in
theorem rlat_any (a b c : Int) (s : Value) (dx dy : Int) (a0 : 0 < a) (a1 : a ≤ 100000) (b0 : 0 ≤ b) (b1 : b ≤ 100000) (c0 : 0 < c) (c1 : c ≤ 10000000) (x0 : -1000000000 ≤ dx) (x1 : dx ≤ 1000000000) (y0 : -1000000000 ≤ dy) (y1 : dy ≤ 1000000000) (w : World) :
    Calls Tryz.prog 64 #[.agg #[.int .i64 a, .int .i64 b, .int .i64 c, s], .int .i64 dx, .int .i64 dy] w fun e w' => e = .returned (.bool (decide (Lat a b c dx dy))) ∧ Below w.heap.size w w' := by
  obtain ⟨r, hr⟩ : ∃ r, r = decide (Lat a b c dx dy) := ⟨_, rfl⟩
  rw [← hr]
  by_cases hm : dy % c = 0
  · have t0 : dy.tmod c = 0 := tmod_zero_iff.2 hm
    have t1 : (dy.tmod c == 0) = true := by rw [t0]; rfl
    obtain ⟨q, hq⟩ : ∃ q, q = dy / c := ⟨_, rfl⟩
    have t2 : dy.tdiv c = q := by rw [hq]; exact tdiv_exact hm
    have hqb := ediv_bd c0 (B := 1000000000) y0 y1
    rw [← hq] at hqb
    have hb := pmul_bd hqb.1 hqb.2 b0 b1
    obtain ⟨v, hv⟩ : ∃ v, v = q * b := ⟨_, rfl⟩
    rw [← hv] at hb
    have k0 : IntKind.i64.wrap q = q := IntWalk.i64_in _ (by omega)
    have k1 : IntKind.i64.wrap (q * b) = v := by rw [hv]; exact IntWalk.i64_in _ (by omega)
    have k2 : IntKind.i64.wrap (dx - v) = dx - v := IntWalk.i64_in _ (by omega)
    have HM := Lib.hid (modulo_any (dx - v) a a0 (by omega))
    have hrr : r = ((dx - v) % a == 0) := by
      rw [hr]
      by_cases h : (dx - v) % a = 0
      · rw [h, decide_eq_true (show Lat a b c dx dy from ⟨hm, by rw [← hq, ← hv]; exact h⟩)]; rfl
      · rw [decide_eq_false (show ¬ Lat a b c dx dy from fun hl => h (by rw [hv, hq]; exact hl.2)), beq_eq_false_iff_ne.2 h]
    have HR := Lib.hid hrr
    have hcz : (c == 0) = false := by rw [beq_eq_false_iff_ne]; omega
    clear hr hm hq hv hrr
    go_enter Tryz.func64, Tryz.ntmps64
    go_upto_region 1 with fail
    go_quiet ((go_at_call 67; exact Calls.quiet_of_same ((HM.out _).mono fun _ _ h => ⟨h.1, h.2.symm⟩)))
    go_wp2
    go_ret
    exact ⟨by rw [HR.out]; rfl, below_drewN (below_new _ _) _⟩
  · have t1 : (dy.tmod c == 0) = false := by rw [beq_eq_false_iff_ne]; exact fun h => hm (tmod_zero_iff.1 h)
    have HR := Lib.hid (show r = false by rw [hr, decide_eq_false (fun h => hm h.1)])
    have hcz : (c == 0) = false := by rw [beq_eq_false_iff_ne]; omega
    clear hr hm
    go_enter Tryz.func64, Tryz.ntmps64
    go_upto_region 1 with fail
    go_quiet (fail)
    go_wp2
    go_ret
    exact ⟨by rw [HR.out]; rfl, below_drewN (below_new _ _) _⟩
set_option maxRecDepth 100000 in
set_option maxHeartbeats 2000000 in
theorem rmirror_any (p : PatD) (hl : p.xs.length ≤ 1000000) (A : Option Addr) (cap : Nat) (w : World) (hi : PatIn w p A) :
    Calls Tryz.prog 26 #[.agg #[.int .i64 p.a, .int .i64 p.b, .int .i64 p.c, .slice A p.xs.length cap]] w (OutP w (mirT p) (.int .i64 (valP p))) := by
  obtain ⟨T, hT⟩ : ∃ T, T = mirT p := ⟨_, rfl⟩
  obtain ⟨E, hE⟩ : ∃ E, E = valP p := ⟨_, rfl⟩
  rw [← hT, ← hE]
  unfold mirT at hT
  rw [← hE] at hT
  have HV := Lib.hid (fun w hi => rvalidateP_any p hl E hE.symm A cap w hi)
  have HT := Lib.hid hT
  have HE := Lib.hid hE
  have HI := Lib.hid hi
  clear hi hT hE
  obtain ⟨lq, hlq⟩ : ∃ lq, lq = p.xs.length := ⟨_, rfl⟩
  have HLQ := Lib.hid hlq
  rw [← hlq] at HV ⊢
  clear hlq
  obtain ⟨q, hq⟩ : ∃ q, q = p := ⟨_, rfl⟩
  obtain ⟨a, b, c, xs⟩ := p
  simp only at HV HLQ hl ⊢
  rw [← hq] at HV HI HT HE
  have HQ := Lib.hid hq
  clear hq
  go_enter Tryz.func26, Tryz.ntmps26
  go_wp2_with fail
  obtain ⟨a0, a1, a2, a3⟩ := al2 w (.cells #[.int .i64 a, .int .i64 b, .int .i64 c, .slice A lq cap] 24) (.cells #[.int .i64 0, .int .i64 0, .int .i64 0, .slice none 0 0] 24)
  obtain ⟨V, hV⟩ : ∃ V, V = (w.alloc (.cells #[.int .i64 a, .int .i64 b, .int .i64 c, .slice A lq cap] 24)).alloc (.cells #[.int .i64 0, .int .i64 0, .int .i64 0, .slice none 0 0] 24) := ⟨_, rfl⟩
  rw [← hV] at a0 a1 a2 a3 ⊢
  refine (HV.out V (HI.out.below a3)).mono ?_
  rintro e w1 ⟨rfl, hb1⟩
  have H1 := Lib.hid (show PBox w1 w.heap.size a b c (.slice A lq cap) ∧ PBox w1 (w.heap.size + 1) 0 0 0 (.slice none 0 0) ∧ Below w.heap.size w w1 from
    ⟨PBox.keep (w := V) a1 hb1, PBox.keep (w := V) a2 hb1, a3.trans (hb1.mono a3.size)⟩)
  clear hV a0 a1 a2 a3 HV hb1 V
  by_cases hz : E = 0
  · subst hz
    have hT := HT.out
    rw [if_neg (by simp)] at hT
    have hv : valP q = 0 := HE.out.symm
    have hg := valP_zero hv
    have hqa : q.a = a := by rw [HQ.out]
    have hqb : q.b = b := by rw [HQ.out]
    have hqc : q.c = c := by rw [HQ.out]
    have hqx : q.xs = xs := by rw [HQ.out]
    obtain ⟨n, hn⟩ : ∃ n : Nat, a = n := ⟨a.toNat, by have := hg.a0; omega⟩
    obtain ⟨m, hm⟩ : ∃ m : Nat, c = m := ⟨c.toNat, by have := hg.c0; omega⟩
    subst hn
    subst hm
    have hn0 : 0 < n := by have := hg.a0; omega
    have hn144 : n ≤ 144 := by have := hg.a1; omega
    have hm144 : m ≤ 144 := by have := hg.c1; omega
    have hnm : n * m ≤ 144 := by
      have := hg.ac
      rw [hqa, hqc, ← Int.natCast_mul] at this
      omega
    obtain ⟨y, hy⟩ : ∃ y, y = (-b) % (n : Int) := ⟨_, rfl⟩
    have hy0 : 0 ≤ y := by rw [hy]; exact Int.emod_nonneg _ (by omega)
    have hy1 : y < n := by rw [hy]; exact Int.emod_lt_of_pos _ (by omega)
    obtain ⟨G, hG⟩ : ∃ G, G = mirF (colF q) := ⟨_, rfl⟩
    have hbase : Base G n y m := by rw [hG, hy, ← hqa, ← hqb, ← hqc]; exact (lst_pat hv).mir
    rw [← hG] at hT
    have kb : IntKind.i64.wrap (-b) = -b := IntWalk.i64_in _ (by have := hg.b0; have := hg.b1; omega)
    have HMO := Lib.hid (modulo_any (-b) n (by omega) (by omega))
    rw [← hy] at HMO
    have HC := Lib.hid (fun (i k : Nat) (hi : i < n) (hk : k < m) w2 (hp2 : PatIn w2 q A) => (show Calls Tryz.prog 62 #[.agg #[.int .i64 n, .int .i64 b, .int .i64 m, .slice A lq cap], .int .i64 (-(i : Int)), .int .i64 (k : Int)] w2 fun e w3 => e = .returned (.int .i64 (G i k)) ∧ Below w2.heap.size w2 w3 from by
      have := rcolor_any q hg.ok.wide A lq cap (-(i : Int)) k (by omega) (by omega) (by omega) (by omega) w2 (by rw [HLQ.out, ← hqx]; exact hp2)
      rw [hqa, hqb, hqc] at this
      rw [hG]; exact this))
    have HRE := Lib.hid (fun Ax cx wx hx => rleast_tab G n m y hbase (by omega) (by omega) (by omega) (by omega) (by omega) Ax cx wx hx)
    have HTT := Lib.hid hT
    clear hT hv hg hG hbase HT HE hqa hqb hqc hqx hy
    obtain ⟨q0, q1, q2, q3, q4⟩ := H1.out.1.cells
    have hq5 : w.heap.size < w1.heap.size := q4
    go_upto_region 4 with fail
    go_cut [5] (fun t wx => t = .pointer (some ⟨w1.heap.size, 0, none⟩) ∧ Hid (RW w wx (w1.heap.size + 1) w.heap.size (w.heap.size + 1) w1.heap.size n b m (.slice A lq cap) n y m (.slice none 0 0) [] ∧ PIn wx (w1.heap.size + 1) w1.heap.size q A))
    case first =>
      refine RP.region_treeP (C := fun w' => ∃ x : SubW w1.heap.size w1, w' = x.val) (fun _ _ _ => False) [0, 1, 2, 3, 5, 6, 8, 9] (.read 4 (.two 7 (.read 10 (.one 11 .nil)) 11 (.one 7 (.read 10 .nil)))) 12 (fun _ _ _ h => h.elim) (by kernel_rfl) (by kernel_rfl) (sub_start _ w1) ?_
      simp only [pickL, List.getElem?_cons_zero, List.getElem?_cons_succ]
      repeat (go_big_quiet_step (fail))
      refine wpQuiet_nil ?_
      obtain ⟨w5, hw5⟩ : ∃ w5 : World, w5 = { w1 with drawn := w1.drawn + 1 } := ⟨_, rfl⟩
      have hb5 : Below w1.heap.size w1 w5 := by rw [hw5]; exact (Below.refl _ _).drew
      have hs5 : w5.heap.size = w1.heap.size := by rw [hw5]
      rw [← hw5]
      clear q0 q1 q2 q3 q4 hw5
      have hbx : PBox (w5.alloc (.cells #[.int .i64 0, .int .i64 0, .int .i64 0, .slice none 0 0] 24)) w5.heap.size 0 0 0 (.slice none 0 0) := PBox.new w5 _ _ _ _
      have hba := (Below.refl w5.heap.size w5).alloc (Nat.le_refl _) (.cells #[.int .i64 0, .int .i64 0, .int .i64 0, .slice none 0 0] 24)
      obtain ⟨w6, hw6⟩ : ∃ w6, w6 = w5.alloc (.cells #[.int .i64 0, .int .i64 0, .int .i64 0, .slice none 0 0] 24) := ⟨_, rfl⟩
      have hrow := hbx.row n y m (.slice none 0 0)
      rw [← hw6] at hbx hba hrow
      have hbr : Below w5.heap.size w5 (w6.setRow w5.heap.size #[.int .i64 n, .int .i64 y, .int .i64 m, .slice none 0 0]) := hba.grown (row_grown w6 _ _) hba.size (fun g e => by cases e; omega)
      have hRW := RW.new2 (w := w) (w1 := w5) (H1.out.1.keep hb5) (H1.out.2.1.keep hb5) (H1.out.2.2.trans (hb5.mono H1.out.2.2.size)) (by omega) hbr hrow
      have hPI : PIn (w6.setRow w5.heap.size #[.int .i64 n, .int .i64 y, .int .i64 m, .slice none 0 0]) (w1.heap.size + 1) w1.heap.size q A :=
        PIn.from HI.out ((H1.out.2.2.trans (hb5.mono H1.out.2.2.size)).trans (hbr.mono (by rw [hs5]; exact H1.out.2.2.size))) (by have := H1.out.2.2.size; omega) H1.out.2.2.size
      rw [hs5] at hRW hbx hPI
      have HF := Lib.hid (And.intro hRW hPI)
      have hw1 : w1.heap.size ≤ w5.heap.size := by omega
      have hC5 : ∃ x : SubW w1.heap.size w1, w5 = x.val := sub_of hb5
      have hC6 : ∃ x : SubW w1.heap.size w1, w6 = x.val := sub_of (hb5.trans (hba.mono hw1))
      clear hRW hPI hrow
      simp only [RP.treeS, atOp, List.getElem?_cons_zero, List.getElem?_cons_succ]
      refine ⟨hC5, ?_⟩
      refine ⟨_, s_read (.int .i64 (-b)) rfl (fun w _ => by go_simp), hC5, ?_, ?_⟩
      · refine RP.p_call 67 #[.int .i64 (-b), .int .i64 n] rfl (by go_simp) ?_
        refine (HMO.out w5).mono ?_
        rintro e w7 ⟨rfl, rfl⟩
        refine .inl ⟨_, rfl, hC5, ?_⟩
        refine ⟨_, s_read (.agg #[.int .i64 n, .int .i64 y, .int .i64 m, .slice none 0 0]) rfl (fun w _ => by go_simp), hC5, ?_⟩
        refine RP.p_val (.pointer (some ⟨w1.heap.size, 0, none⟩)) w6 rfl (by rw [hw6]; go_simp) ?_
        refine ⟨hC6, ?_⟩
        refine RP.p_skip (w6.setRow w5.heap.size #[.int .i64 n, .int .i64 y, .int .i64 m, .slice none 0 0]) rfl (by rw [hs5]; exact st_pat_run (.tmp 5) (.tmp 24) rfl hbx n y m none 0 0 (by go_simp) (by go_simp)) ?_
        rw [hs5]
        clear hw6 hbx hba hbr hC5 hC6
        go_simp
        go_wp2_with fail
        go_meet
        exact ⟨rfl, HF⟩
      · refine RP.p_val (.pointer (some ⟨w1.heap.size, 0, none⟩)) w6 rfl (by rw [hw6]; go_simp) ?_
        refine ⟨hC6, ?_⟩
        refine RP.p_call 67 #[.int .i64 (-b), .int .i64 n] rfl (by go_simp) ?_
        refine (HMO.out w6).mono ?_
        rintro e w7 ⟨rfl, rfl⟩
        refine .inl ⟨_, rfl, hC6, ?_⟩
        refine ⟨_, s_read (.agg #[.int .i64 n, .int .i64 y, .int .i64 m, .slice none 0 0]) rfl (fun w _ => by go_simp), hC6, ?_⟩
        refine RP.p_skip (w6.setRow w5.heap.size #[.int .i64 n, .int .i64 y, .int .i64 m, .slice none 0 0]) rfl (by rw [hs5]; exact st_pat_run (.tmp 5) (.tmp 24) rfl hbx n y m none 0 0 (by go_simp) (by go_simp)) ?_
        rw [hs5]
        clear hw6 hbx hba hbr hC5 hC6
        go_simp
        go_wp2_with fail
        go_meet
        exact ⟨rfl, HF⟩
    case rest =>
      obtain ⟨rfl, HS⟩ := hcut
      clear q0 q1 q2 q3 q4 H1
      obtain ⟨ob, hob⟩ : ∃ ob, ob = w1.heap.size := ⟨_, rfl⟩
      obtain ⟨B, hB⟩ : ∃ B, B = ob + 1 := ⟨_, rfl⟩
      obtain ⟨pb, hpb⟩ : ∃ pb, pb = w.heap.size := ⟨_, rfl⟩
      obtain ⟨rb, hrb⟩ : ∃ rb, rb = w.heap.size + 1 := ⟨_, rfl⟩
      have hS : RW w wc B pb rb ob n b m (.slice A lq cap) n y m (.slice none 0 0) [] ∧ PIn wc B ob q A := by rw [hpb, hrb, hB, hob]; exact HS.out
      have R3 := Lib.hid (show ∃ v, RW w wc B pb rb ob n b m (.slice A lq cap) (n : Int) y (m : Int) v (tabN G n (0 * n)) ∧ PIn wc B ob q A from ⟨_, by rw [Nat.zero_mul]; exact hS.1, hS.2⟩)
      rw [← hob, ← hrb, ← hpb]
      clear HS hS hob hB hpb hrb hq5
      obtain ⟨Aq, hAq⟩ : ∃ Aq, Aq = A := ⟨_, rfl⟩
      obtain ⟨cq, hcq⟩ : ∃ cq, cq = cap := ⟨_, rfl⟩
      subst hAq
      subst hcq
      go_wp2
      go_loopw [6] (fun t wr => ∃ k : Nat, t = .int .i64 k ∧ k ≤ m ∧ Hid (∃ v, RW w wr B pb rb ob n b m (.slice Aq lq cq) (n : Int) y (m : Int) v (tabN G n (k * n)) ∧ PIn wr B ob q Aq)) (fun t _ => m - (intOf t).toNat)
      case atStart => exact ⟨0, rfl, by omega, R3⟩
      case round =>
        clear R3
        obtain ⟨k, rfl, hk, hr⟩ := hrel
        obtain ⟨v, hT, hPI⟩ := hr.out
        obtain ⟨o0, o1, o2, o3, o4⟩ := hT.o.cells
        obtain ⟨p0, p1, p2, p3, p4⟩ := hT.p.cells
        by_cases hlt : k < m
        · have dkm : decide ((k : Int) < (m : Int)) = true := decide_eq_true (by omega)
          have R0 := Lib.hid (show ∃ v, RW w wr B pb rb ob n b m (.slice Aq lq cq) (n : Int) y (m : Int) v (tabN G n (k * n + 0)) ∧ PIn wr B ob q Aq from ⟨v, hT, hPI⟩)
          clear hr hT hPI
          go_wp2
          go_loopw [7] (fun t wq => ∃ i : Nat, t = .int .i64 i ∧ i ≤ n ∧ Hid (∃ v, RW w wq B pb rb ob n b m (.slice Aq lq cq) (n : Int) y (m : Int) v (tabN G n (k * n + i)) ∧ PIn wq B ob q Aq)) (fun t _ => n - (intOf t).toNat)
          case atStart => exact ⟨0, rfl, by omega, R0⟩
          case round =>
            clear R0 o0 o1 o2 o3 o4 p0 p1 p2 p3 p4 v
            obtain ⟨i, rfl, hi, hq⟩ := hrel
            obtain ⟨v, hT, hPI⟩ := hq.out
            obtain ⟨p0, p1, p2, p3, p4⟩ := hT.p.cells
            obtain ⟨o0, o1, o2, o3, o4⟩ := hT.o.cells
            by_cases hil : i < n
            · have din : decide ((i : Int) < (n : Int)) = true := decide_eq_true (by omega)
              have HT := Lib.hid (And.intro hT hPI)
              have hlen : k * n + i ≤ 1000000000 - 1 := by
                have h1 : (k + 1) * n ≤ m * n := Nat.mul_le_mul_right n (by omega)
                rw [Nat.add_mul, Nat.one_mul, Nat.mul_comm m n] at h1
                omega
              have HTN := Lib.hid (tabN_step (F := G) (k := k) hil)
              have HCC := Lib.hid (HC.out i k hil hlt)
              obtain ⟨z, hz⟩ : ∃ z, z = G i k := ⟨_, rfl⟩
              have HZ := Lib.hid hz
              have hpB := hT.pB
              have hoB := hT.oB
              have kx : IntKind.i64.wrap (-(i : Int)) = -(i : Int) := IntWalk.i64_in _ (by omega)
              clear hT hq hz hPI
              go_upto_region 11 with fail
              refine RP.region_treeP (C := fun w' => ∃ x : SubW B wr, w' = x.val) (fun _ _ _ => False) [0, 1, 2, 3, 5] (OT.seq [4, 6, 7, 8, 9]) 10 (fun _ _ _ h => h.elim) (by kernel_rfl) (by kernel_rfl) (sub_start B wr) ?_
              simp only [pickL, List.getElem?_cons_zero, List.getElem?_cons_succ]
              repeat (go_big_quiet_step (fail))
              refine wpQuiet_nil ?_
              obtain ⟨w2, hw2⟩ : ∃ w2 : World, w2 = { wr with drawn := wr.drawn + 1 } := ⟨_, rfl⟩
              rw [← hw2]
              have hb2 : Below wr.heap.size wr w2 := by rw [hw2]; exact (Below.refl _ _).drew
              have hsz := HT.out.1.sz
              clear hw2
              simp only [RP.treeS, OT.seq, atOp, List.getElem?_cons_zero, List.getElem?_cons_succ]
              refine ⟨sub_of (hb2.mono hsz), ?_⟩
              refine RP.p_val (.int .i64 (-(i : Int))) w2 rfl (by go_simp) ?_; refine ⟨sub_of (hb2.mono hsz), ?_⟩
              refine RP.p_call 62 #[.agg #[.int .i64 n, .int .i64 b, .int .i64 m, .slice Aq lq cq], .int .i64 (-(i : Int)), .int .i64 (k : Int)] rfl (by go_simp) ?_
              refine (HCC.out w2 ((HT.out.2.in hsz).below hb2)).mono ?_
              rintro e w3 ⟨rfl, hb3⟩
              have hb3' := hb2.trans (hb3.mono hb2.size)
              refine .inl ⟨_, rfl, ?_⟩
              rw [← HZ.out]
              refine ⟨sub_of (hb3'.mono hsz), ?_⟩
              refine RP.p_val (.slice (some ⟨w3.heap.size, 0, none⟩) 1 1) (w3.alloc (.cells #[.int .i64 z] 3)) rfl (by go_simp) ?_
              have hal := (Below.refl w3.heap.size w3).alloc (Nat.le_refl _) (.cells #[.int .i64 z] 3)
              have hb4 := hb3'.trans (hal.mono hb3'.size)
              obtain ⟨v', w5, r1, r2, r3, -⟩ := ap_i64 w3 22 B v _ z (OwnI.keep hb3' HT.out.1.own) (by rw [tabN_length]; omega) (Nat.le_trans hsz hb3'.size)
              obtain ⟨A5, n5, hv5, -⟩ := r2.isL
              obtain ⟨m5, hm5⟩ : ∃ m5, m5 = (tabN G n (k * n + i) ++ [z]).length := ⟨_, rfl⟩
              rw [← hm5] at hv5
              clear hm5
              subst hv5
              have hb5 := (hb3'.mono hsz).grown r3 (Nat.le_trans hsz hb3'.size) (fun g hg => (HT.out.1.own.lt' g hg).1)
              refine ⟨sub_of (hb4.mono hsz), ?_⟩
              refine RP.p_val (.slice A5 m5 n5) w5 rfl (ap_exec _ _ 22 rfl v (.slice (some ⟨w3.heap.size, 0, none⟩) 1 1) _ w5 rfl rfl r1) ?_
              refine ⟨sub_of hb5, ?_⟩
              refine RP.p_val (.pointer (some ⟨ob, 3, none⟩)) w5 rfl (by go_simp) ?_
              refine ⟨sub_of hb5, ?_⟩
              have z1 := (hb5.cell (p := ⟨ob, 3, none⟩) hoB).trans o3
              have z2 : w5.frozen? ⟨ob, 3, none⟩ = false := frozen_of_row w5 ob 3 _ _ ((hb5.block _ hoB).trans HT.out.1.o)
              have T6 := HT.out.1.step hb5 r2
              rw [HZ.out, ← HTN.out] at T6
              have HT6 := Lib.hid (And.intro T6 (HT.out.2.step hb5 (.slice A5 m5 n5)))
              refine RP.p_skip (w5.setCell ⟨ob, 3, none⟩ (.slice A5 m5 n5)) rfl (by go_simp) ?_
              obtain ⟨w6, hw6⟩ : ∃ w6, w6 = w5.setCell ⟨ob, 3, none⟩ (.slice A5 m5 n5) := ⟨_, rfl⟩
              rw [← hw6] at HT6 ⊢
              clear hw6 T6 z1 z2 hb5 r1 r2 r3 hb4 hal hb3' hb3 hb2 HT o0 o1 o2 o3 o4 p0 p1 p2 p3 p4 hpB hoB HCC
              go_simp
              go_wp2
              go_roundw
              case rel => exact ⟨i + 1, by go_num, by omega, Lib.hid ⟨_, HT6.out⟩⟩
              case measure => simp [intOf]; omega
            · obtain rfl : n = i := by omega
              have din : decide ((n : Int) < (n : Int)) = false := decide_eq_false (by omega)
              have R2 := Lib.hid (show ∃ v, RW w wr B pb rb ob n b m (.slice Aq lq cq) (n : Int) y (m : Int) v (tabN G n ((k + 1) * n)) ∧ PIn wr B ob q Aq from by rw [Nat.add_mul, Nat.one_mul]; exact ⟨v, hT, hPI⟩)
              clear hq hT hPI
              go_wp2
              go_roundw
              case rel => exact ⟨k + 1, by go_num, by omega, R2⟩
              case measure => simp [intOf]; omega
        · obtain rfl : m = k := by omega
          have dkm : decide ((m : Int) < (m : Int)) = false := decide_eq_false (by omega)
          have HTE := Lib.hid hT
          clear hr hT hPI hlt
          obtain ⟨A1, n1, rfl, hL1⟩ := HTE.out.own.isL
          obtain ⟨l1, hl1⟩ : ∃ l1, l1 = (tabN G n (m * n)).length := ⟨_, rfl⟩
          have HRE1 := Lib.hid (HRE.out A1 n1 wr hL1)
          rw [← hl1] at HTE HRE1 o3
          clear hL1 hl1
          go_wp2_with fail
          refine HRE1.out.mono ?_
          rintro e w5 ⟨v5, rfl, ho5, hb5⟩
          rw [← HTT.out] at ho5 ⊢
          obtain ⟨A5, n5, rfl, -⟩ := ho5.isL
          have hr5 := HTE.out.r.keep hb5
          have HP := Lib.hid (put_ret hr5 (HTE.out.below.trans (hb5.mono HTE.out.below.size)) HTE.out.wr' T _ ho5 HTE.out.below.size (Array.getElem?_eq_some_iff.1 HTE.out.r).1)
          obtain ⟨r0, r1, r2, r3, r4⟩ := PBox.cells hr5
          have f0 : (w5).frozen? ⟨rb, 0, none⟩ = false := frozen_of_row (w5) (rb) 0 _ _ hr5
          have f1 : (w5).frozen? ⟨rb, 1, none⟩ = false := frozen_of_row (w5) (rb) 1 _ _ hr5
          have f2 : (w5).frozen? ⟨rb, 2, none⟩ = false := frozen_of_row (w5) (rb) 2 _ _ hr5
          have f3 : (w5).frozen? ⟨rb, 3, none⟩ = false := frozen_of_row (w5) (rb) 3 _ _ hr5
          clear ho5 hb5 hr5 HRE1 HTE HRE o0 o1 o2 o3 o4 p0 p1 p2 p3 p4
          go_wp2
          refine bodyPost_ret (v := .tuple #[.agg #[.int .i64 T.a, .int .i64 T.b, .int .i64 T.c, .slice A5 T.xs.length n5], .int .i64 0]) (ret_pat2 rfl rfl rfl HP.out.1) rfl ?_
          exact ⟨_, rfl, HP.out.2⟩
  · have d1 : (E == 0) = false := by rw [beq_eq_false_iff_ne]; exact hz
    have d2 : (E != 0) = true := by rw [bne_iff_ne]; exact hz
    have HT2 := Lib.hid (show T = zeroP by rw [HT.out, if_pos hz])
    have HP := Lib.hid (put_zero H1.out.2.1 H1.out.2.2 (by omega))
    obtain ⟨r0, r1, r2, r3, r4⟩ := PBox.cells H1.out.2.1
    have f0 : (w1).frozen? ⟨w.heap.size + 1, 0, none⟩ = false := frozen_of_row (w1) (w.heap.size + 1) 0 _ _ H1.out.2.1
    have f1 : (w1).frozen? ⟨w.heap.size + 1, 1, none⟩ = false := frozen_of_row (w1) (w.heap.size + 1) 1 _ _ H1.out.2.1
    have f2 : (w1).frozen? ⟨w.heap.size + 1, 2, none⟩ = false := frozen_of_row (w1) (w.heap.size + 1) 2 _ _ H1.out.2.1
    have f3 : (w1).frozen? ⟨w.heap.size + 1, 3, none⟩ = false := frozen_of_row (w1) (w.heap.size + 1) 3 _ _ H1.out.2.1
    clear hz HT HE H1
    go_wp2
    refine bodyPost_ret (v := .tuple #[.agg #[.int .i64 0, .int .i64 0, .int .i64 0, .slice none 0 0], .int .i64 E]) (ret_pat2 rfl rfl rfl HP.out.1) rfl ?_
    rw [HT2.out]
    exact OutP.zero HP.out.2
end Go.Proofs.YtgmokojdlbdjeaaGreatDoor
