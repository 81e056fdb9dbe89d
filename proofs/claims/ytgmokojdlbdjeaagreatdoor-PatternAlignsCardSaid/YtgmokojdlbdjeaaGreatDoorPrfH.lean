/-
  THE REFERENCE: Turn.
-/
import Derived.Test.YtgmokojdlbdjeaaGreatDoorPrfG
namespace Go.Proofs.YtgmokojdlbdjeaaGreatDoor
open Go.RowKit
attribute [local go_sem] sub_cell sub_frozen
attribute [local irreducible] RP.plainUpon RP.stepC
theorem PIn.set {w : World} {B ob : Nat} {q : PatD} {A : Option Addr} (h : PIn w B ob q A) (i : Nat) (u : Value) : PIn (w.setCell ⟨ob, i, none⟩ u) B ob q A := fun hp => by
  obtain ⟨b, o, rfl, h1, h2, h3⟩ := h hp
  exact ⟨b, o, rfl, h1, h2, fun j hj => (World.cell?_of_block (a := ⟨b, _, none⟩) (Below.heap_setCell w ⟨ob, i, none⟩ u b h2)).trans (h3 j hj)⟩
set_option maxRecDepth 100000 in
set_option maxHeartbeats 2000000 in
theorem rturn_any (p : PatD) (hl : p.xs.length ≤ 1000000) (A : Option Addr) (cap : Nat) (w : World) (hi : PatIn w p A) :
    Calls Tryz.prog 24 #[.agg #[.int .i64 p.a, .int .i64 p.b, .int .i64 p.c, .slice A p.xs.length cap]] w (OutP w (turnT p) (.int .i64 (valP p))) := by
  obtain ⟨T, hT⟩ : ∃ T, T = turnT p := ⟨_, rfl⟩
  obtain ⟨E, hE⟩ : ∃ E, E = valP p := ⟨_, rfl⟩
  rw [← hT, ← hE]
  unfold turnT at hT
  rw [← hE] at hT
  have HV := Lib.hid (fun w hi => rvalidateP_any p hl E hE.symm A cap w hi)
  have HT := Lib.hid hT
  have HE := Lib.hid hE
  have HI := Lib.hid hi
  clear hi hT hE
  obtain ⟨lq, hlq⟩ : ∃ lq, lq = p.xs.length := ⟨_, rfl⟩
  have HLQ := Lib.hid hlq
  rw [← hlq] at HV ⊢
  clear hlq
  obtain ⟨q, hq⟩ : ∃ q, q = p := ⟨_, rfl⟩
  obtain ⟨a, b, c, xs⟩ := p
  simp only at HV HLQ hl ⊢
  rw [← hq] at HV HI HT HE
  have HQ := Lib.hid hq
  clear hq
  go_enter Tryz.func24, Tryz.ntmps24
  go_wp2_with fail
  obtain ⟨a0, a1, a2, a3⟩ := al2 w (.cells #[.int .i64 a, .int .i64 b, .int .i64 c, .slice A lq cap] 24) (.cells #[.int .i64 0, .int .i64 0, .int .i64 0, .slice none 0 0] 24)
  obtain ⟨V, hV⟩ : ∃ V, V = (w.alloc (.cells #[.int .i64 a, .int .i64 b, .int .i64 c, .slice A lq cap] 24)).alloc (.cells #[.int .i64 0, .int .i64 0, .int .i64 0, .slice none 0 0] 24) := ⟨_, rfl⟩
  rw [← hV] at a0 a1 a2 a3 ⊢
  refine (HV.out V (HI.out.below a3)).mono ?_
  rintro e w1 ⟨rfl, hb1⟩
  have H1 := Lib.hid (show PBox w1 w.heap.size a b c (.slice A lq cap) ∧ PBox w1 (w.heap.size + 1) 0 0 0 (.slice none 0 0) ∧ Below w.heap.size w w1 from
    ⟨PBox.keep (w := V) a1 hb1, PBox.keep (w := V) a2 hb1, a3.trans (hb1.mono a3.size)⟩)
  clear hV a0 a1 a2 a3 HV hb1 V
  by_cases hz : E = 0
  · subst hz
    have hT := HT.out
    rw [if_neg (by simp)] at hT
    have hv : valP q = 0 := HE.out.symm
    have hg := valP_zero hv
    have hqa : q.a = a := by rw [HQ.out]
    have hqb : q.b = b := by rw [HQ.out]
    have hqc : q.c = c := by rw [HQ.out]
    have hqx : q.xs = xs := by rw [HQ.out]
    have ga0 := hg.a0
    have gb0 := hg.b0
    have gb1 := hg.b1
    have gc0 := hg.c0
    have ga1 := hg.a1
    have gc1 := hg.c1
    have gac := hg.ac
    rw [hqa] at ga0 ga1 gb1 gac
    rw [hqb] at gb0 gb1
    rw [hqc] at gc0 gc1 gac
    obtain ⟨At, Bt, Ct, ⟨h1, h2, h3, h4, h5, h6, h7⟩, h8, h9, h10, h11⟩ := turn_lat (b := b) ga0 gc0
    have hbase0 : Base (turnF (colF q)) At Bt Ct := by
      have := lst_pat hv
      rw [hqa, hqb, hqc] at this
      exact this.turn h1 h3 h8 h10
    have hAC : a * c = At * Ct := h5.symm
    have hdiv : (a * c).tdiv At = Ct := by rw [hAC, Int.mul_comm]; exact Int.mul_tdiv_cancel _ (by omega)
    obtain ⟨n, hn⟩ : ∃ n : Nat, At = n := ⟨At.toNat, by omega⟩
    obtain ⟨m, hm⟩ : ∃ m : Nat, Ct = m := ⟨Ct.toNat, by omega⟩
    subst hn
    subst hm
    have hn0 : 0 < n := by omega
    have hn144 : n ≤ 144 := by omega
    have hm144 : m ≤ 144 := by omega
    have hnm : n * m ≤ 144 := by
      rw [hAC, ← Int.natCast_mul] at gac
      omega
    obtain ⟨G, hG⟩ : ∃ G, G = turnF (colF q) := ⟨_, rfl⟩
    rw [← hG] at hT hbase0
    obtain ⟨ac, hac⟩ : ∃ ac, ac = a * c := ⟨_, rfl⟩
    have kac : IntKind.i64.wrap (a * c) = ac := by rw [hac]; exact IntWalk.i64_in _ (by have := Int.mul_nonneg (show 0 ≤ a by omega) (show 0 ≤ c by omega); omega)
    have kdv : ac.tdiv (n : Int) = (m : Int) := by rw [hac]; exact hdiv
    have kmm : IntKind.i64.wrap (m : Int) = (m : Int) := IntWalk.i64_in _ (by omega)
    have HLT := Lib.hid (fun dx dy (x0 : -1000000000 ≤ dx) (x1 : dx ≤ 1000000000) (y0 : -1000000000 ≤ dy) (y1 : dy ≤ 1000000000) wx => rlat_any a b c (.slice A lq cap) dx dy ga0 (by omega) gb0 (by omega) gc0 (by omega) x0 x1 y0 y1 wx)
    have HMIN := Lib.hid (And.intro h8 (And.intro h9 (And.intro h10 h11)))
    have HC := Lib.hid (fun (i k : Nat) (hi : i < n) (hk : k < m) w2 (hp2 : PatIn w2 q A) => (show Calls Tryz.prog 62 #[.agg #[.int .i64 a, .int .i64 b, .int .i64 c, .slice A lq cap], .int .i64 (k : Int), .int .i64 (-(i : Int))] w2 fun e w3 => e = .returned (.int .i64 (G i k)) ∧ Below w2.heap.size w2 w3 from by
      have := rcolor_any q hg.ok.wide A lq cap k (-(i : Int)) (by omega) (by omega) (by omega) (by omega) w2 (by rw [HLQ.out, ← hqx]; exact hp2)
      rw [hqa, hqb, hqc] at this
      rw [hG]; exact this))
    have HRE := Lib.hid (fun Ax cx wx hx => rleast_tab G n m Bt hbase0 (by omega) (by omega) (by omega) (by omega) (by omega) Ax cx wx hx)
    have HTT := Lib.hid hT
    clear hT hv hg hG hbase0 HT HE hqa hqb hqc hqx h8 h9 h10 h11 h5 hAC hdiv hac
    obtain ⟨q0, q1, q2, q3, q4⟩ := H1.out.1.cells
    go_wp2
    have R3a := RW.new (w := w) (w1 := w1) H1.out.1 H1.out.2.1 H1.out.2.2 (by omega) 1 0 1
    have hbw : Below w.heap.size w (w1.alloc (.cells #[.int .i64 1, .int .i64 0, .int .i64 1, .slice none 0 0] 24)) := H1.out.2.2.alloc H1.out.2.2.size _
    obtain ⟨W3, hW3⟩ : ∃ W3, W3 = w1.alloc (.cells #[.int .i64 1, .int .i64 0, .int .i64 1, .slice none 0 0] 24) := ⟨_, rfl⟩
    rw [← hW3] at R3a hbw ⊢
    have R3b : PIn W3 (w1.heap.size + 1) w1.heap.size q A := PIn.from HI.out hbw (by have := H1.out.2.2.size; omega) H1.out.2.2.size
    obtain ⟨ob, hob⟩ : ∃ ob, ob = w1.heap.size := ⟨_, rfl⟩
    obtain ⟨B, hB⟩ : ∃ B, B = ob + 1 := ⟨_, rfl⟩
    rw [← hob] at R3a R3b ⊢
    rw [← hB] at R3a R3b
    obtain ⟨pb, hpb⟩ : ∃ pb, pb = w.heap.size := ⟨_, rfl⟩
    obtain ⟨rb, hrb⟩ : ∃ rb, rb = w.heap.size + 1 := ⟨_, rfl⟩
    have R3c : RW w W3 B pb rb ob a b c (.slice A lq cap) 1 0 1 (.slice none 0 0) [] := by rw [hpb, hrb]; exact R3a
    have R0 := Lib.hid (And.intro R3c R3b)
    rw [← hrb, ← hpb]
    clear R3a R3b R3c hbw hW3 hob hB q0 q1 q2 q3 q4 H1 hpb hrb
    obtain ⟨Aq, hAq⟩ : ∃ Aq, Aq = A := ⟨_, rfl⟩
    obtain ⟨cq, hcq⟩ : ∃ cq, cq = cap := ⟨_, rfl⟩
    subst hAq
    subst hcq
    go_loopw [] (fun wr => ∃ x : Int, 1 ≤ x ∧ x ≤ (n : Int) ∧ Hid (RW w wr B pb rb ob a b c (.slice Aq lq cq) x 0 1 (.slice none 0 0) [] ∧ PIn wr B ob q Aq)) (fun wr => ((n : Int) - cellI wr ob 0).toNat)
    case atStart => exact ⟨1, by omega, by omega, R0⟩
    case round =>
      clear R0
      obtain ⟨x, hx1, hxn, hr⟩ := hrel
      have HMR := Lib.hid hr.out.1.x0.1
      obtain ⟨p0, p1, p2, p3, p4⟩ := hr.out.1.p.cells
      obtain ⟨o0, o1, o2, o3, o4⟩ := hr.out.1.o.cells
      have kx : IntKind.i64.wrap (-x) = -x := IntWalk.i64_in _ (by omega)
      go_wp2_with fail
      refine (HLT.out 0 (-x) (by omega) (by omega) (by omega) (by omega) wr).mono ?_
      rintro e w2 ⟨rfl, hb2⟩
      have R1 := Lib.hid (And.intro (hr.out.1.keep hb2) (hr.out.2.keep (hb2.mono hr.out.1.sz)))
      clear hr hb2 p0 p1 p2 p3 p4 o0 o1 o2 o3 o4
      obtain ⟨p0, p1, p2, p3, p4⟩ := R1.out.1.p.cells
      obtain ⟨o0, o1, o2, o3, o4⟩ := R1.out.1.o.cells
      by_cases hxe : x = (n : Int)
      · subst hxe
        rw [decide_eq_true HMIN.out.1]
        have f2 := R1.out.1.of 2
        have R2 := Lib.hid (And.intro (R1.out.1.set2 (m : Int)) (R1.out.2.set 2 (.int .i64 (m : Int))))
        clear R1
        go_wp2
        obtain ⟨w3, hw3⟩ : ∃ w3, w3 = w2.setCell ⟨ob, 2, none⟩ (.int .i64 (m : Int)) := ⟨_, rfl⟩
        rw [← hw3] at R2 ⊢
        clear hw3 p0 p1 p2 p3 p4 o0 o1 o2 o3 o4 f2
        go_loopw [] (fun wr => ∃ x : Int, 0 ≤ x ∧ x ≤ Bt ∧ Hid (RW w wr B pb rb ob a b c (.slice Aq lq cq) n x m (.slice none 0 0) [] ∧ PIn wr B ob q Aq)) (fun wr => (Bt - cellI wr ob 1).toNat)
        case atStart => exact ⟨0, by omega, by omega, R2⟩
        case round =>
          clear R2
          obtain ⟨x, hx0, hxB, hr⟩ := hrel
          have HMR2 := Lib.hid hr.out.1.x0.2.1
          obtain ⟨p0, p1, p2, p3, p4⟩ := hr.out.1.p.cells
          obtain ⟨o0, o1, o2, o3, o4⟩ := hr.out.1.o.cells
          have kx2 : IntKind.i64.wrap (-x) = -x := IntWalk.i64_in _ (by omega)
          go_wp2_with fail
          refine (HLT.out (m : Int) (-x) (by omega) (by omega) (by omega) (by omega) wr).mono ?_
          rintro e w4 ⟨rfl, hb4⟩
          have R1 := Lib.hid (And.intro (hr.out.1.keep hb4) (hr.out.2.keep (hb4.mono hr.out.1.sz)))
          clear hr hb4 p0 p1 p2 p3 p4 o0 o1 o2 o3 o4
          by_cases hxe : x = Bt
          · subst hxe
            rw [decide_eq_true HMIN.out.2.2.1]
            have R3 := Lib.hid (show ∃ v, RW w w4 B pb rb ob a b c (.slice Aq lq cq) (n : Int) x (m : Int) v (tabN G n (0 * n)) ∧ PIn w4 B ob q Aq from ⟨_, by rw [Nat.zero_mul]; exact R1.out.1, R1.out.2⟩)
            clear R1
            obtain ⟨y, hy⟩ : ∃ y, y = x := ⟨_, rfl⟩
            subst hy
            go_wp2
            go_loopw [6] (fun t wr => ∃ k : Nat, t = .int .i64 k ∧ k ≤ m ∧ Hid (∃ v, RW w wr B pb rb ob a b c (.slice Aq lq cq) (n : Int) y (m : Int) v (tabN G n (k * n)) ∧ PIn wr B ob q Aq)) (fun t _ => m - (intOf t).toNat)
            case atStart => exact ⟨0, rfl, by omega, R3⟩
            case round =>
              clear R3
              obtain ⟨k, rfl, hk, hr⟩ := hrel
              obtain ⟨v, hT, hPI⟩ := hr.out
              obtain ⟨o0, o1, o2, o3, o4⟩ := hT.o.cells
              obtain ⟨p0, p1, p2, p3, p4⟩ := hT.p.cells
              by_cases hlt : k < m
              · have dkm : decide ((k : Int) < (m : Int)) = true := decide_eq_true (by omega)
                have R0 := Lib.hid (show ∃ v, RW w wr B pb rb ob a b c (.slice Aq lq cq) (n : Int) y (m : Int) v (tabN G n (k * n + 0)) ∧ PIn wr B ob q Aq from ⟨v, hT, hPI⟩)
                clear hr hT hPI
                go_wp2
                go_loopw [7] (fun t wq => ∃ i : Nat, t = .int .i64 i ∧ i ≤ n ∧ Hid (∃ v, RW w wq B pb rb ob a b c (.slice Aq lq cq) (n : Int) y (m : Int) v (tabN G n (k * n + i)) ∧ PIn wq B ob q Aq)) (fun t _ => n - (intOf t).toNat)
                case atStart => exact ⟨0, rfl, by omega, R0⟩
                case round =>
                  clear R0 o0 o1 o2 o3 o4 p0 p1 p2 p3 p4 v
                  obtain ⟨i, rfl, hi, hq⟩ := hrel
                  obtain ⟨v, hT, hPI⟩ := hq.out
                  obtain ⟨p0, p1, p2, p3, p4⟩ := hT.p.cells
                  obtain ⟨o0, o1, o2, o3, o4⟩ := hT.o.cells
                  by_cases hil : i < n
                  · have din : decide ((i : Int) < (n : Int)) = true := decide_eq_true (by omega)
                    have HT := Lib.hid (And.intro hT hPI)
                    have hlen : k * n + i ≤ 1000000000 - 1 := by
                      have h1 : (k + 1) * n ≤ m * n := Nat.mul_le_mul_right n (by omega)
                      rw [Nat.add_mul, Nat.one_mul, Nat.mul_comm m n] at h1
                      omega
                    have HTN := Lib.hid (tabN_step (F := G) (k := k) hil)
                    have HCC := Lib.hid (HC.out i k hil hlt)
                    obtain ⟨z, hz⟩ : ∃ z, z = G i k := ⟨_, rfl⟩
                    have HZ := Lib.hid hz
                    have hpB := hT.pB
                    have hoB := hT.oB
                    have kx : IntKind.i64.wrap (-(i : Int)) = -(i : Int) := IntWalk.i64_in _ (by omega)
                    clear hT hq hz hPI
                    go_upto_region 16 with fail
                    refine RP.region_treeP (C := fun w' => ∃ x : SubW B wr, w' = x.val) (fun _ _ _ => False) [0, 1, 2, 3, 4] (OT.seq [5, 6, 7, 8, 9]) 10 (fun _ _ _ h => h.elim) (by kernel_rfl) (by kernel_rfl) (sub_start B wr) ?_
                    simp only [pickL, List.getElem?_cons_zero, List.getElem?_cons_succ]
                    repeat (go_big_quiet_step (fail))
                    refine wpQuiet_nil ?_
                    obtain ⟨w2, hw2⟩ : ∃ w2 : World, w2 = { wr with drawn := wr.drawn + 1 } := ⟨_, rfl⟩
                    rw [← hw2]
                    have hb2 : Below wr.heap.size wr w2 := by rw [hw2]; exact (Below.refl _ _).drew
                    have hsz := HT.out.1.sz
                    clear hw2
                    simp only [RP.treeS, OT.seq, atOp, List.getElem?_cons_zero, List.getElem?_cons_succ]
                    refine ⟨sub_of (hb2.mono hsz), ?_⟩
                    refine RP.p_val (.int .i64 (-(i : Int))) w2 rfl (by go_simp) ?_; refine ⟨sub_of (hb2.mono hsz), ?_⟩
                    refine RP.p_call 62 #[.agg #[.int .i64 a, .int .i64 b, .int .i64 c, .slice Aq lq cq], .int .i64 (k : Int), .int .i64 (-(i : Int))] rfl (by go_simp) ?_
                    refine (HCC.out w2 ((HT.out.2.in hsz).below hb2)).mono ?_
                    rintro e w3 ⟨rfl, hb3⟩
                    have hb3' := hb2.trans (hb3.mono hb2.size)
                    refine .inl ⟨_, rfl, ?_⟩
                    rw [← HZ.out]
                    refine ⟨sub_of (hb3'.mono hsz), ?_⟩
                    refine RP.p_val (.slice (some ⟨w3.heap.size, 0, none⟩) 1 1) (w3.alloc (.cells #[.int .i64 z] 3)) rfl (by go_simp) ?_
                    have hal := (Below.refl w3.heap.size w3).alloc (Nat.le_refl _) (.cells #[.int .i64 z] 3)
                    have hb4 := hb3'.trans (hal.mono hb3'.size)
                    obtain ⟨v', w5, r1, r2, r3, -⟩ := ap_i64 w3 22 B v _ z (OwnI.keep hb3' HT.out.1.own) (by rw [tabN_length]; omega) (Nat.le_trans hsz hb3'.size)
                    obtain ⟨A5, n5, hv5, -⟩ := r2.isL
                    obtain ⟨m5, hm5⟩ : ∃ m5, m5 = (tabN G n (k * n + i) ++ [z]).length := ⟨_, rfl⟩
                    rw [← hm5] at hv5
                    clear hm5
                    subst hv5
                    have hb5 := (hb3'.mono hsz).grown r3 (Nat.le_trans hsz hb3'.size) (fun g hg => (HT.out.1.own.lt' g hg).1)
                    refine ⟨sub_of (hb4.mono hsz), ?_⟩
                    refine RP.p_val (.slice A5 m5 n5) w5 rfl (ap_exec _ _ 22 rfl v (.slice (some ⟨w3.heap.size, 0, none⟩) 1 1) _ w5 rfl rfl r1) ?_
                    refine ⟨sub_of hb5, ?_⟩
                    refine RP.p_val (.pointer (some ⟨ob, 3, none⟩)) w5 rfl (by go_simp) ?_
                    refine ⟨sub_of hb5, ?_⟩
                    have z1 := (hb5.cell (p := ⟨ob, 3, none⟩) hoB).trans o3
                    have z2 : w5.frozen? ⟨ob, 3, none⟩ = false := frozen_of_row w5 ob 3 _ _ ((hb5.block _ hoB).trans HT.out.1.o)
                    have T6 := HT.out.1.step hb5 r2
                    rw [HZ.out, ← HTN.out] at T6
                    have HT6 := Lib.hid (And.intro T6 (HT.out.2.step hb5 (.slice A5 m5 n5)))
                    refine RP.p_skip (w5.setCell ⟨ob, 3, none⟩ (.slice A5 m5 n5)) rfl (by go_simp) ?_
                    obtain ⟨w6, hw6⟩ : ∃ w6, w6 = w5.setCell ⟨ob, 3, none⟩ (.slice A5 m5 n5) := ⟨_, rfl⟩
                    rw [← hw6] at HT6 ⊢
                    clear hw6 T6 z1 z2 hb5 r1 r2 r3 hb4 hal hb3' hb3 hb2 HT o0 o1 o2 o3 o4 p0 p1 p2 p3 p4 hpB hoB HCC
                    go_simp
                    go_wp2
                    go_roundw
                    case rel => exact ⟨i + 1, by go_num, by omega, Lib.hid ⟨_, HT6.out⟩⟩
                    case measure => simp [intOf]; omega
                  · obtain rfl : n = i := by omega
                    have din : decide ((n : Int) < (n : Int)) = false := decide_eq_false (by omega)
                    have R2 := Lib.hid (show ∃ v, RW w wr B pb rb ob a b c (.slice Aq lq cq) (n : Int) y (m : Int) v (tabN G n ((k + 1) * n)) ∧ PIn wr B ob q Aq from by rw [Nat.add_mul, Nat.one_mul]; exact ⟨v, hT, hPI⟩)
                    clear hq hT hPI
                    go_wp2
                    go_roundw
                    case rel => exact ⟨k + 1, by go_num, by omega, R2⟩
                    case measure => simp [intOf]; omega
              · obtain rfl : m = k := by omega
                have dkm : decide ((m : Int) < (m : Int)) = false := decide_eq_false (by omega)
                have HTE := Lib.hid hT
                clear hr hT hPI hlt
                obtain ⟨A1, n1, rfl, hL1⟩ := HTE.out.own.isL
                obtain ⟨l1, hl1⟩ : ∃ l1, l1 = (tabN G n (m * n)).length := ⟨_, rfl⟩
                have HRE1 := Lib.hid (HRE.out A1 n1 wr hL1)
                rw [← hl1] at HTE HRE1 o3
                clear hL1 hl1
                go_wp2_with fail
                refine HRE1.out.mono ?_
                rintro e w5 ⟨v5, rfl, ho5, hb5⟩
                rw [← HTT.out] at ho5 ⊢
                obtain ⟨A5, n5, rfl, -⟩ := ho5.isL
                have hr5 := HTE.out.r.keep hb5
                have HP := Lib.hid (put_ret hr5 (HTE.out.below.trans (hb5.mono HTE.out.below.size)) HTE.out.wr' T _ ho5 HTE.out.below.size (Array.getElem?_eq_some_iff.1 HTE.out.r).1)
                obtain ⟨r0, r1, r2, r3, r4⟩ := PBox.cells hr5
                have f0 : (w5).frozen? ⟨rb, 0, none⟩ = false := frozen_of_row (w5) (rb) 0 _ _ hr5
                have f1 : (w5).frozen? ⟨rb, 1, none⟩ = false := frozen_of_row (w5) (rb) 1 _ _ hr5
                have f2 : (w5).frozen? ⟨rb, 2, none⟩ = false := frozen_of_row (w5) (rb) 2 _ _ hr5
                have f3 : (w5).frozen? ⟨rb, 3, none⟩ = false := frozen_of_row (w5) (rb) 3 _ _ hr5
                clear ho5 hb5 hr5 HRE1 HTE HRE o0 o1 o2 o3 o4 p0 p1 p2 p3 p4
                go_wp2
                refine bodyPost_ret (v := .tuple #[.agg #[.int .i64 T.a, .int .i64 T.b, .int .i64 T.c, .slice A5 T.xs.length n5], .int .i64 0]) (ret_pat2 rfl rfl rfl HP.out.1) rfl ?_
                exact ⟨_, rfl, HP.out.2⟩
          · rw [decide_eq_false (HMIN.out.2.2.2 x hx0 (by omega))]
            obtain ⟨p0, p1, p2, p3, p4⟩ := R1.out.1.p.cells
            obtain ⟨o0, o1, o2, o3, o4⟩ := R1.out.1.o.cells
            have f1 := R1.out.1.of 1
            have ky : IntKind.i64.wrap (x + 1) = x + 1 := IntWalk.i64_in _ (by omega)
            have R2 := Lib.hid (And.intro (R1.out.1.set1 (x + 1)) (R1.out.2.set 1 (.int .i64 (x + 1))))
            have hm2 := R2.out.1.x0.2.1
            clear R1
            go_wp2
            go_roundw
            case rel => exact ⟨x + 1, by omega, by omega, R2⟩
            case measure => rw [hm2, HMR2.out]; omega
      · rw [decide_eq_false (HMIN.out.2.1 x (by omega) (by omega))]
        have f0 := R1.out.1.of 0
        have ky : IntKind.i64.wrap (x + 1) = x + 1 := IntWalk.i64_in _ (by omega)
        have R2 := Lib.hid (And.intro (R1.out.1.set0 (x + 1)) (R1.out.2.set 0 (.int .i64 (x + 1))))
        have hm2 := R2.out.1.x0.1
        clear R1
        go_wp2
        go_roundw
        case rel => exact ⟨x + 1, by omega, by omega, R2⟩
        case measure => rw [hm2, HMR.out]; omega
  · have d1 : (E == 0) = false := by rw [beq_eq_false_iff_ne]; exact hz
    have d2 : (E != 0) = true := by rw [bne_iff_ne]; exact hz
    have HT2 := Lib.hid (show T = zeroP by rw [HT.out, if_pos hz])
    have HP := Lib.hid (put_zero H1.out.2.1 H1.out.2.2 (by omega))
    obtain ⟨r0, r1, r2, r3, r4⟩ := PBox.cells H1.out.2.1
    have f0 : (w1).frozen? ⟨w.heap.size + 1, 0, none⟩ = false := frozen_of_row (w1) (w.heap.size + 1) 0 _ _ H1.out.2.1
    have f1 : (w1).frozen? ⟨w.heap.size + 1, 1, none⟩ = false := frozen_of_row (w1) (w.heap.size + 1) 1 _ _ H1.out.2.1
    have f2 : (w1).frozen? ⟨w.heap.size + 1, 2, none⟩ = false := frozen_of_row (w1) (w.heap.size + 1) 2 _ _ H1.out.2.1
    have f3 : (w1).frozen? ⟨w.heap.size + 1, 3, none⟩ = false := frozen_of_row (w1) (w.heap.size + 1) 3 _ _ H1.out.2.1
    clear hz HT HE H1
    go_wp2
    refine bodyPost_ret (v := .tuple #[.agg #[.int .i64 0, .int .i64 0, .int .i64 0, .slice none 0 0], .int .i64 E]) (ret_pat2 rfl rfl rfl HP.out.1) rfl ?_
    rw [HT2.out]
    exact OutP.zero HP.out.2
end Go.Proofs.YtgmokojdlbdjeaaGreatDoor
