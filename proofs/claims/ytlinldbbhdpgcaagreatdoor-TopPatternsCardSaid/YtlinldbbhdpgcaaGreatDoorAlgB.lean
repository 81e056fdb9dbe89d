/-
  THE PROGRAM: Align, the walk.
-/
import Derived.Test.YtlinldbbhdpgcaaGreatDoorAlgA
namespace Go.Proofs.YtlinldbbhdpgcaaGreatDoor
open Go.RowKit
attribute [local go_sem] iw4 iw5
attribute [local irreducible] RP.plainUpon RP.stepC
set_option maxRecDepth 100000 in
set_option maxHeartbeats 4000000 in
theorem palign_any (p q : PatD) (hl : p.xs.length ≤ 1000000) (hl2 : q.xs.length ≤ 1000000) (x y : Int) (f : Bool) (hs : AlS p q x y f) (A : Option Addr) (k : Nat) (D : Option Addr) (m : Nat) (w : World) (hi : PatIn w p A) (hq : PatIn w q D) :
    Calls Tryz.prog 18 #[.agg #[.int .i64 p.a, .int .i64 p.b, .int .i64 p.c, .slice A p.xs.length k], .agg #[.int .i64 q.a, .int .i64 q.b, .int .i64 q.c, .slice D q.xs.length m]] w fun e w' => e = .returned (.tuple #[.int .i64 x, .int .i64 y, .bool f, .int .i64 (twoZ p q)]) ∧ Below w.heap.size w w' := by
  have HC := Lib.hid (fun w hi hq => two_any p q hl hl2 A k D m w hi hq)
  obtain ⟨T, hT⟩ : ∃ T, T = twoT p q := ⟨_, rfl⟩
  have hz0 := fun h => twoZ_zero (p := p) (q := q) h
  have hTu : twoZ p q = 0 → T = (lst (colF p), lst (colF q)) := fun h => by rw [hT]; unfold twoT; rw [if_neg (by simp [h])]
  have hTz : twoZ p q ≠ 0 → T = (zeroP, zeroP) := fun h => by rw [hT]; unfold twoT; rw [if_pos h]
  have hEz : twoZ p q ≠ 0 → ¬ AlE p q := fun h he => h he.1
  obtain ⟨Z, hZ⟩ : ∃ Z, Z = twoZ p q := ⟨_, rfl⟩
  have HZZ := Lib.hid hZ
  rw [← hZ] at HC hz0 hTu hTz hEz
  rw [← hT] at HC
  rw [← hZ]
  have HI := Lib.hid (And.intro hi hq)
  have HS := Lib.hid hs
  have H01 := Lib.hid (And.intro hz0 (And.intro hTu (And.intro hTz hEz)))
  have hmf : ∀ (fn : Fn) (first cap : Array Value) (w : World), (Instr.makeFunc fn first cap).run Tryz.prog w = .ok (.func fn first cap) w := fun _ _ _ _ => rfl
  clear hi hq hz0 hTu hTz hEz hT hZ hs
  go_enter Tryz.func18, Tryz.ntmps18
  go_wp2_with fail
  obtain ⟨u0, u1, u2, u3, u4, u5⟩ := al4 w (.cells #[.int .i64 p.a, .int .i64 p.b, .int .i64 p.c, .slice A p.xs.length k] 24) (.cells #[.int .i64 q.a, .int .i64 q.b, .int .i64 q.c, .slice D q.xs.length m] 24) (.cells #[.int .i64 0] 3) (.cells #[.int .i64 0] 3)
  obtain ⟨V, hV⟩ : ∃ V, V = (((w.alloc (.cells #[.int .i64 p.a, .int .i64 p.b, .int .i64 p.c, .slice A p.xs.length k] 24)).alloc (.cells #[.int .i64 q.a, .int .i64 q.b, .int .i64 q.c, .slice D q.xs.length m] 24)).alloc (.cells #[.int .i64 0] 3)).alloc (.cells #[.int .i64 0] 3) := ⟨_, rfl⟩
  rw [← hV] at u0 u1 u2 u3 u4 u5 ⊢
  have HV := Lib.hid (show IBox V (w.heap.size + 1 + 1) 0 ∧ IBox V (w.heap.size + 1 + 1 + 1) 0 ∧ Below w.heap.size w V ∧ V.heap.size = w.heap.size + 4 from ⟨u3, u4, u5, u0⟩)
  refine (HC.out V (HI.out.1.below u5) (HI.out.2.below u5)).mono ?_
  clear hV u0 u1 u2 u3 u4 u5
  rintro e w1 ⟨A1, k1, A2, k2, rfl, i1, i2, hb1, o1, o2⟩
  obtain ⟨t1, t2⟩ := T
  simp only at i1 i2 o1 o2 ⊢
  obtain ⟨l1, hl1⟩ : ∃ l, l = t1.xs.length := ⟨_, rfl⟩
  obtain ⟨l2, hl2'⟩ : ∃ l, l = t2.xs.length := ⟨_, rfl⟩
  have HLL := Lib.hid (And.intro hl1 hl2')
  rw [HV.out.2.2.2] at o1 o2
  have H1 := Lib.hid (And.intro o1 (And.intro o2 (And.intro (HV.out.1.keep hb1) (And.intro (HV.out.2.1.keep hb1) (HV.out.2.2.1.trans (hb1.mono HV.out.2.2.1.size))))))
  rw [← hl1, ← hl2']
  clear i1 i2 hb1 HC HV HI o1 o2 hl1 hl2'
  go_upto_region 2 with fail
  obtain ⟨u0, u1, u2, u3⟩ := al2 w1 (.cells #[.int .i64 t1.a, .int .i64 t1.b, .int .i64 t1.c, .slice A1 l1 k1] 24) (.cells #[.int .i64 t2.a, .int .i64 t2.b, .int .i64 t2.c, .slice A2 l2 k2] 24)
  obtain ⟨V2, hV2⟩ : ∃ V, V = (w1.alloc (.cells #[.int .i64 t1.a, .int .i64 t1.b, .int .i64 t1.c, .slice A1 l1 k1] 24)).alloc (.cells #[.int .i64 t2.a, .int .i64 t2.b, .int .i64 t2.c, .slice A2 l2 k2] 24) := ⟨_, rfl⟩
  rw [← hV2] at u0 u1 u2 u3 ⊢
  have R0 := Lib.hid (show AW w V2 t1 t2 A1 k1 A2 k2 (w.heap.size + 1 + 1) (w.heap.size + 1 + 1 + 1) w1.heap.size (w1.heap.size + 1) 0 0 from by
    have h4 := (Array.getElem?_eq_some_iff.1 H1.out.2.2.2.1).1
    exact ⟨H1.out.2.2.1.keep u3, H1.out.2.2.2.1.keep u3, by rw [← HLL.out.1]; exact u1, by rw [← HLL.out.2]; exact u2, OwnI.keep u3 H1.out.1, OwnI.keep u3 H1.out.2.1, H1.out.2.2.2.2.trans (u3.mono H1.out.2.2.2.2.size), by omega, by omega, by omega, by omega⟩)
  obtain ⟨b4, hb4⟩ : ∃ b, b = w.heap.size + 1 + 1 := ⟨_, rfl⟩
  obtain ⟨b8, hb8⟩ : ∃ b, b = w1.heap.size := ⟨_, rfl⟩
  rw [← hb4, ← hb8] at R0 ⊢
  obtain ⟨b5, hb5⟩ : ∃ b, b = b4 + 1 := ⟨_, rfl⟩
  obtain ⟨b9, hb9⟩ : ∃ b, b = b8 + 1 := ⟨_, rfl⟩
  rw [← hb5, ← hb9] at R0 ⊢
  clear hV2 u0 u1 u2 u3 H1 hb4 hb5 hb8 hb9
  obtain ⟨q0, q1, q2, q3, q4⟩ := R0.out.p8.cells
  obtain ⟨r0, r1, r2, r3, r4⟩ := R0.out.p9.cells
  rw [← HLL.out.1] at q3
  rw [← HLL.out.2] at r3
  have c4 := R0.out.i4.cell
  have c5 := R0.out.i5.cell
  have f4 := R0.out.i4.frozen
  have f5 := R0.out.i5.frozen
  by_cases hz : Z = 0
  · subst hz
    have hTu := H01.out.2.1 rfl
    simp only [Prod.mk.injEq] at hTu
    have hne : ∀ h : ¬ (t1.a = t2.a ∧ t1.b = t2.b ∧ t1.c = t2.c), x = 0 ∧ y = 0 ∧ f = false := fun h => HS.out.no (fun he => h (by rw [hTu.1, hTu.2]; exact he.2))
    by_cases ha : t1.a = t2.a
    · by_cases hb : t1.b = t2.b
      · by_cases hc : t1.c = t2.c
        · have d1 : (t1.a != t2.a) = false := by simp [ha]
          have d2 : (t1.b != t2.b) = false := by simp [hb]
          have d3 : (t1.c != t2.c) = false := by simp [hc]
          obtain ⟨hv1, hv2⟩ := H01.out.1 rfl
          have he : AlE p q := ⟨HZZ.out.symm, by rw [← hTu.1, ← hTu.2]; exact ha, by rw [← hTu.1, ← hTu.2]; exact hb, by rw [← hTu.1, ← hTu.2]; exact hc⟩
          have g1 : GoodP t1 := by rw [hTu.1]; exact lst_good hv1
          have g2 : GoodP t2 := by rw [hTu.2]; exact lst_good hv2
          have hF1 : colF t1 = colF p := by rw [hTu.1]; exact (lst_pat hv1).lst_col
          have hF2 : colF t2 = colF q := by rw [hTu.2]; exact (lst_pat hv2).lst_col
          have hx2 : t2.xs = tabN (colF q) t2.a.toNat (t2.a.toNat * t2.c.toNat) := by
            have h := (lst_pat hv2).lst.2
            rw [← hTu.2] at h
            exact congrArg PatD.xs h
          have HMO := Lib.hid (fun i k hi hk hp => HS.out.more (i := i) (k := k) he (by rw [← hTu.1]; exact hi) (by rw [← hTu.1]; exact hk) hp)
          have hin : f = true → 0 ≤ x ∧ x < t1.a ∧ 0 ≤ y ∧ y < t1.c := fun e => by
            subst e
            obtain ⟨-, e1, e2, e3, e4, -⟩ := HS.out.in
            rw [hTu.1]; exact ⟨e1, e2, e3, e4⟩
          have hnon : f = false → x = 0 ∧ y = 0 := fun e => by subst e; exact HS.out.non
          have hl1 := HLL.out.1
          have hl2' := HLL.out.2
          obtain ⟨a1, b1, c1, xs1⟩ := t1
          obtain ⟨a2, b2, c2, xs2⟩ := t2
          simp only at ha hb hc d1 d2 d3 R0 q0 q1 q2 q3 q4 r0 r1 r2 r3 r4 hl1 hl2' HMO hin hx2 ⊢
          subst ha
          subst hb
          subst hc
          obtain ⟨N, rfl⟩ : ∃ N : Nat, a1 = N := ⟨a1.toNat, by have := g1.a0; simp only at this; omega⟩
          obtain ⟨M, rfl⟩ : ∃ M : Nat, c1 = M := ⟨c1.toNat, by have := g1.c0; simp only at this; omega⟩
          have gN0 : 0 < N := by have := g1.a0; simp only at this; omega
          have gN : N ≤ 144 := by have := g1.a1; simp only at this; omega
          have gM : M ≤ 144 := by have := g1.c1; simp only at this; omega
          have gNM : N * M ≤ 144 := by have := g1.ac; simp only at this; rw [← Int.natCast_mul] at this; omega
          rw [Int.toNat_natCast, Int.toNat_natCast] at hx2
          have hB1 := col_base g1.ok
          have hB2 := col_base g2.ok
          simp only at hB1 hB2
          rw [hF1] at hB1
          rw [hF2] at hB2
          have HAF := Lib.hid (fun w bx xb yb dx dy h hx hy hi h1 h2 => align_fun w bx xb yb ⟨N, b1, M, xs1⟩ A1 k1 dx dy h hx hy g1.ok hi h1 h2)
          rw [hF1] at HAF
          obtain ⟨F, hFF⟩ : ∃ F, F = colF p := ⟨_, rfl⟩
          obtain ⟨G, hGG⟩ : ∃ F, F = colF q := ⟨_, rfl⟩
          rw [← hFF] at HAF HMO hB1
          rw [← hGG] at HMO hB2 hx2
          have HTS := Lib.hid (fun i k : Nat => tab_same (hB1.shift (dx := (i : Int)) (dy := (k : Int))) hB2)
          rw [← hx2] at HTS
          have hlx2 : xs2.length = N * M := by rw [hx2, tabN_length]
          have HIN := Lib.hid hin
          have HNO := Lib.hid hnon
          have HL12 := Lib.hid (And.intro hl1 (And.intro hl2' hlx2))
          have R1 := Lib.hid (show ∃ dx dy, AW w V2 ⟨N, b1, M, xs1⟩ ⟨N, b1, M, xs2⟩ A1 k1 A2 k2 b4 b5 b8 b9 dx dy from ⟨_, _, R0.out⟩)
          have hfy : f = true → (0 : Int) ≤ y := fun e => (hin e).2.2.1
          have HFY := Lib.hid hfy
          clear hne hTu H01 HS he g1 g2 hF1 hF2 hx2 hB1 hB2 hFF hGG hlx2 hin hnon hl1 hl2' hv1 hv2 hfy R0 HLL HZZ
          go_upto_region 5 with fail
          clear d1 d2 d3 c4 c5 f4 f5 q0 q1 q2 q3 q4 r0 r1 r2 r3 r4
          go_loopw [44] (fun t wr => ∃ K : Nat, t = .int .i64 K ∧ K ≤ M ∧ Hid (f = true → (K : Int) ≤ y) ∧ Hid (∃ dx dy, AW w wr ⟨N, b1, M, xs1⟩ ⟨N, b1, M, xs2⟩ A1 k1 A2 k2 b4 b5 b8 b9 dx dy)) (fun t _ => M - (intOf t).toNat)
          case atStart => exact ⟨0, rfl, by omega, HFY, R1⟩
          case round =>
            clear R1 HFY
            obtain ⟨K, rfl, hK, hfK, hr⟩ := hrel
            obtain ⟨dx, dy, hT⟩ := hr.out
            by_cases hlt : K < M
            · have dl : decide ((K : Int) < (M : Int)) = true := decide_eq_true (by omega)
              have f5 := hT.i5.frozen
              have c5 := hT.i5.cell
              have R2 := Lib.hid (show ∃ dx, AW w (wr.setCell ⟨b5, 0, none⟩ (.int .i64 K)) ⟨N, b1, M, xs1⟩ ⟨N, b1, M, xs2⟩ A1 k1 A2 k2 b4 b5 b8 b9 dx K from ⟨_, hT.set5 K⟩)
              obtain ⟨q0, q1, q2, q3, q4⟩ := (hT.set5 K).p8.cells
              have HFI := Lib.hid (show f = true → (K : Int) < y ∨ ((K : Int) = y ∧ ((0 : Nat) : Int) ≤ x) from fun e => by
                have h1 := hfK.out e
                have h2 := (HIN.out e).1
                rcases Int.lt_or_eq_of_le h1 with h | h
                · exact .inl h
                · exact .inr ⟨h, h2⟩)
              clear hr hT hfK
              go_upto_region 7 with fail
              obtain ⟨W2, hW2⟩ : ∃ W, W = wr.setCell ⟨b5, 0, none⟩ (.int .i64 K) := ⟨_, rfl⟩
              rw [← hW2] at R2 q0 q1 q2 q3 q4 ⊢
              clear hW2 f5 c5
              go_upto_region 8 with fail
              clear q0 q1 q2 q3 q4
              go_loopw [49] (fun t wq => ∃ i : Nat, t = .int .i64 i ∧ i ≤ N ∧ Hid (f = true → (K : Int) < y ∨ ((K : Int) = y ∧ (i : Int) ≤ x)) ∧ Hid (∃ dx, AW w wq ⟨N, b1, M, xs1⟩ ⟨N, b1, M, xs2⟩ A1 k1 A2 k2 b4 b5 b8 b9 dx K)) (fun t _ => N - (intOf t).toNat)
              case atStart => exact ⟨0, rfl, by omega, HFI, R2⟩
              case round =>
                clear R2 HFI
                obtain ⟨i, rfl, hi, hfi, hr⟩ := hrel
                obtain ⟨dx, hT⟩ := hr.out
                by_cases hil : i < N
                · have dl2 : decide ((i : Int) < (N : Int)) = true := decide_eq_true (by omega)
                  have f4 := hT.i4.frozen
                  have c4 := hT.i4.cell
                  have R3 := Lib.hid (hT.set4 i)
                  have HM := Lib.hid (HMO.out i K (by omega) (by omega) hfi.out)
                  have HTB := Lib.hid (HTS.out i K)
                  clear hr hT
                  go_upto_region 10 with fail
                  obtain ⟨W3, hW3⟩ : ∃ W, W = wr.setCell ⟨b4, 0, none⟩ (.int .i64 i) := ⟨_, rfl⟩
                  rw [← hW3] at R3 ⊢
                  clear hW3 f4 c4
                  obtain ⟨q0, q1, q2, q3, q4⟩ := R3.out.p8.cells
                  have hfun := HAF.out W3 b8 b4 b5 i K R3.out.p8 R3.out.i4 R3.out.i5 R3.out.pin1 ⟨by omega, by omega⟩ ⟨by omega, by omega⟩
                  have htab := table_any (shiftF F i K) N b1 M _ N M b1 (by omega) (by omega) (by omega) W3 hfun
                  have HTAB := Lib.hid htab
                  clear hfun htab
                  go_wp2_with fail
                  refine HTAB.out.mono ?_
                  rintro e w3 ⟨v, rfl, ho3, hb3⟩
                  obtain ⟨A3, n3, rfl, hL3⟩ := ho3.isL
                  have R4 := Lib.hid (R3.out.keep hb3)
                  rw [tabN_length] at hL3 ⊢
                  have HL3 := Lib.hid hL3
                  clear R3 hb3 ho3 hL3 HTAB q0 q1 q2 q3 q4
                  go_upto_region 11 with fail
                  have hal := below_new w3 (.cells #[.int .i64 N, .int .i64 b1, .int .i64 M, .slice A3 (N * M) n3] 24)
                  have hn := PBox.new w3 N b1 M (.slice A3 (N * M) n3)
                  obtain ⟨W4, hW4⟩ : ∃ W, W = w3.alloc (.cells #[.int .i64 N, .int .i64 b1, .int .i64 M, .slice A3 (N * M) n3] 24) := ⟨_, rfl⟩
                  rw [← hW4] at hal hn ⊢
                  have R5 := Lib.hid (And.intro (R4.out.keep hal) (IsL.below hal HL3.out))
                  obtain ⟨q0, q1, q2, q3, q4⟩ := hn.cells
                  obtain ⟨r0, r1, r2, r3, r4⟩ := R5.out.1.p9.cells
                  simp only at r0 r1 r2 r3
                  rw [HL12.out.2.2] at r3
                  have heq := eqI_any A3 (N * M) n3 A2 (N * M) k2 (tabN (shiftF F i K) N (N * M)) xs2 W4 R5.out.2 (by have := R5.out.1.pin2; unfold PatIn at this; simp only at this; rw [HL12.out.2.2] at this; exact this) (by omega) (by omega)
                  obtain ⟨r, hr⟩ : ∃ r, r = decide (tabN (shiftF F i K) N (N * M) = xs2) := ⟨_, rfl⟩
                  rw [← hr] at heq
                  have HEQ := Lib.hid heq
                  have HRR := Lib.hid (show r = true ↔ f = true ∧ x = i ∧ y = K by rw [hr, decide_eq_true_iff, HTB.out]; exact HM.out)
                  clear hal hn hW4 R4 HL3 heq hr HTB HM
                  go_wp2_with fail
                  refine HEQ.out.mono ?_
                  rintro e w5 ⟨rfl, hb5⟩
                  have R6 := Lib.hid (R5.out.1.keep hb5)
                  clear R5 hb5 HEQ q0 q1 q2 q3 q4 r0 r1 r2 r3 r4
                  cases r with
                  | false =>
                    have hnot : ¬ (f = true ∧ x = i ∧ y = K) := fun h => by have := HRR.out.2 h; cases this
                    have HFI := Lib.hid (show f = true → (K : Int) < y ∨ ((K : Int) = y ∧ ((i + 1 : Nat) : Int) ≤ x) from fun e => by
                      rcases hfi.out e with h | ⟨h1, h2⟩
                      · exact .inl h
                      · have : x ≠ i := fun e2 => hnot ⟨e, e2, h1.symm⟩
                        exact .inr ⟨h1, by omega⟩)
                    have R7 := Lib.hid (show ∃ dx, AW w w5 ⟨N, b1, M, xs1⟩ ⟨N, b1, M, xs2⟩ A1 k1 A2 k2 b4 b5 b8 b9 dx K from ⟨_, R6.out⟩)
                    clear R6 HRR hnot hfi
                    go_wp2
                    go_roundw
                    case rel => exact ⟨i + 1, by go_num, by omega, HFI, R7⟩
                    case measure => simp [intOf]; omega
                  | true =>
                    obtain ⟨rfl, rfl, rfl⟩ := HRR.out.1 (by simp)
                    clear HRR hfi HMO HTS HIN HNO HAF
                    have hne : Nonempty (IW b4 b5 (i : Int) (K : Int)) := ⟨⟨w5, R6.out.i4, R6.out.i5⟩⟩
                    go_upto_region 12 with fail
                    refine RP.region_treeP (C := fun w' => ∃ v : IW b4 b5 (i : Int) (K : Int), w' = v.val) (fun _ _ _ => False) [0, 1] (.one 2 (.one 3 (.one 4 .nil))) 5 (fun _ _ _ h => h.elim) (by kernel_rfl) (by kernel_rfl) ⟨⟨{ w5 with drawn := w5.drawn + 1 }, R6.out.i4, R6.out.i5⟩, rfl⟩ ?_
                    simp only [pickL, List.getElem?_cons_zero, List.getElem?_cons_succ]
                    repeat (go_big_quiet_step (fail))
                    refine wpQuiet_nil ?_
                    obtain ⟨wx, hwx⟩ : ∃ wx : World, wx = { w5 with drawn := w5.drawn + 1 } := ⟨_, rfl⟩
                    have hbx : Below w5.heap.size w5 wx := by rw [hwx]; exact (Below.refl _ _).drew
                    rw [← hwx]
                    have R7 := Lib.hid (R6.out.keep hbx)
                    have R8 := Lib.hid (R7.out.set4 (i : Int))
                    have R9 := Lib.hid (R8.out.set5 (K : Int))
                    have c4 := R7.out.i4.cell
                    have f4 := R7.out.i4.frozen
                    have c5 := R8.out.i5.cell
                    have f5 := R8.out.i5.frozen
                    clear hwx hbx R6
                    simp only [RP.treeS, atOp, List.getElem?_cons_zero, List.getElem?_cons_succ]
                    refine ⟨⟨⟨_, R7.out.i4, R7.out.i5⟩, rfl⟩, ?_⟩
                    refine RP.p_skip (wx.setCell ⟨b4, 0, none⟩ (.int .i64 i)) rfl (by go_simp) ?_
                    refine ⟨⟨⟨_, R8.out.i4, R8.out.i5⟩, rfl⟩, ?_⟩
                    refine RP.p_skip ((wx.setCell ⟨b4, 0, none⟩ (.int .i64 i)).setCell ⟨b5, 0, none⟩ (.int .i64 K)) rfl (by go_simp) ?_
                    obtain ⟨W9, hW9⟩ : ∃ W, W = (wx.setCell ⟨b4, 0, none⟩ (.int .i64 i)).setCell ⟨b5, 0, none⟩ (.int .i64 K) := ⟨_, rfl⟩
                    rw [← hW9] at R9 ⊢
                    clear hW9 c4 f4 c5 f5 R7 R8
                    have c4 := R9.out.i4.cell
                    have c5 := R9.out.i5.cell
                    refine ⟨⟨⟨_, R9.out.i4, R9.out.i5⟩, rfl⟩, ?_⟩
                    refine RP.p_val (.bool true) W9 rfl (by go_simp) ?_
                    refine ⟨⟨⟨_, R9.out.i4, R9.out.i5⟩, rfl⟩, ?_⟩
                    refine RP.p_val (.int .i64 0) W9 rfl (by go_simp) ?_
                    go_simp
                    go_wp2
                    refine bodyPost_ret (v := .tuple #[.int .i64 i, .int .i64 K, .bool true, .int .i64 0]) (by simp only [results, Tryz.results18]; go_simp) rfl ⟨rfl, ?_⟩
                    exact R9.out.b
                · obtain rfl : N = i := by omega
                  have dl2 : decide ((N : Int) < (N : Int)) = false := decide_eq_false (by omega)
                  have HF2 := Lib.hid (show f = true → ((K + 1 : Nat) : Int) ≤ y from fun e => by
                    have h1 := hfi.out e
                    have h2 := (HIN.out e).2.1
                    omega)
                  have R3 := Lib.hid (show ∃ dx dy, AW w wr ⟨N, b1, M, xs1⟩ ⟨N, b1, M, xs2⟩ A1 k1 A2 k2 b4 b5 b8 b9 dx dy from ⟨_, _, hT⟩)
                  clear hr hT hfi
                  go_wp2
                  go_roundw
                  case rel => exact ⟨K + 1, by go_num, by omega, HF2, R3⟩
                  case measure => simp [intOf]; omega
            · obtain rfl : M = K := by omega
              have dl : decide ((M : Int) < (M : Int)) = false := decide_eq_false (by omega)
              have hff : f = false := by
                cases f with
                | false => rfl
                | true =>
                  have h1 := hfK.out rfl
                  have h2 := (HIN.out rfl).2.2.2
                  omega
              obtain ⟨rfl, rfl⟩ := HNO.out hff
              subst hff
              have c4 := hT.i4.cell
              have c5 := hT.i5.cell
              have f4 := hT.i4.frozen
              have f5 := hT.i5.frozen
              have c5' := (hT.set4 0).i5.cell
              have f5' := (hT.set4 0).i5.frozen
              have R9 := Lib.hid ((hT.set4 0).set5 0)
              clear hr hT hfK hlt
              go_wp2
              obtain ⟨W9, hW9⟩ : ∃ W, W = (wr.setCell ⟨b4, 0, none⟩ (.int .i64 0)).setCell ⟨b5, 0, none⟩ (.int .i64 0) := ⟨_, rfl⟩
              rw [← hW9] at R9 ⊢
              clear hW9 c4 c5 f4 f5 c5' f5'
              have c4 := R9.out.i4.cell
              have c5 := R9.out.i5.cell
              refine bodyPost_ret (v := .tuple #[.int .i64 0, .int .i64 0, .bool false, .int .i64 0]) (by simp only [results, Tryz.results18]; go_simp) rfl ⟨rfl, ?_⟩
              exact R9.out.b
        · have d1 : (t1.a != t2.a) = false := by simp [ha]
          have d2 : (t1.b != t2.b) = false := by simp [hb]
          have d3 : (t1.c != t2.c) = true := by rw [bne_iff_ne]; exact hc
          obtain ⟨rfl, rfl, rfl⟩ := hne (fun h => hc h.2.2)
          clear hne ha hb hc hTu H01 HS
          have R9 := Lib.hid ((R0.out.set4 0).set5 0)
          have c5' := (R0.out.set4 0).i5.cell
          have f5' := (R0.out.set4 0).i5.frozen
          go_wp2
          obtain ⟨W9, hW9⟩ : ∃ W, W = (V2.setCell ⟨b4, 0, none⟩ (.int .i64 0)).setCell ⟨b5, 0, none⟩ (.int .i64 0) := ⟨_, rfl⟩
          rw [← hW9] at R9 ⊢
          clear hW9 c4 c5 f4 f5 c5' f5' q0 q1 q2 q3 q4 r0 r1 r2 r3 r4 R0
          have c4 := R9.out.i4.cell
          have c5 := R9.out.i5.cell
          refine bodyPost_ret (v := .tuple #[.int .i64 0, .int .i64 0, .bool false, .int .i64 0]) (by simp only [results, Tryz.results18]; go_simp) rfl ⟨rfl, ?_⟩
          exact R9.out.b
      · have d1 : (t1.a != t2.a) = false := by simp [ha]
        have d2 : (t1.b != t2.b) = true := by rw [bne_iff_ne]; exact hb
        obtain ⟨rfl, rfl, rfl⟩ := hne (fun h => hb h.2.1)
        clear hne ha hb hTu H01 HS
        have R9 := Lib.hid ((R0.out.set4 0).set5 0)
        have c5' := (R0.out.set4 0).i5.cell
        have f5' := (R0.out.set4 0).i5.frozen
        go_wp2
        obtain ⟨W9, hW9⟩ : ∃ W, W = (V2.setCell ⟨b4, 0, none⟩ (.int .i64 0)).setCell ⟨b5, 0, none⟩ (.int .i64 0) := ⟨_, rfl⟩
        rw [← hW9] at R9 ⊢
        clear hW9 c4 c5 f4 f5 c5' f5' q0 q1 q2 q3 q4 r0 r1 r2 r3 r4 R0
        have c4 := R9.out.i4.cell
        have c5 := R9.out.i5.cell
        refine bodyPost_ret (v := .tuple #[.int .i64 0, .int .i64 0, .bool false, .int .i64 0]) (by simp only [results, Tryz.results18]; go_simp) rfl ⟨rfl, ?_⟩
        exact R9.out.b
    · have d1 : (t1.a != t2.a) = true := by rw [bne_iff_ne]; exact ha
      obtain ⟨rfl, rfl, rfl⟩ := hne (fun h => ha h.1)
      clear hne ha hTu H01 HS
      have R9 := Lib.hid ((R0.out.set4 0).set5 0)
      have c5' := (R0.out.set4 0).i5.cell
      have f5' := (R0.out.set4 0).i5.frozen
      go_wp2
      obtain ⟨W9, hW9⟩ : ∃ W, W = (V2.setCell ⟨b4, 0, none⟩ (.int .i64 0)).setCell ⟨b5, 0, none⟩ (.int .i64 0) := ⟨_, rfl⟩
      rw [← hW9] at R9 ⊢
      clear hW9 c4 c5 f4 f5 c5' f5' q0 q1 q2 q3 q4 r0 r1 r2 r3 r4 R0
      have c4 := R9.out.i4.cell
      have c5 := R9.out.i5.cell
      refine bodyPost_ret (v := .tuple #[.int .i64 0, .int .i64 0, .bool false, .int .i64 0]) (by simp only [results, Tryz.results18]; go_simp) rfl ⟨rfl, ?_⟩
      exact R9.out.b
  · have d1 : (Z == 0) = false := by rw [beq_eq_false_iff_ne]; exact hz
    have d2 : (Z != 0) = true := by rw [bne_iff_ne]; exact hz
    obtain ⟨rfl, rfl, rfl⟩ := HS.out.no (H01.out.2.2.2 hz)
    clear hz H01 HS
    have R9 := Lib.hid ((R0.out.set4 0).set5 0)
    have c5' := (R0.out.set4 0).i5.cell
    have f5' := (R0.out.set4 0).i5.frozen
    go_wp2
    obtain ⟨W9, hW9⟩ : ∃ W, W = (V2.setCell ⟨b4, 0, none⟩ (.int .i64 0)).setCell ⟨b5, 0, none⟩ (.int .i64 0) := ⟨_, rfl⟩
    rw [← hW9] at R9 ⊢
    clear hW9 c4 c5 f4 f5 c5' f5' q0 q1 q2 q3 q4 r0 r1 r2 r3 r4 R0
    have c4 := R9.out.i4.cell
    have c5 := R9.out.i5.cell
    refine bodyPost_ret (v := .tuple #[.int .i64 0, .int .i64 0, .bool false, .int .i64 Z]) (by simp only [results, Tryz.results18]; go_simp) rfl ⟨rfl, ?_⟩
    exact R9.out.b
end Go.Proofs.YtlinldbbhdpgcaaGreatDoor
