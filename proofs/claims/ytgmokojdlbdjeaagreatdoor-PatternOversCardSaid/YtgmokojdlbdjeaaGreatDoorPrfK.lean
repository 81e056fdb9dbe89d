/-
  THE REFERENCE: told; Swell.
-/
import Derived.Test.YtgmokojdlbdjeaaGreatDoorPrfI
namespace Go.Proofs.YtgmokojdlbdjeaaGreatDoor
open Go.RowKit
attribute [local go_sem] sub_cell sub_frozen
attribute [local irreducible] RP.plainUpon RP.stepC
set_option maxRecDepth 100000 in
set_option maxHeartbeats 1000000 in
theorem told_any (G : Int → Int → Int) (n m : Nat) (y : Int) (hB : Base G n y m) (hn2 : n ≤ 100000) (hm2 : m ≤ 100000) (hnm : n * m ≤ 1000000) (hy0 : 0 ≤ y) (hy1 : y ≤ 100000) (A : Option Addr) (cap : Nat) (w : World) (hi : IsL w A (tabN G n (m * n)).length (tabN G n (m * n))) :
    Calls Tryz.prog 77 #[.agg #[.int .i64 n, .int .i64 y, .int .i64 m, .slice A (tabN G n (m * n)).length cap]] w (OutP w (resT G) (.int .i64 (resZ G))) := by
  have hre := fun wx hx => rleast_tab G n m y hB hn2 hm2 hnm hy0 hy1 A cap wx hx
  obtain ⟨h1, h2⟩ := hB.lst
  have hla := hB.lst_cells
  have hl0 := h1.a0
  have hl1 := h1.c0
  obtain ⟨T, hT⟩ : ∃ T, T = lst G := ⟨_, rfl⟩
  obtain ⟨R, hR⟩ : ∃ R, R = resT G := ⟨_, rfl⟩
  obtain ⟨Z, hZ⟩ : ∃ Z, Z = resZ G := ⟨_, rfl⟩
  rw [← hR, ← hZ]
  unfold resT at hR
  unfold resZ at hZ
  rw [← hT] at hre hR hZ hla hl0 hl1
  obtain ⟨l, hl⟩ : ∃ l, l = (tabN G n (m * n)).length := ⟨_, rfl⟩
  have HI := Lib.hid hi
  rw [← hl] at hre ⊢
  have HRE := Lib.hid hre
  have HR := Lib.hid (And.intro hR hZ)
  have hnm2 : (n : Int) * m ≤ 1000000 := by rw [← Int.natCast_mul]; omega
  obtain ⟨ar, har⟩ : ∃ ar, ar = T.a * T.c := ⟨_, rfl⟩
  have har0 : 0 ≤ ar := by rw [har]; exact Int.mul_nonneg (by omega) (by omega)
  have kar : IntKind.i64.wrap (T.a * T.c) = ar := by rw [har]; exact IntWalk.i64_in _ (by omega)
  rw [← har] at HR
  clear hi hre h1 h2 hla hl0 hl1 hT hR hZ har
  have hl' := Lib.hid hl
  clear hl
  go_enter Tryz.func77, Tryz.ntmps77
  go_wp2_with fail
  obtain ⟨a0, a1, a2, a3⟩ := al2 w (.cells #[.int .i64 n, .int .i64 y, .int .i64 m, .slice A l cap] 24) (.cells #[.int .i64 0, .int .i64 0, .int .i64 0, .slice none 0 0] 24)
  obtain ⟨V, hV⟩ : ∃ V, V = (w.alloc (.cells #[.int .i64 n, .int .i64 y, .int .i64 m, .slice A l cap] 24)).alloc (.cells #[.int .i64 0, .int .i64 0, .int .i64 0, .slice none 0 0] 24) := ⟨_, rfl⟩
  rw [← hV] at a0 a1 a2 a3 ⊢
  refine (HRE.out V (by rw [hl'.out]; exact IsL.below a3 HI.out)).mono ?_
  rintro e w1 ⟨v, rfl, hown, hb1⟩
  have H1 := Lib.hid (show PBox w1 (w.heap.size + 1) 0 0 0 (.slice none 0 0) ∧ Below w.heap.size w w1 from ⟨PBox.keep (w := V) a2 hb1, a3.trans (hb1.mono a3.size)⟩)
  have hsz : w.heap.size + 1 < V.heap.size := by omega
  obtain ⟨A1, k1, rfl, -⟩ := hown.isL
  have HO := Lib.hid (And.intro hown hsz)
  clear hV a0 a1 a2 a3 hb1 hown hsz HRE
  go_upto_region 2 with fail
  have hbn := below_new w1 (.cells #[.int .i64 T.a, .int .i64 T.b, .int .i64 T.c, .slice A1 T.xs.length k1] 24)
  have hbo : PBox (w1.alloc (.cells #[.int .i64 T.a, .int .i64 T.b, .int .i64 T.c, .slice A1 T.xs.length k1] 24)) w1.heap.size T.a T.b T.c (.slice A1 T.xs.length k1) := PBox.new w1 _ _ _ _
  obtain ⟨W2, hW2⟩ : ∃ W2, W2 = w1.alloc (.cells #[.int .i64 T.a, .int .i64 T.b, .int .i64 T.c, .slice A1 T.xs.length k1] 24) := ⟨_, rfl⟩
  rw [← hW2] at hbn hbo ⊢
  have hr2 := H1.out.1.keep hbn
  have hbw := H1.out.2.trans (hbn.mono H1.out.2.size)
  have hown2 := OwnI.keep hbn HO.out.1
  have hne : w.heap.size + 1 ≠ w1.heap.size := by have := (Array.getElem?_eq_some_iff.1 H1.out.1).1; omega
  obtain ⟨q0, q1, q2, q3, q4⟩ := hbo.cells
  clear hW2 hbo
  by_cases h144 : 144 < ar
  · have d1 : decide (144 < ar) = true := decide_eq_true h144
    obtain ⟨hR, hZ⟩ := HR.out
    rw [if_neg (by omega)] at hR hZ
    subst hZ
    have HT2 := Lib.hid hR
    have HP := Lib.hid (put_zero hr2 hbw (by omega))
    obtain ⟨r0, r1, r2, r3, r4⟩ := PBox.cells hr2
    have f0 : (W2).frozen? ⟨w.heap.size + 1, 0, none⟩ = false := frozen_of_row (W2) (w.heap.size + 1) 0 _ _ hr2
    have f1 : (W2).frozen? ⟨w.heap.size + 1, 1, none⟩ = false := frozen_of_row (W2) (w.heap.size + 1) 1 _ _ hr2
    have f2 : (W2).frozen? ⟨w.heap.size + 1, 2, none⟩ = false := frozen_of_row (W2) (w.heap.size + 1) 2 _ _ hr2
    have f3 : (W2).frozen? ⟨w.heap.size + 1, 3, none⟩ = false := frozen_of_row (W2) (w.heap.size + 1) 3 _ _ hr2
    clear hR HR h144 hbn hr2 hbw hown2
    go_wp2
    refine bodyPost_ret (v := .tuple #[.agg #[.int .i64 0, .int .i64 0, .int .i64 0, .slice none 0 0], .int .i64 4]) (ret_pat2 rfl rfl rfl HP.out.1) rfl ?_
    rw [HT2.out]
    exact OutP.zero HP.out.2
  · have d1 : decide (144 < ar) = false := decide_eq_false h144
    obtain ⟨hR, hZ⟩ := HR.out
    rw [if_pos (by omega)] at hR hZ
    subst hZ
    subst hR
    have HP := Lib.hid (put_ret hr2 hbw (by omega) R _ hown2 (by have := HO.out.2; omega) HO.out.2)
    obtain ⟨r0, r1, r2, r3, r4⟩ := PBox.cells hr2
    have f0 : (W2).frozen? ⟨w.heap.size + 1, 0, none⟩ = false := frozen_of_row (W2) (w.heap.size + 1) 0 _ _ hr2
    have f1 : (W2).frozen? ⟨w.heap.size + 1, 1, none⟩ = false := frozen_of_row (W2) (w.heap.size + 1) 1 _ _ hr2
    have f2 : (W2).frozen? ⟨w.heap.size + 1, 2, none⟩ = false := frozen_of_row (W2) (w.heap.size + 1) 2 _ _ hr2
    have f3 : (W2).frozen? ⟨w.heap.size + 1, 3, none⟩ = false := frozen_of_row (W2) (w.heap.size + 1) 3 _ _ hr2
    clear HR h144 hbn hr2 hbw hown2
    go_wp2
    refine bodyPost_ret (v := .tuple #[.agg #[.int .i64 R.a, .int .i64 R.b, .int .i64 R.c, .slice A1 R.xs.length k1], .int .i64 0]) (ret_pat2 rfl rfl rfl HP.out.1) rfl ?_
    exact ⟨_, rfl, HP.out.2⟩
set_option maxRecDepth 100000 in
set_option maxHeartbeats 2000000 in
theorem rswell_any (p : PatD) (hl : p.xs.length ≤ 1000000) (t : Int) (A : Option Addr) (cap : Nat) (w : World) (hi : PatIn w p A) :
    Calls Tryz.prog 32 #[.agg #[.int .i64 p.a, .int .i64 p.b, .int .i64 p.c, .slice A p.xs.length cap], .int .i64 t] w (OutP w (sweT p t) (.int .i64 (sweE p t))) := by
  obtain ⟨T, hT⟩ : ∃ T, T = sweT p t := ⟨_, rfl⟩
  obtain ⟨Z, hZ⟩ : ∃ Z, Z = sweE p t := ⟨_, rfl⟩
  obtain ⟨Y, hY⟩ : ∃ Y, Y = sweZ p t := ⟨_, rfl⟩
  obtain ⟨E, hE⟩ : ∃ E, E = valP p := ⟨_, rfl⟩
  rw [← hT, ← hZ]
  unfold sweT at hT
  unfold sweE at hZ
  rw [← hY] at hT hZ
  have HY := Lib.hid hY
  unfold sweZ at hY
  rw [← hE] at hY
  have HYU := Lib.hid hY
  have HV := Lib.hid (fun w hi => rvalidateP_any p hl E hE.symm A cap w hi)
  have HT := Lib.hid (And.intro hT hZ)
  have HE := Lib.hid hE
  have HI := Lib.hid hi
  have hwi := fun w => pwithin_any t 1 12 _ rfl w
  obtain ⟨f, hf⟩ : ∃ f, f = (decide (1 ≤ t) && decide (t ≤ 12)) := ⟨_, rfl⟩
  rw [← hf] at hwi
  have HWI := Lib.hid hwi
  have HF := Lib.hid hf
  clear hi hT hE hZ hY hwi hf
  go_enter Tryz.func32, Tryz.ntmps32
  go_wp2_with fail
  obtain ⟨a0, a1, a2, a3⟩ := al2 w (.cells #[.int .i64 p.a, .int .i64 p.b, .int .i64 p.c, .slice A p.xs.length cap] 24) (.cells #[.int .i64 0, .int .i64 0, .int .i64 0, .slice none 0 0] 24)
  obtain ⟨V, hV⟩ : ∃ V, V = (w.alloc (.cells #[.int .i64 p.a, .int .i64 p.b, .int .i64 p.c, .slice A p.xs.length cap] 24)).alloc (.cells #[.int .i64 0, .int .i64 0, .int .i64 0, .slice none 0 0] 24) := ⟨_, rfl⟩
  rw [← hV] at a0 a1 a2 a3 ⊢
  refine (HV.out V (HI.out.below a3)).mono ?_
  rintro e w1 ⟨rfl, hb1⟩
  have H1 := Lib.hid (show PBox w1 w.heap.size p.a p.b p.c (.slice A p.xs.length cap) ∧ PBox w1 (w.heap.size + 1) 0 0 0 (.slice none 0 0) ∧ Below w.heap.size w w1 from
    ⟨PBox.keep (w := V) a1 hb1, PBox.keep (w := V) a2 hb1, a3.trans (hb1.mono a3.size)⟩)
  clear hV a0 a1 a2 a3 HV hb1 V
  by_cases hz : E = 0
  · subst hz
    have hY := HYU.out
    rw [if_neg (by simp)] at hY
    cases f with
    | false =>
      have ht : t < 1 ∨ 12 < t := by
        have := HF.out
        rcases Int.lt_or_le t 1 with h | h
        · exact .inl h
        · rcases Int.lt_or_le 12 t with h2 | h2
          · exact .inr h2
          · rw [decide_eq_true h, decide_eq_true h2] at this; cases this
      rw [if_pos ht] at hY
      have HT2 := Lib.hid (show T = zeroP ∧ Z = 1 by rw [HT.out.1, HT.out.2, hY, if_pos (by decide), if_pos (by decide)]; exact ⟨rfl, rfl⟩)
      have HP := Lib.hid (put_zero H1.out.2.1 H1.out.2.2 (by omega))
      have hZ1 := HT2.out.2
      subst hZ1
      obtain ⟨r0, r1, r2, r3, r4⟩ := PBox.cells H1.out.2.1
      have f0 : (w1).frozen? ⟨w.heap.size + 1, 0, none⟩ = false := frozen_of_row (w1) (w.heap.size + 1) 0 _ _ H1.out.2.1
      have f1 : (w1).frozen? ⟨w.heap.size + 1, 1, none⟩ = false := frozen_of_row (w1) (w.heap.size + 1) 1 _ _ H1.out.2.1
      have f2 : (w1).frozen? ⟨w.heap.size + 1, 2, none⟩ = false := frozen_of_row (w1) (w.heap.size + 1) 2 _ _ H1.out.2.1
      have f3 : (w1).frozen? ⟨w.heap.size + 1, 3, none⟩ = false := frozen_of_row (w1) (w.heap.size + 1) 3 _ _ H1.out.2.1
      clear HT HE H1 HY HYU hY ht
      go_wp2_with fail
      refine (HWI.out _).mono ?_
      rintro e w2 ⟨rfl, rfl⟩
      go_wp2
      refine bodyPost_ret (v := .tuple #[.agg #[.int .i64 0, .int .i64 0, .int .i64 0, .slice none 0 0], .int .i64 1]) (ret_pat2 rfl rfl rfl HP.out.1) rfl ?_
      rw [HT2.out.1]
      exact OutP.zero HP.out.2
    | true =>
      have ht : 1 ≤ t ∧ t ≤ 12 := by
        have := HF.out.symm
        rw [Bool.and_eq_true, decide_eq_true_eq, decide_eq_true_eq] at this
        exact this
      rw [if_neg (by omega)] at hY
      obtain ⟨hT, hZ⟩ := HT.out
      rw [hY, if_neg (by simp)] at hT hZ
      have hv : valP p = 0 := HE.out.symm
      have hg := valP_zero hv
      obtain ⟨hLst, hLeq⟩ := (lst_pat hv).lst
      have hLc := (lst_pat hv).lst_col
      have hLa := (lst_pat hv).lst_cells
      have hLg := (lst_pat hv).good (by have := hg.ac; omega) hg.cols
      have hrl := fun wx hx => rleast_q p hg.ok.wide A cap wx hx
      obtain ⟨G, hG⟩ : ∃ G, G = sweF t (colF p) := ⟨_, rfl⟩
      rw [← hG] at hT hZ
      obtain ⟨q, hq⟩ : ∃ q, q = lst (colF p) := ⟨_, rfl⟩
      rw [← hq] at hrl hLst hLg hLc
      have la0 := hLg.a0
      have la1 := hLg.a1
      have lb0 := hLg.b0
      have lb1 := hLg.b1
      have lc0 := hLg.c0
      have lc1 := hLg.c1
      have lac := hLg.ac
      have hbase : Base G (q.a * t) (q.b * t) (q.c * t) := by rw [hG]; exact hLst.toBase.swell (by omega)
      have HQW := Lib.hid (And.intro hLg hLc)
      obtain ⟨a, b, c, xs⟩ := q
      simp only at la0 la1 lb0 lb1 lc0 lc1 lac hbase hrl
      obtain ⟨n, hn⟩ : ∃ n : Nat, t * a = n := ⟨(t * a).toNat, by have := Int.mul_nonneg (show 0 ≤ t by omega) (show 0 ≤ a by omega); omega⟩
      obtain ⟨m, hm⟩ : ∃ m : Nat, t * c = m := ⟨(t * c).toNat, by have := Int.mul_nonneg (show 0 ≤ t by omega) (show 0 ≤ c by omega); omega⟩
      obtain ⟨y, hy⟩ : ∃ y, t * b = y := ⟨_, rfl⟩
      have hn1 : (n : Int) ≤ 12 * 144 := by rw [← hn]; exact Int.mul_le_mul ht.2 la1 (by omega) (by omega)
      have hm1 : (m : Int) ≤ 12 * 144 := by rw [← hm]; exact Int.mul_le_mul ht.2 lc1 (by omega) (by omega)
      have hy0 : 0 ≤ y := by rw [← hy]; exact Int.mul_nonneg (by omega) (by omega)
      have hy1 : y ≤ 12 * 144 := by rw [← hy]; exact Int.mul_le_mul ht.2 (by omega) (by omega) (by omega)
      have hnm : n * m ≤ 1000000 := by
        have e : (n : Int) * m = (t * t) * (a * c) := by
          rw [← hn, ← hm, Int.mul_assoc, Int.mul_left_comm a t c, ← Int.mul_assoc]
        have h1 : (t * t) * (a * c) ≤ (12 * 12) * 144 := Int.mul_le_mul (Int.mul_le_mul ht.2 ht.2 (by omega) (by omega)) lac (Int.mul_nonneg (by omega) (by omega)) (by omega)
        rw [← e, ← Int.natCast_mul] at h1
        omega
      rw [Int.mul_comm a t, Int.mul_comm b t, Int.mul_comm c t, hn, hm, hy] at hbase
      have k1 : IntKind.i64.wrap (t * a) = (n : Int) := by rw [hn]; exact IntWalk.i64_in _ (by omega)
      have k2 : IntKind.i64.wrap (t * b) = y := by rw [hy]; exact IntWalk.i64_in _ (by omega)
      have k3 : IntKind.i64.wrap (t * c) = (m : Int) := by rw [hm]; exact IntWalk.i64_in _ (by omega)
      have HTO := Lib.hid (fun Ax cx wx hx => told_any G n m y hbase (by omega) (by omega) hnm hy0 (by omega) Ax cx wx hx)
      have HRL := Lib.hid hrl
      have HGG := Lib.hid (And.intro hG hq)
      have HTZ := Lib.hid (And.intro hT hZ)
      clear hT hZ hv hg hLst hLeq hLc hLa hLg hrl hG hbase HT HE HY HYU hY hn hm hy lac hq
      obtain ⟨q0, q1, q2, q3, q4⟩ := H1.out.1.cells
      go_wp2_with fail
      refine (HWI.out _).mono ?_
      rintro e w2 ⟨rfl, rfl⟩
      go_wp2_with fail
      refine (HRL.out w1 (HI.out.below H1.out.2.2)).mono ?_
      rintro e w3 ⟨v, rfl, ho3, hb3⟩
      obtain ⟨Aq, cq, rfl, hLq⟩ := ho3.isL
      obtain ⟨q, hqd⟩ : ∃ q : PatD, q = ⟨a, b, c, xs⟩ := ⟨_, rfl⟩
      have hpq : PatIn w3 q Aq := by rw [hqd]; exact hLq
      have HC := Lib.hid (fun (i k : Nat) (hi : i < n) (hk : k < m) w2 (hp2 : PatIn w2 q Aq) => (show Calls Tryz.prog 62 #[.agg #[.int .i64 a, .int .i64 b, .int .i64 c, .slice Aq xs.length cq], .int .i64 ((i : Int) / t), .int .i64 ((k : Int) / t)] w2 fun e w3 => e = .returned (.int .i64 (G i k)) ∧ Below w2.heap.size w2 w3 from by
        have e1 := ediv_bd (show 0 < t by omega) (show -(100000 : Int) ≤ (i : Int) by omega) (show (i : Int) ≤ 100000 by omega)
        have e2 := ediv_bd (show 0 < t by omega) (show -(100000 : Int) ≤ (k : Int) by omega) (show (k : Int) ≤ 100000 by omega)
        have := rcolor_any ⟨a, b, c, xs⟩ HQW.out.1.ok.wide Aq xs.length cq ((i : Int) / t) ((k : Int) / t) (by omega) (by omega) (by omega) (by omega) w2 (by rw [hqd] at hp2; exact hp2)
        rw [HQW.out.2] at this
        rw [HGG.out.1]; exact this))
      obtain ⟨lq, hlq⟩ : ∃ lq, lq = xs.length := ⟨_, rfl⟩
      rw [← hlq] at HC ⊢
      have hbn := below_new w3 (.cells #[.int .i64 a, .int .i64 b, .int .i64 c, .slice Aq lq cq] 24)
      have hbo : PBox (w3.alloc (.cells #[.int .i64 a, .int .i64 b, .int .i64 c, .slice Aq lq cq] 24)) w3.heap.size a b c (.slice Aq lq cq) := PBox.new w3 _ _ _ _
      have H3 := Lib.hid (And.intro (H1.out.2.1.keep hb3) (And.intro (H1.out.2.2.trans (hb3.mono H1.out.2.2.size)) hpq))
      clear hlq hqd hpq hLq ho3 hb3 H1 q0 q1 q2 q3 q4
      go_upto_region 7 with fail
      obtain ⟨W3, hW3⟩ : ∃ W3, W3 = w3.alloc (.cells #[.int .i64 a, .int .i64 b, .int .i64 c, .slice Aq lq cq] 24) := ⟨_, rfl⟩
      rw [← hW3] at hbn hbo ⊢
      obtain ⟨q0, q1, q2, q3, q4⟩ := hbo.cells
      have HB := Lib.hid (And.intro hbn hbo)
      clear hW3 hbn hbo
      go_wp2
      have R3a := RW.new (w := w) (w1 := W3) HB.out.2 (H3.out.1.keep HB.out.1) (H3.out.2.1.trans (HB.out.1.mono H3.out.2.1.size)) (by omega) n y m
      have hbn2 := below_new W3 (.cells #[.int .i64 n, .int .i64 y, .int .i64 m, .slice none 0 0] 24)
      obtain ⟨W4, hW4⟩ : ∃ W4, W4 = W3.alloc (.cells #[.int .i64 n, .int .i64 y, .int .i64 m, .slice none 0 0] 24) := ⟨_, rfl⟩
      rw [← hW4] at R3a hbn2 ⊢
      have R3b : PIn W4 (W3.heap.size + 1) W3.heap.size q Aq := PIn.from H3.out.2.2 (HB.out.1.trans (hbn2.mono HB.out.1.size)) (by have := HB.out.1.size; omega) HB.out.1.size
      obtain ⟨ob, hob⟩ : ∃ ob, ob = W3.heap.size := ⟨_, rfl⟩
      obtain ⟨B, hB⟩ : ∃ B, B = ob + 1 := ⟨_, rfl⟩
      rw [← hob] at R3a R3b ⊢
      rw [← hB] at R3a R3b
      obtain ⟨pb, hpb⟩ : ∃ pb, pb = w3.heap.size := ⟨_, rfl⟩
      obtain ⟨rb, hrb⟩ : ∃ rb, rb = w.heap.size + 1 := ⟨_, rfl⟩
      rw [← hpb, ← hrb] at R3a
      have R3 := Lib.hid (show ∃ v, RW w W4 B pb rb ob a b c (.slice Aq lq cq) (n : Int) y (m : Int) v (tabN G n (0 * n)) ∧ PIn W4 B ob q Aq from ⟨_, by rw [Nat.zero_mul]; exact R3a, R3b⟩)
      rw [← hrb, ← hpb]
      clear R3a R3b hbn2 hW4 hob hB q0 q1 q2 q3 q4 H3 HB hpb hrb k1 k2 k3
      have hz1 : (t == 0) = false := by rw [beq_eq_false_iff_ne]; omega
      go_loopw [9] (fun t wr => ∃ k : Nat, t = .int .i64 k ∧ k ≤ m ∧ Hid (∃ v, RW w wr B pb rb ob a b c (.slice Aq lq cq) (n : Int) y (m : Int) v (tabN G n (k * n)) ∧ PIn wr B ob q Aq)) (fun t _ => m - (intOf t).toNat)
      case atStart => exact ⟨0, rfl, by omega, R3⟩
      case round =>
        clear R3
        obtain ⟨k, rfl, hk, hr⟩ := hrel
        obtain ⟨v, hT, hPI⟩ := hr.out
        obtain ⟨o0, o1, o2, o3, o4⟩ := hT.o.cells
        obtain ⟨p0, p1, p2, p3, p4⟩ := hT.p.cells
        by_cases hlt : k < m
        · have dkm : decide ((k : Int) < (m : Int)) = true := decide_eq_true (by omega)
          have R0 := Lib.hid (show ∃ v, RW w wr B pb rb ob a b c (.slice Aq lq cq) (n : Int) y (m : Int) v (tabN G n (k * n + 0)) ∧ PIn wr B ob q Aq from ⟨v, hT, hPI⟩)
          clear hr hT hPI
          go_wp2
          go_loopw [10] (fun t wq => ∃ i : Nat, t = .int .i64 i ∧ i ≤ n ∧ Hid (∃ v, RW w wq B pb rb ob a b c (.slice Aq lq cq) (n : Int) y (m : Int) v (tabN G n (k * n + i)) ∧ PIn wq B ob q Aq)) (fun t _ => n - (intOf t).toNat)
          case atStart => exact ⟨0, rfl, by omega, R0⟩
          case round =>
            clear R0 o0 o1 o2 o3 o4 p0 p1 p2 p3 p4 v
            obtain ⟨i, rfl, hi, hq⟩ := hrel
            obtain ⟨v, hT, hPI⟩ := hq.out
            obtain ⟨p0, p1, p2, p3, p4⟩ := hT.p.cells
            obtain ⟨o0, o1, o2, o3, o4⟩ := hT.o.cells
            by_cases hil : i < n
            · have din : decide ((i : Int) < (n : Int)) = true := decide_eq_true (by omega)
              have HT := Lib.hid (And.intro hT hPI)
              have hlen : k * n + i ≤ 1000000000 - 1 := by
                have h1 : (k + 1) * n ≤ m * n := Nat.mul_le_mul_right n (by omega)
                rw [Nat.add_mul, Nat.one_mul, Nat.mul_comm m n] at h1
                omega
              have HTN := Lib.hid (tabN_step (F := G) (k := k) hil)
              have HCC := Lib.hid (HC.out i k hil hlt)
              obtain ⟨z, hz⟩ : ∃ z, z = G i k := ⟨_, rfl⟩
              have HZ := Lib.hid hz
              have hpB := hT.pB
              have hoB := hT.oB
              have kx : ((i : Int)).tdiv t = (i : Int) / t := Int.tdiv_eq_ediv_of_nonneg (by omega); have ky : ((k : Int)).tdiv t = (k : Int) / t := Int.tdiv_eq_ediv_of_nonneg (by omega); have ex := ediv_bd (show 0 < t by omega) (show -(100000 : Int) ≤ (i : Int) by omega) (show (i : Int) ≤ 100000 by omega); have ey := ediv_bd (show 0 < t by omega) (show -(100000 : Int) ≤ (k : Int) by omega) (show (k : Int) ≤ 100000 by omega)
              clear hT hq hz hPI
              go_upto_region 14 with fail
              refine RP.region_treeP (C := fun w' => ∃ x : SubW B wr, w' = x.val) (fun _ _ _ => False) [0, 1, 2, 3, 4, 5, 6, 7, 8] (OT.seq [9, 10, 11, 12]) 13 (fun _ _ _ h => h.elim) (by kernel_rfl) (by kernel_rfl) (sub_start B wr) ?_
              simp only [pickL, List.getElem?_cons_zero, List.getElem?_cons_succ]
              repeat (go_big_quiet_step (fail))
              refine wpQuiet_nil ?_
              obtain ⟨w2, hw2⟩ : ∃ w2 : World, w2 = { wr with drawn := wr.drawn + 1 } := ⟨_, rfl⟩
              rw [← hw2]
              have hb2 : Below wr.heap.size wr w2 := by rw [hw2]; exact (Below.refl _ _).drew
              have hsz := HT.out.1.sz
              clear hw2
              simp only [RP.treeS, OT.seq, atOp, List.getElem?_cons_zero, List.getElem?_cons_succ]
              refine ⟨sub_of (hb2.mono hsz), ?_⟩
              skip
              refine RP.p_call 62 #[.agg #[.int .i64 a, .int .i64 b, .int .i64 c, .slice Aq lq cq], .int .i64 ((i : Int) / t), .int .i64 ((k : Int) / t)] rfl (by go_simp) ?_
              refine (HCC.out w2 ((HT.out.2.in hsz).below hb2)).mono ?_
              rintro e w3 ⟨rfl, hb3⟩
              have hb3' := hb2.trans (hb3.mono hb2.size)
              refine .inl ⟨_, rfl, ?_⟩
              rw [← HZ.out]
              refine ⟨sub_of (hb3'.mono hsz), ?_⟩
              refine RP.p_val (.slice (some ⟨w3.heap.size, 0, none⟩) 1 1) (w3.alloc (.cells #[.int .i64 z] 3)) rfl (by go_simp) ?_
              have hal := (Below.refl w3.heap.size w3).alloc (Nat.le_refl _) (.cells #[.int .i64 z] 3)
              have hb4 := hb3'.trans (hal.mono hb3'.size)
              obtain ⟨v', w5, r1, r2, r3, -⟩ := ap_i64 w3 22 B v _ z (OwnI.keep hb3' HT.out.1.own) (by rw [tabN_length]; omega) (Nat.le_trans hsz hb3'.size)
              obtain ⟨A5, n5, hv5, -⟩ := r2.isL
              obtain ⟨m5, hm5⟩ : ∃ m5, m5 = (tabN G n (k * n + i) ++ [z]).length := ⟨_, rfl⟩
              rw [← hm5] at hv5
              clear hm5
              subst hv5
              have hb5 := (hb3'.mono hsz).grown r3 (Nat.le_trans hsz hb3'.size) (fun g hg => (HT.out.1.own.lt' g hg).1)
              refine ⟨sub_of (hb4.mono hsz), ?_⟩
              refine RP.p_val (.slice A5 m5 n5) w5 rfl (ap_exec _ _ 22 rfl v (.slice (some ⟨w3.heap.size, 0, none⟩) 1 1) _ w5 rfl rfl r1) ?_
              refine ⟨sub_of hb5, ?_⟩
              refine RP.p_val (.pointer (some ⟨ob, 3, none⟩)) w5 rfl (by go_simp) ?_
              refine ⟨sub_of hb5, ?_⟩
              have z1 := (hb5.cell (p := ⟨ob, 3, none⟩) hoB).trans o3
              have z2 : w5.frozen? ⟨ob, 3, none⟩ = false := frozen_of_row w5 ob 3 _ _ ((hb5.block _ hoB).trans HT.out.1.o)
              have T6 := HT.out.1.step hb5 r2
              rw [HZ.out, ← HTN.out] at T6
              have HT6 := Lib.hid (And.intro T6 (HT.out.2.step hb5 (.slice A5 m5 n5)))
              refine RP.p_skip (w5.setCell ⟨ob, 3, none⟩ (.slice A5 m5 n5)) rfl (by go_simp) ?_
              obtain ⟨w6, hw6⟩ : ∃ w6, w6 = w5.setCell ⟨ob, 3, none⟩ (.slice A5 m5 n5) := ⟨_, rfl⟩
              rw [← hw6] at HT6 ⊢
              clear hw6 T6 z1 z2 hb5 r1 r2 r3 hb4 hal hb3' hb3 hb2 HT o0 o1 o2 o3 o4 p0 p1 p2 p3 p4 hpB hoB HCC
              go_simp
              go_wp2
              go_roundw
              case rel => exact ⟨i + 1, by go_num, by omega, Lib.hid ⟨_, HT6.out⟩⟩
              case measure => simp [intOf]; omega
            · obtain rfl : n = i := by omega
              have din : decide ((n : Int) < (n : Int)) = false := decide_eq_false (by omega)
              have R2 := Lib.hid (show ∃ v, RW w wr B pb rb ob a b c (.slice Aq lq cq) (n : Int) y (m : Int) v (tabN G n ((k + 1) * n)) ∧ PIn wr B ob q Aq from by rw [Nat.add_mul, Nat.one_mul]; exact ⟨v, hT, hPI⟩)
              clear hq hT hPI
              go_wp2
              go_roundw
              case rel => exact ⟨k + 1, by go_num, by omega, R2⟩
              case measure => simp [intOf]; omega
        · obtain rfl : m = k := by omega
          have dkm : decide ((m : Int) < (m : Int)) = false := decide_eq_false (by omega)
          have HTE := Lib.hid hT
          clear hr hT hPI hlt
          obtain ⟨A1, n1, rfl, hL1⟩ := HTE.out.own.isL
          obtain ⟨l1, hl1⟩ : ∃ l1, l1 = (tabN G n (m * n)).length := ⟨_, rfl⟩
          have HTO1 := Lib.hid (HTO.out A1 n1 wr hL1)
          rw [← hl1] at HTE HTO1 o3
          clear hL1 hl1
          go_wp2_with fail
          refine HTO1.out.mono ?_
          rintro e w5 ⟨v5, rfl, ho5, hb5⟩
          rw [← HTZ.out.1] at ho5 ⊢
          rw [← HTZ.out.2]
          obtain ⟨A5, n5, rfl, -⟩ := ho5.isL
          have hr5 := HTE.out.r.keep hb5
          have HP := Lib.hid (put_ret hr5 (HTE.out.below.trans (hb5.mono HTE.out.below.size)) HTE.out.wr' T _ ho5 HTE.out.below.size (Array.getElem?_eq_some_iff.1 HTE.out.r).1)
          obtain ⟨r0, r1, r2, r3, r4⟩ := PBox.cells hr5
          have f0 : (w5).frozen? ⟨rb, 0, none⟩ = false := frozen_of_row (w5) (rb) 0 _ _ hr5
          have f1 : (w5).frozen? ⟨rb, 1, none⟩ = false := frozen_of_row (w5) (rb) 1 _ _ hr5
          have f2 : (w5).frozen? ⟨rb, 2, none⟩ = false := frozen_of_row (w5) (rb) 2 _ _ hr5
          have f3 : (w5).frozen? ⟨rb, 3, none⟩ = false := frozen_of_row (w5) (rb) 3 _ _ hr5
          clear ho5 hb5 hr5 HTO1 HTE HTO o0 o1 o2 o3 o4 p0 p1 p2 p3 p4
          go_wp2
          refine bodyPost_ret (v := .tuple #[.agg #[.int .i64 T.a, .int .i64 T.b, .int .i64 T.c, .slice A5 T.xs.length n5], .int .i64 Z]) (ret_pat2 rfl rfl rfl HP.out.1) rfl ?_
          exact ⟨_, rfl, HP.out.2⟩
  · have hY := HYU.out
    rw [if_pos hz] at hY
    subst hY
    obtain ⟨hT, hZ⟩ := HT.out
    rw [if_pos hz] at hT hZ
    subst hZ
    have d1 : (Z == 0) = false := by rw [beq_eq_false_iff_ne]; exact hz
    have d2 : (Z != 0) = true := by rw [bne_iff_ne]; exact hz
    have HT2 := Lib.hid hT
    have HP := Lib.hid (put_zero H1.out.2.1 H1.out.2.2 (by omega))
    obtain ⟨r0, r1, r2, r3, r4⟩ := PBox.cells H1.out.2.1
    have f0 : (w1).frozen? ⟨w.heap.size + 1, 0, none⟩ = false := frozen_of_row (w1) (w.heap.size + 1) 0 _ _ H1.out.2.1
    have f1 : (w1).frozen? ⟨w.heap.size + 1, 1, none⟩ = false := frozen_of_row (w1) (w.heap.size + 1) 1 _ _ H1.out.2.1
    have f2 : (w1).frozen? ⟨w.heap.size + 1, 2, none⟩ = false := frozen_of_row (w1) (w.heap.size + 1) 2 _ _ H1.out.2.1
    have f3 : (w1).frozen? ⟨w.heap.size + 1, 3, none⟩ = false := frozen_of_row (w1) (w.heap.size + 1) 3 _ _ H1.out.2.1
    clear hz HT HE H1 HY HYU hT
    go_wp2
    refine bodyPost_ret (v := .tuple #[.agg #[.int .i64 0, .int .i64 0, .int .i64 0, .slice none 0 0], .int .i64 Z]) (ret_pat2 rfl rfl rfl HP.out.1) rfl ?_
    rw [HT2.out]
    exact OutP.zero HP.out.2
end Go.Proofs.YtgmokojdlbdjeaaGreatDoor
