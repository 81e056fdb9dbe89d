/-
  THE REFERENCE: At, Home, IsPeriod.
-/
import Derived.Test.YtgmokojdlbdjeaaGreatDoorPatH
import Derived.Test.YtgmokojdlbdjeaaGreatDoorPrfG
import Derived.Test.YtgmokojdlbdjeaaGreatDoorPrfI
namespace Go.Proofs.YtgmokojdlbdjeaaGreatDoor
open Go.RowKit
set_option maxRecDepth 100000 in
set_option maxHeartbeats 1000000 in
theorem rat_any (p : PatD) (hl : p.xs.length ≤ 1000000) (x y : Int) (A : Option Addr) (cap : Nat) (w : World) (hi : PatIn w p A) :
    Calls Tryz.prog 36 #[.agg #[.int .i64 p.a, .int .i64 p.b, .int .i64 p.c, .slice A p.xs.length cap], .int .i64 x, .int .i64 y] w fun e w' => e = .returned (.tuple #[.int .i64 (atT p x y), .int .i64 (chkP p [x, y])]) ∧ Below w.heap.size w w' := by
  obtain ⟨T, hT⟩ : ∃ T, T = atT p x y := ⟨_, rfl⟩
  obtain ⟨Z, hZ⟩ : ∃ Z, Z = chkP p [x, y] := ⟨_, rfl⟩
  obtain ⟨E, hE⟩ : ∃ E, E = valP p := ⟨_, rfl⟩
  rw [← hT, ← hZ]
  unfold atT at hT
  rw [← hZ] at hT
  have HZ := Lib.hid hZ
  unfold chkP at hZ
  rw [← hE] at hZ
  have hn := fun w => rnear_any x y w
  have hfar : ([x, y] : List Int).any farC = false → (-100000 ≤ x ∧ x ≤ 100000) ∧ (-100000 ≤ y ∧ y ≤ 100000) := fun h => by
    simp only [List.any_cons, List.any_nil, Bool.or_false, Bool.or_eq_false_iff] at h
    exact ⟨farC_bd h.1, farC_bd h.2⟩
  obtain ⟨f, hf⟩ : ∃ f, f = ([x, y] : List Int).any farC := ⟨_, rfl⟩
  rw [← hf] at hn hZ hfar
  have HV := Lib.hid (fun w hi => rvalidateP_any p hl E hE.symm A cap w hi)
  have HN := Lib.hid hn
  have HFA := Lib.hid hfar
  have HZU := Lib.hid hZ
  have HE := Lib.hid hE
  have HI := Lib.hid hi
  clear hi hZ hE hn hf hfar
  have HT := Lib.hid hT
  clear hT
  go_enter Tryz.func36, Tryz.ntmps36
  go_wp2_with fail
  obtain ⟨a0, a1, a2⟩ := al1 w (.cells #[.int .i64 p.a, .int .i64 p.b, .int .i64 p.c, .slice A p.xs.length cap] 24)
  obtain ⟨V, hV⟩ : ∃ V, V = w.alloc (.cells #[.int .i64 p.a, .int .i64 p.b, .int .i64 p.c, .slice A p.xs.length cap] 24) := ⟨_, rfl⟩
  rw [← hV] at a0 a1 a2 ⊢
  refine (HV.out V (HI.out.below a2)).mono ?_
  rintro e w1 ⟨rfl, hb1⟩
  have H1 := Lib.hid (show PBox w1 w.heap.size p.a p.b p.c (.slice A p.xs.length cap) ∧ Below w.heap.size w w1 from ⟨PBox.keep (w := V) a1 hb1, a2.trans (hb1.mono a2.size)⟩)
  clear hV a0 a1 a2 HV hb1 V
  by_cases hz : E = 0
  · subst hz
    have hZ := HZU.out
    rw [if_neg (by simp)] at hZ
    go_wp2_with fail
    refine (HN.out w1).mono ?_
    rintro e w2 ⟨rfl, rfl⟩
    cases f with
    | true =>
      have HT2 := Lib.hid (show T = 0 ∧ Z = 1 by
        have hz1 : Z = 1 := by rw [hZ, if_pos rfl]
        exact ⟨by rw [HT.out, if_pos (by omega)], hz1⟩)
      clear hZ HT HZU HZ HE
      go_wp2
      go_ret2
      exact ⟨by rw [HT2.out.1, HT2.out.2] <;> rfl, H1.out.2⟩
    | false =>
      have hz0 : Z = 0 := by rw [hZ, if_neg (by simp)]
      have HT2 := Lib.hid (show T = colF p x y ∧ Z = 0 from ⟨by rw [HT.out, if_neg (by omega)], hz0⟩)
      obtain ⟨⟨x0, x1⟩, y0, y1⟩ := HFA.out rfl
      have hg := valP_zero HE.out.symm
      have HC := Lib.hid (rcolor_any p hg.ok.wide A p.xs.length cap x y (by omega) (by omega) (by omega) (by omega) w1 (HI.out.below H1.out.2))
      obtain ⟨q0, q1, q2, q3, q4⟩ := H1.out.1.cells
      clear hZ HT HZU HZ HE hz0 hg x0 x1 y0 y1
      go_wp2_with fail
      refine HC.out.mono ?_
      rintro e w3 ⟨rfl, hb3⟩
      have HB := Lib.hid (H1.out.2.trans (hb3.mono H1.out.2.size))
      clear hb3 q0 q1 q2 q3 q4 HC H1
      go_wp2
      go_ret2
      exact ⟨by rw [HT2.out.1, HT2.out.2] <;> rfl, HB.out⟩
  · have d1 : (E == 0) = false := by rw [beq_eq_false_iff_ne]; exact hz
    have d2 : (E != 0) = true := by rw [bne_iff_ne]; exact hz
    have HT2 := Lib.hid (show T = 0 ∧ Z = E by
      have hz1 : Z = E := by rw [HZU.out, if_pos hz]
      exact ⟨by rw [HT.out, if_pos (by omega)], hz1⟩)
    clear hz HT HE HZU HZ
    go_wp2
    go_ret2
    exact ⟨by rw [HT2.out.1, HT2.out.2] <;> rfl, H1.out.2⟩
set_option maxRecDepth 100000 in
set_option maxHeartbeats 1000000 in
theorem risPeriod_any (p : PatD) (hl : p.xs.length ≤ 1000000) (x y : Int) (A : Option Addr) (cap : Nat) (w : World) (hi : PatIn w p A) :
    Calls Tryz.prog 44 #[.agg #[.int .i64 p.a, .int .i64 p.b, .int .i64 p.c, .slice A p.xs.length cap], .int .i64 x, .int .i64 y] w fun e w' => e = .returned (.tuple #[.bool (perT p x y), .int .i64 (chkP p [x, y])]) ∧ Below w.heap.size w w' := by
  have h0 := fun h => perT_bad (p := p) (dx := x) (dy := y) h
  have h1 := fun h => perT_iff (p := p) (dx := x) (dy := y) h
  obtain ⟨T, hT⟩ : ∃ T, T = perT p x y := ⟨_, rfl⟩
  obtain ⟨Z, hZ⟩ : ∃ Z, Z = chkP p [x, y] := ⟨_, rfl⟩
  obtain ⟨E, hE⟩ : ∃ E, E = valP p := ⟨_, rfl⟩
  rw [← hT, ← hZ]
  rw [← hT] at h0 h1
  rw [← hZ] at h0 h1
  have HZ := Lib.hid hZ
  unfold chkP at hZ
  rw [← hE] at hZ
  have hn := fun w => rnear_any x y w
  have hfar : ([x, y] : List Int).any farC = false → (-100000 ≤ x ∧ x ≤ 100000) ∧ (-100000 ≤ y ∧ y ≤ 100000) := fun h => by
    simp only [List.any_cons, List.any_nil, Bool.or_false, Bool.or_eq_false_iff] at h
    exact ⟨farC_bd h.1, farC_bd h.2⟩
  obtain ⟨f, hf⟩ : ∃ f, f = ([x, y] : List Int).any farC := ⟨_, rfl⟩
  rw [← hf] at hn hZ hfar
  have HV := Lib.hid (fun w hi => rvalidateP_any p hl E hE.symm A cap w hi)
  have HN := Lib.hid hn
  have HFA := Lib.hid hfar
  have HZU := Lib.hid hZ
  have HE := Lib.hid hE
  have HI := Lib.hid hi
  clear hi hZ hE hn hf hfar
  have HT0 := Lib.hid h0
  have HT1 := Lib.hid h1
  clear h0 h1 hT
  go_enter Tryz.func44, Tryz.ntmps44
  go_wp2_with fail
  obtain ⟨a0, a1, a2⟩ := al1 w (.cells #[.int .i64 p.a, .int .i64 p.b, .int .i64 p.c, .slice A p.xs.length cap] 24)
  obtain ⟨V, hV⟩ : ∃ V, V = w.alloc (.cells #[.int .i64 p.a, .int .i64 p.b, .int .i64 p.c, .slice A p.xs.length cap] 24) := ⟨_, rfl⟩
  rw [← hV] at a0 a1 a2 ⊢
  refine (HV.out V (HI.out.below a2)).mono ?_
  rintro e w1 ⟨rfl, hb1⟩
  have H1 := Lib.hid (show PBox w1 w.heap.size p.a p.b p.c (.slice A p.xs.length cap) ∧ Below w.heap.size w w1 from ⟨PBox.keep (w := V) a1 hb1, a2.trans (hb1.mono a2.size)⟩)
  clear hV a0 a1 a2 HV hb1 V
  by_cases hz : E = 0
  · subst hz
    have hZ := HZU.out
    rw [if_neg (by simp)] at hZ
    go_wp2_with fail
    refine (HN.out w1).mono ?_
    rintro e w2 ⟨rfl, rfl⟩
    cases f with
    | true =>
      have HT2 := Lib.hid (show T = false ∧ Z = 1 by
        have hz1 : Z = 1 := by rw [hZ, if_pos rfl]
        exact ⟨HT0.out (by omega), hz1⟩)
      clear hZ HT0 HT1 HZU HZ HE
      go_wp2
      go_ret2
      exact ⟨by rw [HT2.out.1, HT2.out.2] <;> rfl, H1.out.2⟩
    | false =>
      have hz0 : Z = 0 := by rw [hZ, if_neg (by simp)]
      have HT2 := Lib.hid hz0
      obtain ⟨⟨x0, x1⟩, y0, y1⟩ := HFA.out rfl
      have hv : valP p = 0 := HE.out.symm
      have HC := Lib.hid (period_any p (valP_zero hv).ok.wide A cap x y T ((HT1.out hz0).trans (sameOn_per (lst_pat hv)).symm) (by omega) (by omega) (by omega) (by omega) w1 (HI.out.below H1.out.2))
      obtain ⟨q0, q1, q2, q3, q4⟩ := H1.out.1.cells
      clear hZ HT0 HT1 HZU HZ HE hz0 hv x0 x1 y0 y1
      go_wp2_with fail
      refine HC.out.mono ?_
      rintro e w3 ⟨rfl, hb3⟩
      have HB := Lib.hid (H1.out.2.trans (hb3.mono H1.out.2.size))
      clear hb3 q0 q1 q2 q3 q4 HC H1
      go_wp2
      go_ret2
      exact ⟨by rw [HT2.out] <;> rfl, HB.out⟩
  · have d1 : (E == 0) = false := by rw [beq_eq_false_iff_ne]; exact hz
    have d2 : (E != 0) = true := by rw [bne_iff_ne]; exact hz
    have HT2 := Lib.hid (show T = false ∧ Z = E by
      have hz1 : Z = E := by rw [HZU.out, if_pos hz]
      exact ⟨HT0.out (by omega), hz1⟩)
    clear hz HT0 HT1 HE HZU HZ
    go_wp2
    go_ret2
    exact ⟨by rw [HT2.out.1, HT2.out.2] <;> rfl, H1.out.2⟩
set_option maxRecDepth 100000 in
set_option maxHeartbeats 2000000 in
theorem rhomeT_any (p : PatD) (hl : p.xs.length ≤ 1000000) (x y : Int) (A : Option Addr) (cap : Nat) (w : World) (hi : PatIn w p A) :
    Calls Tryz.prog 38 #[.agg #[.int .i64 p.a, .int .i64 p.b, .int .i64 p.c, .slice A p.xs.length cap], .int .i64 x, .int .i64 y] w fun e w' => e = .returned (.tuple #[.int .i64 (homT p x y).1, .int .i64 (homT p x y).2, .int .i64 (chkP p [x, y])]) ∧ Below w.heap.size w w' := by
  obtain ⟨T, hT⟩ : ∃ T, T = homT p x y := ⟨_, rfl⟩
  obtain ⟨Z, hZ⟩ : ∃ Z, Z = chkP p [x, y] := ⟨_, rfl⟩
  obtain ⟨E, hE⟩ : ∃ E, E = valP p := ⟨_, rfl⟩
  rw [← hT, ← hZ]
  unfold homT at hT
  rw [← hZ] at hT
  have HZ := Lib.hid hZ
  unfold chkP at hZ
  rw [← hE] at hZ
  have hn := fun w => rnear_any x y w
  have hfar : ([x, y] : List Int).any farC = false → (-100000 ≤ x ∧ x ≤ 100000) ∧ (-100000 ≤ y ∧ y ≤ 100000) := fun h => by
    simp only [List.any_cons, List.any_nil, Bool.or_false, Bool.or_eq_false_iff] at h
    exact ⟨farC_bd h.1, farC_bd h.2⟩
  obtain ⟨f, hf⟩ : ∃ f, f = ([x, y] : List Int).any farC := ⟨_, rfl⟩
  rw [← hf] at hn hZ hfar
  have HV := Lib.hid (fun w hi => rvalidateP_any p hl E hE.symm A cap w hi)
  have HN := Lib.hid hn
  have HFA := Lib.hid hfar
  have HZU := Lib.hid hZ
  have HE := Lib.hid hE
  have HI := Lib.hid hi
  clear hi hZ hE hn hf hfar
  have HT := Lib.hid hT
  clear hT
  go_enter Tryz.func38, Tryz.ntmps38
  go_wp2_with fail
  obtain ⟨a0, a1, a2⟩ := al1 w (.cells #[.int .i64 p.a, .int .i64 p.b, .int .i64 p.c, .slice A p.xs.length cap] 24)
  obtain ⟨V, hV⟩ : ∃ V, V = w.alloc (.cells #[.int .i64 p.a, .int .i64 p.b, .int .i64 p.c, .slice A p.xs.length cap] 24) := ⟨_, rfl⟩
  rw [← hV] at a0 a1 a2 ⊢
  refine (HV.out V (HI.out.below a2)).mono ?_
  rintro e w1 ⟨rfl, hb1⟩
  have H1 := Lib.hid (show PBox w1 w.heap.size p.a p.b p.c (.slice A p.xs.length cap) ∧ Below w.heap.size w w1 from ⟨PBox.keep (w := V) a1 hb1, a2.trans (hb1.mono a2.size)⟩)
  clear hV a0 a1 a2 HV hb1 V
  by_cases hz : E = 0
  · subst hz
    have hZ := HZU.out
    rw [if_neg (by simp)] at hZ
    go_wp2_with fail
    refine (HN.out w1).mono ?_
    rintro e w2 ⟨rfl, rfl⟩
    cases f with
    | true =>
      have HT2 := Lib.hid (show T = (0, 0) ∧ Z = 1 by
        have hz1 : Z = 1 := by rw [hZ, if_pos rfl]
        exact ⟨by rw [HT.out, if_pos (by omega)], hz1⟩)
      clear hZ HT HZU HZ HE
      go_wp2
      go_ret3
      exact ⟨by rw [HT2.out.1, HT2.out.2] <;> rfl, H1.out.2⟩
    | false =>
      have hz0 : Z = 0 := by rw [hZ, if_neg (by simp)]
      have hT := HT.out
      rw [if_neg (by omega)] at hT
      obtain ⟨⟨x0, x1⟩, y0, y1⟩ := HFA.out rfl
      have hv : valP p = 0 := HE.out.symm
      have hg := valP_zero hv
      have HL := Lib.hid (rleast_q p hg.ok.wide A cap w1 (HI.out.below H1.out.2))
      have hgl := lst_good hv
      obtain ⟨q, hq⟩ : ∃ q, q = lst (colF p) := ⟨_, rfl⟩
      rw [← hq] at HL hT hgl
      obtain ⟨a, ha⟩ : ∃ a, a = q.a := ⟨_, rfl⟩
      obtain ⟨b, hb⟩ : ∃ b, b = q.b := ⟨_, rfl⟩
      obtain ⟨c, hc⟩ : ∃ c, c = q.c := ⟨_, rfl⟩
      have ga0 := hgl.a0
      have ga1 := hgl.a1
      have gb0 := hgl.b0
      have gb1 := hgl.b1
      have gc0 := hgl.c0
      have gc1 := hgl.c1
      rw [← ha] at HL hT ga0 ga1 gb1
      rw [← hb] at HL hT gb0 gb1
      rw [← hc] at HL hT gc0 gc1
      obtain ⟨g1, g2, g3, g4⟩ := home_bd (b := b) (x := x) (y := y) ga0 gc0
      have HLH := Lib.hid (fun i j i0 i1 j0 j1 => lat_home (a := a) (b := b) (c := c) (x := x) (y := y) (i := i) (j := j) ga0 gc0 i0 i1 j0 j1)
      obtain ⟨u, hu⟩ : ∃ u, u = homeX a b c x y := ⟨_, rfl⟩
      obtain ⟨v, hv2⟩ : ∃ v, v = y % c := ⟨_, rfl⟩
      rw [← hu] at HLH hT g1 g2
      rw [← hv2] at HLH hT g3 g4
      have HTT := Lib.hid (And.intro hT hz0)
      have HRL := Lib.hid (fun s dx dy h1 h2 h3 h4 w => rlat_any a b c s dx dy ga0 (by omega) gb0 (by omega) gc0 (by omega) h1 h2 h3 h4 w)
      obtain ⟨q0, q1, q2, q3, q4⟩ := H1.out.1.cells
      clear hZ HT HZU HZ HE hz0 hg hgl hq ha hb hc hu hv2 hT hv HN HFA
      go_wp2_with fail
      refine HL.out.mono ?_
      rintro e w2 ⟨s, rfl, ho, hb2⟩
      have H2 := Lib.hid (H1.out.2.trans (hb2.mono H1.out.2.size))
      obtain ⟨A2, n2, hs2, -⟩ := ho.isL
      obtain ⟨l2, hl2⟩ : ∃ l2, l2 = q.xs.length := ⟨_, rfl⟩
      rw [← hl2] at hs2
      subst hs2
      clear hb2 H1 ho hl2 HL q0 q1 q2 q3 q4
      go_upto_region 8 with fail
      have hn := PBox.new w2 a b c (.slice A2 l2 n2)
      obtain ⟨W, hW⟩ : ∃ W, W = w2.alloc (.cells #[.int .i64 a, .int .i64 b, .int .i64 c, .slice A2 l2 n2] 24) := ⟨_, rfl⟩
      rw [← hW] at hn ⊢
      have R0 := Lib.hid (show PBox W w2.heap.size a b c (.slice A2 l2 n2) ∧ Below w.heap.size w W from ⟨hn, by rw [hW]; exact H2.out.alloc H2.out.size _⟩)
      clear hn hW H2
      go_loopw [11] (fun t wr => ∃ k : Int, t = .int .i64 k ∧ 0 ≤ k ∧ k ≤ v ∧ Hid (PBox wr w2.heap.size a b c (.slice A2 l2 n2) ∧ Below w.heap.size w wr)) (fun t _ => (c - intOf t).toNat)
      case atStart => exact ⟨0, rfl, by omega, by omega, R0⟩
      case round =>
        clear R0
        obtain ⟨k, rfl, hk0, hk, hr⟩ := hrel
        obtain ⟨q0, q1, q2, q3, q4⟩ := hr.out.1.cells
        have d1 : decide (k < c) = true := decide_eq_true (by omega)
        go_upto_region 11 with fail
        have R1 := hr
        clear hr
        go_loopw [12] (fun t wq => ∃ i : Int, t = .int .i64 i ∧ 0 ≤ i ∧ i ≤ a ∧ (k = v → i ≤ u) ∧ Hid (PBox wq w2.heap.size a b c (.slice A2 l2 n2) ∧ Below w.heap.size w wq)) (fun t _ => (a - intOf t).toNat)
        case atStart => exact ⟨0, rfl, by omega, by omega, fun _ => by omega, R1⟩
        case round =>
          clear R1 q0 q1 q2 q3 q4
          obtain ⟨i, rfl, hi0, hia, hiu, hr⟩ := hrel
          obtain ⟨q0, q1, q2, q3, q4⟩ := hr.out.1.cells
          by_cases hil : i < a
          · have d2 : decide (i < a) = true := decide_eq_true hil
            have k1 : IntKind.i64.wrap (x - i) = x - i := IntWalk.i64_in _ (by omega)
            have k2 : IntKind.i64.wrap (y - k) = y - k := IntWalk.i64_in _ (by omega)
            have HQ := Lib.hid (HLH.out i k hi0 hil hk0 (by omega))
            have HCL := Lib.hid (HRL.out (.slice A2 l2 n2) (x - i) (y - k) (by omega) (by omega) (by omega) (by omega) wr)
            obtain ⟨t, ht⟩ : ∃ t, t = decide (Lat a b c (x - i) (y - k)) := ⟨_, rfl⟩
            rw [← ht] at HCL
            have HTQ := Lib.hid (show t = true ↔ k = v ∧ i = u by rw [ht, decide_eq_true_iff]; exact HQ.out)
            clear ht HQ
            go_wp2_with fail
            refine HCL.out.mono ?_
            rintro e w3 ⟨rfl, hb3⟩
            have R3 := Lib.hid (show PBox w3 w2.heap.size a b c (.slice A2 l2 n2) ∧ Below w.heap.size w w3 from ⟨hr.out.1.keep hb3, hr.out.2.trans (hb3.mono hr.out.2.size)⟩)
            clear hr hb3 HCL q0 q1 q2 q3 q4
            cases t with
            | true =>
              obtain ⟨rfl, rfl⟩ := HTQ.out.1 rfl
              clear HTQ
              go_wp2
              go_ret3
              exact ⟨by rw [HTT.out.1, HTT.out.2] <;> rfl, R3.out.2⟩
            | false =>
              have hnot : ¬ (k = v ∧ i = u) := fun h => by have := HTQ.out.2 h; cases this
              clear HTQ
              go_wp2
              go_roundw
              case rel => exact ⟨i + 1, by go_num, by omega, by omega, fun h => by have := hiu h; omega, R3⟩
              case measure => simp [intOf]; omega
          · have d2 : decide (i < a) = false := decide_eq_false hil
            have hkv : k < v := by
              rcases Int.lt_or_eq_of_le hk with h | h
              · exact h
              · have := hiu h; omega
            have R3 := hr
            clear hr hiu
            go_wp2
            go_roundw
            case rel => exact ⟨k + 1, by go_num, by omega, by omega, R3⟩
            case measure => simp [intOf]; omega
  · have d1 : (E == 0) = false := by rw [beq_eq_false_iff_ne]; exact hz
    have d2 : (E != 0) = true := by rw [bne_iff_ne]; exact hz
    have HT2 := Lib.hid (show T = (0, 0) ∧ Z = E by
      have hz1 : Z = E := by rw [HZU.out, if_pos hz]
      exact ⟨by rw [HT.out, if_pos (by omega)], hz1⟩)
    clear hz HT HE HZU HZ
    go_wp2
    go_ret3
    exact ⟨by rw [HT2.out.1, HT2.out.2] <;> rfl, H1.out.2⟩
end Go.Proofs.YtgmokojdlbdjeaaGreatDoor
