/-
  THE REFERENCE: Share, Walls, Drum.
-/
import Derived.Test.YtgmokojdlbdjeaaGreatDoorMeaA
import Derived.Test.YtgmokojdlbdjeaaGreatDoorPrfI
namespace Go.Proofs.YtgmokojdlbdjeaaGreatDoor
open Go.RowKit
attribute [local go_sem] grow_cell grow_frozen
attribute [local irreducible] plainUpon stepC
set_option maxRecDepth 100000 in
set_option maxHeartbeats 1000000 in
theorem rshareP_any (p : PatD) (hl : p.xs.length ≤ 1000000) (c : Int) (A : Option Addr) (cap : Nat) (w : World) (hi : PatIn w p A) :
    Calls Tryz.prog 50 #[.agg #[.int .i64 p.a, .int .i64 p.b, .int .i64 p.c, .slice A p.xs.length cap], .int .i64 c] w fun e w' => e = .returned (.tuple #[.agg #[.int .i64 (shaT p c).1, .int .i64 (shaT p c).2.1], .int .i64 (shaT p c).2.2]) ∧ Below w.heap.size w w' := by
  obtain ⟨⟨T1, T2, T3⟩, ht⟩ : ∃ t, shaT p c = t := ⟨_, rfl⟩
  rw [ht]
  unfold shaT at ht
  simp only
  obtain ⟨Z, hZ⟩ : ∃ Z, Z = shaZ p c := ⟨_, rfl⟩
  rw [← hZ] at ht
  unfold shaZ at hZ
  obtain ⟨E, hE⟩ : ∃ E, E = valP p := ⟨_, rfl⟩
  rw [← hE] at hZ
  obtain ⟨n, hn⟩ : ∃ n, n = p.xs.length := ⟨_, rfl⟩
  have HV := Lib.hid (fun w hi => rvalidateP_any p hl E hE.symm A cap w hi)
  rw [← hn] at HV ht ⊢
  have HT := Lib.hid ht
  have HZ := Lib.hid hZ
  have HI := Lib.hid (And.intro hi hn)
  have hn9 : n ≤ 1000000 := by omega
  have HE := Lib.hid hE
  have hwi := fun w => pwithin_any c 0 7 _ rfl w
  obtain ⟨r, hr⟩ : ∃ r, r = (decide (0 ≤ c) && decide (c ≤ 7)) := ⟨_, rfl⟩
  rw [← hr] at hwi
  have HWI := Lib.hid hwi
  have HR := Lib.hid hr
  clear hi ht hZ hE hn hwi hr
  go_enter Tryz.func50, Tryz.ntmps50
  go_wp2_with fail
  obtain ⟨a0, a1, a2, a3⟩ := al2 w (.cells #[.int .i64 p.a, .int .i64 p.b, .int .i64 p.c, .slice A n cap] 24) (.cells #[.int .i64 0, .int .i64 0] 54)
  have a4 := Box2.new1 w (.cells #[.int .i64 p.a, .int .i64 p.b, .int .i64 p.c, .slice A n cap] 24) (.int .i64 0) (.int .i64 0) 54
  obtain ⟨V, hV⟩ : ∃ V, V = (w.alloc (.cells #[.int .i64 p.a, .int .i64 p.b, .int .i64 p.c, .slice A n cap] 24)).alloc (.cells #[.int .i64 0, .int .i64 0] 54) := ⟨_, rfl⟩
  rw [← hV] at a0 a1 a2 a3 a4 ⊢
  refine (HV.out V (HI.out.1.below a3)).mono ?_
  rintro e w1 ⟨rfl, hb1⟩
  have H1 := Lib.hid (show PBox w1 w.heap.size p.a p.b p.c (.slice A n cap) ∧ Box2 w1 (w.heap.size + 1) (.int .i64 0) (.int .i64 0) ∧ Below w.heap.size w w1 from ⟨PBox.keep (w := V) a1 hb1, Box2.keep hb1 a4, a3.trans (hb1.mono a3.size)⟩)
  clear hV a0 a1 a2 a3 a4 hb1 HV V
  by_cases hz : E = 0
  · subst hz
    have hZ := HZ.out
    rw [if_neg (by simp)] at hZ
    go_wp2_with fail
    refine (HWI.out w1).mono ?_
    rintro e w2 ⟨rfl, rfl⟩
    clear HWI
    cases r with
    | false =>
      have hc : c < 0 ∨ 7 < c := by
        have h := HR.out
        rcases Int.lt_or_le c 0 with h0 | h0
        · exact .inl h0
        · rcases Int.lt_or_le 7 c with h1 | h1
          · exact .inr h1
          · rw [decide_eq_true h0, decide_eq_true h1] at h; cases h
      rw [if_pos hc] at hZ
      subst hZ
      have ht := HT.out
      rw [if_pos (by decide)] at ht
      have HTT := Lib.hid ht
      clear hc HT HZ HE ht HR
      obtain ⟨c0a, c1a, f0a, f1a, za⟩ := H1.out.2.1
      have HB := Lib.hid H1.out.2.2
      go_wp2
      refine bodyPost_ret (v := .tuple #[.agg #[.int .i64 (0), .int .i64 (0)], .int .i64 (1)]) (by simp only [results, Tryz.results50]; go_simp) rfl ⟨?_, ?_⟩
      · exact ret_rat HTT.out
      · exact Below.setCell (Below.setCell HB.out (by show w.heap.size ≤ w.heap.size + 1; omega) _) (by show w.heap.size ≤ w.heap.size + 1; omega) _
    | true =>
      have hc : ¬ (c < 0 ∨ 7 < c) := by
        have h := HR.out
        intro hh
        rcases hh with h0 | h0
        · rw [decide_eq_false (show ¬ 0 ≤ c by omega)] at h; cases h
        · rw [decide_eq_false (show ¬ c ≤ 7 by omega), Bool.and_false] at h; cases h
      rw [if_neg hc] at hZ
      subst hZ
      have ht := HT.out
      rw [if_neg (by simp)] at ht
      have hbd := cntS_bd p.xs c n
      have HTT := Lib.hid (rmake_any (cntS p.xs c n) n T1 T2 T3 ht (by omega) (by omega) (by omega) (by omega))
      have hin := (HI.out.1.below H1.out.2.2).2
      rw [← HI.out.2] at hin
      have HIN := Lib.hid hin
      obtain ⟨q0, q1, q2, q3, q4⟩ := H1.out.1.cells
      clear hc HT HZ HE ht hbd hin HR
      go_upto_region 8 with fail
      go_loopw [7, 8] (fun s t wr => ∃ (x : Int) (i : Nat), s = .int .i64 x ∧ t = .int .i64 i ∧ i ≤ n ∧ 0 ≤ x ∧ x ≤ i ∧ wr = w1 ∧ Hid (x = cntS p.xs c i)) (fun _ t _ => n - (intOf t).toNat)
      case atStart => exact ⟨0, 0, rfl, rfl, by omega, by omega, by omega, rfl, rfl⟩
      case round =>
        obtain ⟨x, i, rfl, rfl, hin, hx0, hx1, rfl, hx⟩ := hrel
        by_cases hlt : i < n
        · have dl : decide ((i : Int) < (n : Int)) = true := decide_eq_true (by omega)
          obtain ⟨b, o, rfl, -, hcx⟩ := HIN.out (by omega)
          have r1 := hcx i hlt
          have HS := Lib.hid (show cntS p.xs c (i + 1) = x + if p.xs.getD i 0 = c then 1 else 0 by rw [cntS_step, hx.out])
          obtain ⟨u, hu⟩ : ∃ u, u = p.xs.getD i 0 := ⟨_, rfl⟩
          rw [← hu] at r1 HS
          clear hu hcx hx HIN
          by_cases huc : u = c
          · subst huc
            have d3 : (u == u) = true := by simp
            have HS2 := Lib.hid (show x + 1 = cntS p.xs u (i + 1) by rw [HS.out, if_pos rfl])
            clear HS
            go_wp2
            go_roundw
            case rel => exact ⟨x + 1, i + 1, by go_num, by go_num, by omega, by omega, by omega, trivial, HS2⟩
            case measure => simp [intOf]; omega
          · have d3 : (u == c) = false := by rw [beq_eq_false_iff_ne]; exact huc
            have HS2 := Lib.hid (show x = cntS p.xs c (i + 1) by rw [HS.out, if_neg huc]; omega)
            clear HS huc
            go_wp2
            go_roundw
            case rel => exact ⟨x, i + 1, rfl, by go_num, by omega, by omega, by omega, trivial, HS2⟩
            case measure => simp [intOf]; omega
        · obtain rfl : n = i := by omega
          have dl : decide ((n : Int) < (n : Int)) = false := decide_eq_false (by omega)
          rw [← hx.out] at HTT
          clear hx HIN hlt
          go_wp2_with fail
          refine (HTT.out _).mono ?_
          rintro e w2 ⟨rfl, hb2⟩
          obtain ⟨c0a, c1a, f0a, f1a, za⟩ := Box2.keep hb2 H1.out.2.1
          have HB := Lib.hid (H1.out.2.2.trans (hb2.mono H1.out.2.2.size))
          clear hb2 HTT
          go_wp2
          refine bodyPost_ret (v := .tuple #[.agg #[.int .i64 (T1), .int .i64 (T2)], .int .i64 (T3)]) (by simp only [results, Tryz.results50]; go_simp) rfl ⟨?_, ?_⟩
          · rfl
          · exact Below.setCell (Below.setCell HB.out (by show w.heap.size ≤ w.heap.size + 1; omega) _) (by show w.heap.size ≤ w.heap.size + 1; omega) _
  · have d1 : (E == 0) = false := by rw [beq_eq_false_iff_ne]; exact hz
    have d2 : (E != 0) = true := by rw [bne_iff_ne]; exact hz
    have hZ := HZ.out
    rw [if_pos hz] at hZ
    subst hZ
    have ht := HT.out
    rw [if_pos hz] at ht
    have HTT := Lib.hid ht
    clear hz HT HZ HE ht HR HWI
    obtain ⟨c0a, c1a, f0a, f1a, za⟩ := H1.out.2.1
    have HB := Lib.hid H1.out.2.2
    go_wp2
    refine bodyPost_ret (v := .tuple #[.agg #[.int .i64 (0), .int .i64 (0)], .int .i64 (Z)]) (by simp only [results, Tryz.results50]; go_simp) rfl ⟨?_, ?_⟩
    · exact ret_rat HTT.out
    · exact Below.setCell (Below.setCell HB.out (by show w.heap.size ≤ w.heap.size + 1; omega) _) (by show w.heap.size ≤ w.heap.size + 1; omega) _
set_option maxRecDepth 100000 in
set_option maxHeartbeats 2000000 in
theorem rwalls_any (p : PatD) (hl : p.xs.length ≤ 1000000) (A : Option Addr) (cap : Nat) (w : World) (hi : PatIn w p A) :
    Calls Tryz.prog 52 #[.agg #[.int .i64 p.a, .int .i64 p.b, .int .i64 p.c, .slice A p.xs.length cap]] w fun e w' => e = .returned (.tuple #[.agg #[.int .i64 (walT p).1, .int .i64 (walT p).2.1], .int .i64 (walT p).2.2]) ∧ Below w.heap.size w w' := by
  obtain ⟨⟨T1, T2, T3⟩, ht⟩ : ∃ t, walT p = t := ⟨_, rfl⟩
  rw [ht]
  unfold walT at ht
  simp only
  obtain ⟨E, hE⟩ : ∃ E, E = valP p := ⟨_, rfl⟩
  rw [← hE] at ht
  obtain ⟨n, hn⟩ : ∃ n, n = p.xs.length := ⟨_, rfl⟩
  have HV := Lib.hid (fun w hi => rvalidateP_any p hl E hE.symm A cap w hi)
  rw [← hn] at HV ht ⊢
  have HT := Lib.hid ht
  have HI := Lib.hid (And.intro hi hn)
  have hn9 : n ≤ 1000000 := by omega
  have HE := Lib.hid hE
  clear hi ht hE hn
  go_enter Tryz.func52, Tryz.ntmps52
  go_wp2_with fail
  obtain ⟨a0, a1, a2, a3⟩ := al2 w (.cells #[.int .i64 p.a, .int .i64 p.b, .int .i64 p.c, .slice A n cap] 24) (.cells #[.int .i64 0, .int .i64 0] 54)
  have a4 := Box2.new1 w (.cells #[.int .i64 p.a, .int .i64 p.b, .int .i64 p.c, .slice A n cap] 24) (.int .i64 0) (.int .i64 0) 54
  obtain ⟨V, hV⟩ : ∃ V, V = (w.alloc (.cells #[.int .i64 p.a, .int .i64 p.b, .int .i64 p.c, .slice A n cap] 24)).alloc (.cells #[.int .i64 0, .int .i64 0] 54) := ⟨_, rfl⟩
  rw [← hV] at a0 a1 a2 a3 a4 ⊢
  refine (HV.out V (HI.out.1.below a3)).mono ?_
  rintro e w1 ⟨rfl, hb1⟩
  have H1 := Lib.hid (show PBox w1 w.heap.size p.a p.b p.c (.slice A n cap) ∧ Box2 w1 (w.heap.size + 1) (.int .i64 0) (.int .i64 0) ∧ Below w.heap.size w w1 from ⟨PBox.keep (w := V) a1 hb1, Box2.keep hb1 a4, a3.trans (hb1.mono a3.size)⟩)
  clear hV a0 a1 a2 a3 a4 hb1 HV V
  by_cases hz : E = 0
  · subst hz
    have ht := HT.out
    rw [if_neg (by simp)] at ht
    have hg := valP_zero HE.out.symm
    have hlen := hg.len
    rw [← HI.out.2] at hlen
    obtain ⟨N, hN⟩ : ∃ N : Nat, p.a = N := ⟨p.a.toNat, by have := hg.a0; omega⟩
    obtain ⟨M, hM⟩ : ∃ M : Nat, p.c = M := ⟨p.c.toNat, by have := hg.c0; omega⟩
    have hN9 : N ≤ 144 := by have := hg.a1; omega
    have hM9 : M ≤ 144 := by have := hg.c1; omega
    rw [hN, hM, Int.toNat_natCast, Int.toNat_natCast] at ht
    rw [hN, hM] at hlen
    have kn : IntKind.i64.wrap ((N : Int) * (M : Int)) = (n : Int) := by rw [hlen]; exact IntWalk.i64_in _ (by omega)
    have HC := Lib.hid (fun x y h1 h2 h3 h4 w hL => rcolor_any p hg.ok.wide A n cap x y h1 h2 h3 h4 w hL)
    obtain ⟨F, hF⟩ : ∃ F, F = colF p := ⟨_, rfl⟩
    obtain ⟨b, hb⟩ : ∃ b, b = p.b := ⟨_, rfl⟩
    rw [← hF] at HC ht
    rw [hN, hM, ← hb] at HC H1
    have HTT := Lib.hid (show ∀ x, x = rowsW F N M → mk x n = (T1, T2, T3) from fun x hx => by rw [hx]; exact ht)
    have R0 := Lib.hid (show PBox w1 w.heap.size N b M (.slice A n cap) ∧ Box2 w1 (w.heap.size + 1) (.int .i64 0) (.int .i64 0) ∧ Below w.heap.size w w1 ∧ (0 : Int) = rowsW F N 0 from ⟨H1.out.1, H1.out.2.1, H1.out.2.2, rfl⟩)
    clear HT HE ht hg hN hM hF hb H1 hlen
    go_upto_region 6 with fail
    go_loopw [5, 6] (fun s t wr => ∃ (x : Int) (K : Nat), s = .int .i64 x ∧ t = .int .i64 K ∧ K ≤ M ∧ 0 ≤ x ∧ x ≤ 288 * K ∧ Hid (PBox wr w.heap.size N b M (.slice A n cap) ∧ Box2 wr (w.heap.size + 1) (.int .i64 0) (.int .i64 0) ∧ Below w.heap.size w wr ∧ x = rowsW F N K)) (fun _ t _ => M - (intOf t).toNat)
    case atStart => exact ⟨0, 0, rfl, rfl, by omega, by omega, by omega, R0⟩
    case round =>
      clear R0
      obtain ⟨x, K, rfl, rfl, hK, hx0, hx1, hr⟩ := hrel
      obtain ⟨q0, q1, q2, q3, q4⟩ := hr.out.1.cells
      by_cases hlt : K < M
      · have dl : decide ((K : Int) < (M : Int)) = true := decide_eq_true (by omega)
        have R1 := Lib.hid (show PBox wr w.heap.size N b M (.slice A n cap) ∧ Box2 wr (w.heap.size + 1) (.int .i64 0) (.int .i64 0) ∧ Below w.heap.size w wr ∧ x = rowsW F N K + rowW F K 0 from ⟨hr.out.1, hr.out.2.1, hr.out.2.2.1, by rw [hr.out.2.2.2]; show _ = _ + 0; omega⟩)
        clear hr
        go_upto_region 9 with fail
        clear q0 q1 q2 q3 q4
        go_loopw [5, 7] (fun s t wq => ∃ (x : Int) (i : Nat), s = .int .i64 x ∧ t = .int .i64 i ∧ i ≤ N ∧ 0 ≤ x ∧ x ≤ 288 * K + 2 * i ∧ Hid (PBox wq w.heap.size N b M (.slice A n cap) ∧ Box2 wq (w.heap.size + 1) (.int .i64 0) (.int .i64 0) ∧ Below w.heap.size w wq ∧ x = rowsW F N K + rowW F K i)) (fun _ t _ => N - (intOf t).toNat)
        case atStart => exact ⟨x, 0, rfl, rfl, by omega, by omega, by omega, R1⟩
        case round =>
          clear R1 hx0 hx1
          obtain ⟨x, i, rfl, rfl, hi, hx0, hx1, hr⟩ := hrel
          obtain ⟨q0, q1, q2, q3, q4⟩ := hr.out.1.cells
          by_cases hil : i < N
          · have dl2 : decide ((i : Int) < (N : Int)) = true := decide_eq_true (by omega)
            have HW := Lib.hid (show x + ((if F (i + 1) K ≠ F i K then 1 else 0) + (if F i (K + 1) ≠ F i K then 1 else 0)) = rowsW F N K + rowW F K (i + 1) by rw [rowW_step, hr.out.2.2.2, Int.add_assoc]; rfl)
            have HC0 := Lib.hid (fun w hL => HC.out (i : Int) (K : Int) (by omega) (by omega) (by omega) (by omega) w hL)
            have HC1 := Lib.hid (fun w hL => HC.out ((i : Int) + 1) (K : Int) (by omega) (by omega) (by omega) (by omega) w hL)
            have HC2 := Lib.hid (fun w hL => HC.out (i : Int) ((K : Int) + 1) (by omega) (by omega) (by omega) (by omega) w hL)
            obtain ⟨z0, hz0⟩ : ∃ z, z = F i K := ⟨_, rfl⟩
            obtain ⟨z1, hz1⟩ : ∃ z, z = F (i + 1) K := ⟨_, rfl⟩
            obtain ⟨z2, hz2⟩ : ∃ z, z = F i (K + 1) := ⟨_, rfl⟩
            rw [← hz0, ← hz1, ← hz2] at HW
            rw [← hz0] at HC0
            rw [← hz1] at HC1
            rw [← hz2] at HC2
            have k1 : IntKind.i64.wrap ((i : Int) + 1) = (i : Int) + 1 := IntWalk.i64_in _ (by omega)
            have k2 : IntKind.i64.wrap ((K : Int) + 1) = (K : Int) + 1 := IntWalk.i64_in _ (by omega)
            clear hz0 hz1 hz2
            go_upto_region 11 with fail
            refine region_tree (C := fun w' => ∃ x, w' = grow wr x) [0, 1, 2, 4, 5, 6, 7] (OT.seq [3, 8, 9]) (by kernel_rfl) (by kernel_rfl) (grow_start wr) ?_
            simp only [pickL, List.getElem?_cons_zero, List.getElem?_cons_succ]
            repeat (go_big_quiet_step (fail))
            refine wpQuiet_nil ?_
            rintro wx ⟨xg, hxg⟩
            have hbx := below_grow wr xg
            rw [← hxg] at hbx
            simp only [treeS, OT.seq, atOp, List.getElem?_cons_zero, List.getElem?_cons_succ]
            refine ⟨⟨xg, hxg⟩, ?_⟩
            clear hxg
            refine s_call 62 #[.agg #[.int .i64 N, .int .i64 b, .int .i64 M, .slice A n cap], .int .i64 (i : Int), .int .i64 (K : Int)] rfl (by go_simp) ?_
            refine (HC0.out wx (by rw [HI.out.2]; exact HI.out.1.below (hr.out.2.2.1.trans (hbx.mono hr.out.2.2.1.size)))).mono ?_
            rintro e wx1 ⟨rfl, hc1⟩
            have hbx1 := hbx.trans (hc1.mono hbx.size)
            refine ⟨_, rfl, grow_of_below hbx1, ?_⟩
            refine s_call 62 #[.agg #[.int .i64 N, .int .i64 b, .int .i64 M, .slice A n cap], .int .i64 ((i : Int) + 1), .int .i64 (K : Int)] rfl (by go_simp) ?_
            refine (HC1.out wx1 (by rw [HI.out.2]; exact HI.out.1.below (hr.out.2.2.1.trans (hbx1.mono hr.out.2.2.1.size)))).mono ?_
            rintro e w3 ⟨rfl, hc2⟩
            have hbx2 := hbx1.trans (hc2.mono hbx1.size)
            refine ⟨_, rfl, grow_of_below hbx2, ?_⟩
            have hgb := grow_of_below hbx2
            refine s_val (.bool (z0 != z1)) w3 rfl (by go_simp) ?_
            refine ⟨hgb, ?_⟩
            have R3 := Lib.hid (show PBox w3 w.heap.size N b M (.slice A n cap) ∧ Box2 w3 (w.heap.size + 1) (.int .i64 0) (.int .i64 0) ∧ Below w.heap.size w w3 ∧ True from ⟨hr.out.1.keep hbx2, Box2.keep hbx2 hr.out.2.1, hr.out.2.2.1.trans (hbx2.mono hr.out.2.2.1.size), trivial⟩)
            clear hr hbx hbx1 hbx2 hc1 hc2 hgb q0 q1 q2 q3 q4 wx wx1
            obtain ⟨q0, q1, q2, q3, q4⟩ := R3.out.1.cells
            by_cases h1 : z1 = z0
            · subst h1
              have e1 : (z1 != z1) = false := by simp
              have HW1 := Lib.hid (show x + (if z2 ≠ z1 then 1 else 0) = rowsW F N K + rowW F K (i + 1) by rw [← HW.out, if_neg (show ¬ z1 ≠ z1 from fun h => h rfl)]; omega)
              clear HW
              go_simp
              go_upto_region 13 with fail
              clear e1
              refine region_tree (C := fun w' => ∃ x, w' = grow w3 x) [0, 1, 2, 4, 5, 6, 7] (OT.seq [3, 8, 9]) (by kernel_rfl) (by kernel_rfl) (grow_start w3) ?_
              simp only [pickL, List.getElem?_cons_zero, List.getElem?_cons_succ]
              repeat (go_big_quiet_step (fail))
              refine wpQuiet_nil ?_
              rintro wx ⟨xg, hxg⟩
              have hbx := below_grow w3 xg
              rw [← hxg] at hbx
              simp only [treeS, OT.seq, atOp, List.getElem?_cons_zero, List.getElem?_cons_succ]
              refine ⟨⟨xg, hxg⟩, ?_⟩
              clear hxg
              refine s_call 62 #[.agg #[.int .i64 N, .int .i64 b, .int .i64 M, .slice A n cap], .int .i64 (i : Int), .int .i64 (K : Int)] rfl (by go_simp) ?_
              refine (HC0.out wx (by rw [HI.out.2]; exact HI.out.1.below (R3.out.2.2.1.trans (hbx.mono R3.out.2.2.1.size)))).mono ?_
              rintro e wx1 ⟨rfl, hc1⟩
              have hbx1 := hbx.trans (hc1.mono hbx.size)
              refine ⟨_, rfl, grow_of_below hbx1, ?_⟩
              refine s_call 62 #[.agg #[.int .i64 N, .int .i64 b, .int .i64 M, .slice A n cap], .int .i64 (i : Int), .int .i64 ((K : Int) + 1)] rfl (by go_simp) ?_
              refine (HC2.out wx1 (by rw [HI.out.2]; exact HI.out.1.below (R3.out.2.2.1.trans (hbx1.mono R3.out.2.2.1.size)))).mono ?_
              rintro e w4 ⟨rfl, hc2⟩
              have hbx2 := hbx1.trans (hc2.mono hbx1.size)
              refine ⟨_, rfl, grow_of_below hbx2, ?_⟩
              have hgb := grow_of_below hbx2
              refine s_val (.bool (z1 != z2)) w4 rfl (by go_simp) ?_
              refine ⟨hgb, ?_⟩
              have R4 := Lib.hid (show PBox w4 w.heap.size N b M (.slice A n cap) ∧ Box2 w4 (w.heap.size + 1) (.int .i64 0) (.int .i64 0) ∧ Below w.heap.size w w4 ∧ True from ⟨R3.out.1.keep hbx2, Box2.keep hbx2 R3.out.2.1, R3.out.2.2.1.trans (hbx2.mono R3.out.2.2.1.size), trivial⟩)
              clear R3 hbx hbx1 hbx2 hc1 hc2 hgb q0 q1 q2 q3 q4 wx wx1
              obtain ⟨q0, q1, q2, q3, q4⟩ := R4.out.1.cells
              by_cases h2 : z2 = z1
              · have e2 : (z1 != z2) = false := by rw [h2]; simp
                have R5 := Lib.hid (And.intro R4.out.1 (And.intro R4.out.2.1 (And.intro R4.out.2.2.1 (show x = rowsW F N K + rowW F K (i + 1) by rw [← HW1.out, if_neg (fun h => h h2)]; omega))))
                clear HW1 R4 h2 q0 q1 q2 q3 q4
                rw [e2]
                go_simp
                go_wp2
                go_roundw
                case rel => exact ⟨x, i + 1, by go_num, by go_num, by omega, by omega, by omega, R5⟩
                case measure => simp [intOf]; omega
              · have e2 : (z1 != z2) = true := by rw [bne_iff_ne]; exact fun h => h2 h.symm
                have R5 := Lib.hid (And.intro R4.out.1 (And.intro R4.out.2.1 (And.intro R4.out.2.2.1 (show x + 1 = rowsW F N K + rowW F K (i + 1) by rw [← HW1.out, if_pos h2]))))
                clear HW1 R4 h2 q0 q1 q2 q3 q4
                rw [e2]
                go_simp
                go_wp2
                go_roundw
                case rel => exact ⟨x + 1, i + 1, by go_num, by go_num, by omega, by omega, by omega, R5⟩
                case measure => simp [intOf]; omega
            · have e1 : (z0 != z1) = true := by rw [bne_iff_ne]; exact fun h => h1 h.symm
              have HW1 := Lib.hid (show x + 1 + (if z2 ≠ z0 then 1 else 0) = rowsW F N K + rowW F K (i + 1) by rw [← HW.out, if_pos h1]; omega)
              clear HW h1
              go_simp
              go_upto_region 13 with fail
              clear e1
              refine region_tree (C := fun w' => ∃ x, w' = grow w3 x) [0, 1, 2, 4, 5, 6, 7] (OT.seq [3, 8, 9]) (by kernel_rfl) (by kernel_rfl) (grow_start w3) ?_
              simp only [pickL, List.getElem?_cons_zero, List.getElem?_cons_succ]
              repeat (go_big_quiet_step (fail))
              refine wpQuiet_nil ?_
              rintro wx ⟨xg, hxg⟩
              have hbx := below_grow w3 xg
              rw [← hxg] at hbx
              simp only [treeS, OT.seq, atOp, List.getElem?_cons_zero, List.getElem?_cons_succ]
              refine ⟨⟨xg, hxg⟩, ?_⟩
              clear hxg
              refine s_call 62 #[.agg #[.int .i64 N, .int .i64 b, .int .i64 M, .slice A n cap], .int .i64 (i : Int), .int .i64 (K : Int)] rfl (by go_simp) ?_
              refine (HC0.out wx (by rw [HI.out.2]; exact HI.out.1.below (R3.out.2.2.1.trans (hbx.mono R3.out.2.2.1.size)))).mono ?_
              rintro e wx1 ⟨rfl, hc1⟩
              have hbx1 := hbx.trans (hc1.mono hbx.size)
              refine ⟨_, rfl, grow_of_below hbx1, ?_⟩
              refine s_call 62 #[.agg #[.int .i64 N, .int .i64 b, .int .i64 M, .slice A n cap], .int .i64 (i : Int), .int .i64 ((K : Int) + 1)] rfl (by go_simp) ?_
              refine (HC2.out wx1 (by rw [HI.out.2]; exact HI.out.1.below (R3.out.2.2.1.trans (hbx1.mono R3.out.2.2.1.size)))).mono ?_
              rintro e w4 ⟨rfl, hc2⟩
              have hbx2 := hbx1.trans (hc2.mono hbx1.size)
              refine ⟨_, rfl, grow_of_below hbx2, ?_⟩
              have hgb := grow_of_below hbx2
              refine s_val (.bool (z0 != z2)) w4 rfl (by go_simp) ?_
              refine ⟨hgb, ?_⟩
              have R4 := Lib.hid (show PBox w4 w.heap.size N b M (.slice A n cap) ∧ Box2 w4 (w.heap.size + 1) (.int .i64 0) (.int .i64 0) ∧ Below w.heap.size w w4 ∧ True from ⟨R3.out.1.keep hbx2, Box2.keep hbx2 R3.out.2.1, R3.out.2.2.1.trans (hbx2.mono R3.out.2.2.1.size), trivial⟩)
              clear R3 hbx hbx1 hbx2 hc1 hc2 hgb q0 q1 q2 q3 q4 wx wx1
              obtain ⟨q0, q1, q2, q3, q4⟩ := R4.out.1.cells
              by_cases h2 : z2 = z0
              · have e2 : (z0 != z2) = false := by rw [h2]; simp
                have R5 := Lib.hid (And.intro R4.out.1 (And.intro R4.out.2.1 (And.intro R4.out.2.2.1 (show x + 1 = rowsW F N K + rowW F K (i + 1) by rw [← HW1.out, if_neg (fun h => h h2)]; omega))))
                clear HW1 R4 h2 q0 q1 q2 q3 q4
                rw [e2]
                go_simp
                go_wp2
                go_roundw
                case rel => exact ⟨x + 1, i + 1, by go_num, by go_num, by omega, by omega, by omega, R5⟩
                case measure => simp [intOf]; omega
              · have e2 : (z0 != z2) = true := by rw [bne_iff_ne]; exact fun h => h2 h.symm
                have R5 := Lib.hid (And.intro R4.out.1 (And.intro R4.out.2.1 (And.intro R4.out.2.2.1 (show x + 1 + 1 = rowsW F N K + rowW F K (i + 1) by rw [← HW1.out, if_pos h2]))))
                clear HW1 R4 h2 q0 q1 q2 q3 q4
                rw [e2]
                go_simp
                go_wp2
                go_roundw
                case rel => exact ⟨x + 1 + 1, i + 1, by go_num, by go_num, by omega, by omega, by omega, R5⟩
                case measure => simp [intOf]; omega
          · obtain rfl : N = i := by omega
            have dl2 : decide ((N : Int) < (N : Int)) = false := decide_eq_false (by omega)
            have R2 := Lib.hid (show PBox wr w.heap.size N b M (.slice A n cap) ∧ Box2 wr (w.heap.size + 1) (.int .i64 0) (.int .i64 0) ∧ Below w.heap.size w wr ∧ x = rowsW F N (K + 1) from ⟨hr.out.1, hr.out.2.1, hr.out.2.2.1, by rw [rowsW_step]; exact hr.out.2.2.2⟩)
            clear hr
            go_wp2
            go_roundw
            case rel => exact ⟨x, K + 1, rfl, by go_num, by omega, by omega, by omega, R2⟩
            case measure => simp [intOf]; omega
      · obtain rfl : M = K := by omega
        have dl : decide ((M : Int) < (M : Int)) = false := decide_eq_false (by omega)
        have hmk := rmake_any x n T1 T2 T3 (HTT.out x hr.out.2.2.2) (by omega) (by omega) (by omega) (by omega)
        have HTT := Lib.hid hmk
        have H1 := Lib.hid (show PBox wr w.heap.size N b M (.slice A n cap) ∧ Box2 wr (w.heap.size + 1) (.int .i64 0) (.int .i64 0) ∧ Below w.heap.size w wr from ⟨hr.out.1, hr.out.2.1, hr.out.2.2.1⟩)
        clear hr hmk hlt
        go_wp2_with fail
        refine (HTT.out _).mono ?_
        rintro e w2 ⟨rfl, hb2⟩
        obtain ⟨c0a, c1a, f0a, f1a, za⟩ := Box2.keep hb2 H1.out.2.1
        have HB := Lib.hid (H1.out.2.2.trans (hb2.mono H1.out.2.2.size))
        clear hb2 HTT
        go_wp2
        refine bodyPost_ret (v := .tuple #[.agg #[.int .i64 (T1), .int .i64 (T2)], .int .i64 (T3)]) (by simp only [results, Tryz.results52]; go_simp) rfl ⟨?_, ?_⟩
        · rfl
        · exact Below.setCell (Below.setCell HB.out (by show w.heap.size ≤ w.heap.size + 1; omega) _) (by show w.heap.size ≤ w.heap.size + 1; omega) _
  · have d1 : (E == 0) = false := by rw [beq_eq_false_iff_ne]; exact hz
    have d2 : (E != 0) = true := by rw [bne_iff_ne]; exact hz
    have ht := HT.out
    rw [if_pos hz] at ht
    have HTT := Lib.hid ht
    clear hz HT HE ht
    obtain ⟨c0a, c1a, f0a, f1a, za⟩ := H1.out.2.1
    have HB := Lib.hid H1.out.2.2
    go_wp2
    refine bodyPost_ret (v := .tuple #[.agg #[.int .i64 (0), .int .i64 (0)], .int .i64 (E)]) (by simp only [results, Tryz.results52]; go_simp) rfl ⟨?_, ?_⟩
    · exact ret_rat HTT.out
    · exact Below.setCell (Below.setCell HB.out (by show w.heap.size ≤ w.heap.size + 1; omega) _) (by show w.heap.size ≤ w.heap.size + 1; omega) _
set_option maxRecDepth 100000 in
set_option maxHeartbeats 1000000 in
theorem rdrum_any (p : PatD) (hl : p.xs.length ≤ 1000000) (A : Option Addr) (cap : Nat) (w : World) (hi : PatIn w p A) :
    Calls Tryz.prog 54 #[.agg #[.int .i64 p.a, .int .i64 p.b, .int .i64 p.c, .slice A p.xs.length cap]] w fun e w' => e = .returned (.tuple #[.int .i64 (druT p).1, .int .i64 (druT p).2, .int .i64 (valP p)]) ∧ Below w.heap.size w w' := by
  obtain ⟨T, hT⟩ : ∃ T, T = druT p := ⟨_, rfl⟩
  obtain ⟨E, hE⟩ : ∃ E, E = valP p := ⟨_, rfl⟩
  rw [← hT, ← hE]
  unfold druT at hT
  rw [← hE] at hT
  have HC := Lib.hid (fun w hi => rvalidateP_any p hl E hE.symm A cap w hi)
  have HT := Lib.hid hT
  have HE := Lib.hid hE
  have HI := Lib.hid hi
  clear hi hT hE
  go_enter Tryz.func54, Tryz.ntmps54
  go_wp2_with fail
  obtain ⟨a0, a1, a2⟩ := al1 w (.cells #[.int .i64 p.a, .int .i64 p.b, .int .i64 p.c, .slice A p.xs.length cap] 24)
  obtain ⟨V, hV⟩ : ∃ V, V = w.alloc (.cells #[.int .i64 p.a, .int .i64 p.b, .int .i64 p.c, .slice A p.xs.length cap] 24) := ⟨_, rfl⟩
  rw [← hV] at a0 a1 a2 ⊢
  refine (HC.out V (HI.out.below a2)).mono ?_
  rintro e w1 ⟨rfl, hb1⟩
  have H1 := Lib.hid (show PBox w1 w.heap.size p.a p.b p.c (.slice A p.xs.length cap) ∧ Below w.heap.size w w1 from ⟨PBox.keep (w := V) a1 hb1, a2.trans (hb1.mono a2.size)⟩)
  clear hV a0 a1 a2 HC hb1 V
  by_cases hz : E = 0
  · subst hz
    have hv : valP p = 0 := HE.out.symm
    have hT := HT.out
    rw [if_neg (by simp)] at hT
    have HL := Lib.hid (rleast_q p (valP_zero hv).ok.wide A cap w1 (HI.out.below H1.out.2))
    have hg := lst_good hv
    obtain ⟨q, hq⟩ : ∃ q, q = lst (colF p) := ⟨_, rfl⟩
    rw [← hq] at hT HL hg
    have ga0 := hg.a0
    have ga1 := hg.a1
    have gb0 := hg.b0
    have gb1 := hg.b1
    have gc0 := hg.c0
    have gc1 := hg.c1
    have hac := hg.ac
    obtain ⟨k1, k2, k3, k4⟩ := drum_spec (b := q.b) ga0 gc0
    obtain ⟨a, ha⟩ : ∃ a, a = q.a := ⟨_, rfl⟩
    obtain ⟨b, hb⟩ : ∃ a, a = q.b := ⟨_, rfl⟩
    obtain ⟨c, hc⟩ : ∃ a, a = q.c := ⟨_, rfl⟩
    rw [← ha] at hT ga0 ga1 gb1 hac k1 k2 k3 k4 HL
    rw [← hb] at hT gb0 gb1 k1 k2 k3 k4 HL
    rw [← hc] at hT gc0 gc1 hac k1 k2 k3 k4 HL
    obtain ⟨dd, hdd⟩ : ∃ d, d = drumY a b c := ⟨_, rfl⟩
    rw [← hdd] at hT k1 k2 k3 k4
    rw [Int.mul_comm a c] at hac
    have hd9 : dd ≤ 144 := by omega
    have HK := Lib.hid (And.intro k3 k4)
    have HTT := Lib.hid hT
    have HRL := Lib.hid (fun s dx dy h1 h2 h3 h4 w => rlat_any a b c s dx dy ga0 (by omega) gb0 (by omega) gc0 (by omega) h1 h2 h3 h4 w)
    clear hv hg hq hT HT HE ha hb hc hdd hac k2 k3 k4
    obtain ⟨q0, q1, q2, q3, q4⟩ := H1.out.1.cells
    go_wp2_with fail
    refine HL.out.mono ?_
    rintro e w2 ⟨v, rfl, ho, hb2⟩
    obtain ⟨A3, n3, rfl, -⟩ := ho.isL
    obtain ⟨l3, hl3⟩ : ∃ l3, l3 = q.xs.length := ⟨_, rfl⟩
    rw [← hl3]
    have H2 := Lib.hid (H1.out.2.trans (hb2.mono H1.out.2.size))
    clear ho hb2 hl3 H1 HL q0 q1 q2 q3 q4
    go_upto_region 6 with fail
    obtain ⟨a0, a1, a2⟩ := al1 w2 (.cells #[.int .i64 a, .int .i64 b, .int .i64 c, .slice A3 l3 n3] 24)
    obtain ⟨V, hV⟩ : ∃ V, V = w2.alloc (.cells #[.int .i64 a, .int .i64 b, .int .i64 c, .slice A3 l3 n3] 24) := ⟨_, rfl⟩
    rw [← hV] at a0 a1 a2 ⊢
    have R0 := Lib.hid (show PBox V w2.heap.size a b c (.slice A3 l3 n3) ∧ Below w.heap.size w V from ⟨a1, H2.out.trans (a2.mono H2.out.size)⟩)
    clear hV a0 a1 a2 H2
    go_loopw [7] (fun s wr => ∃ x : Int, s = .int .i64 x ∧ 1 ≤ x ∧ x ≤ dd ∧ Hid (PBox wr w2.heap.size a b c (.slice A3 l3 n3) ∧ Below w.heap.size w wr)) (fun s _ => (dd - intOf s).toNat)
    case atStart => exact ⟨1, rfl, by omega, by omega, R0⟩
    case round =>
      clear R0
      obtain ⟨x, rfl, hx1, hxd, hr⟩ := hrel
      obtain ⟨q0, q1, q2, q3, q4⟩ := hr.out.1.cells
      have HCL := Lib.hid (HRL.out (.slice A3 l3 n3) 0 x (by omega) (by omega) (by omega) (by omega) wr)
      go_wp2_with fail
      refine HCL.out.mono ?_
      rintro e w3 ⟨rfl, hb3⟩
      have R3 := Lib.hid (And.intro (hr.out.1.keep hb3) (hr.out.2.trans (hb3.mono hr.out.2.size)))
      clear hr hb3 HCL q0 q1 q2 q3 q4
      by_cases hlt : x < dd
      · have dl : decide (Lat a b c 0 x) = false := decide_eq_false (HK.out.2 x (by omega) hlt)
        rw [dl]
        go_wp2
        go_roundw
        case rel => exact ⟨x + 1, by go_num, by omega, by omega, R3⟩
        case measure => simp [intOf]; omega
      · obtain rfl : dd = x := by omega
        have dl : decide (Lat a b c 0 dd) = true := decide_eq_true HK.out.1
        rw [dl]
        clear dl hlt
        go_upto_region 8 with fail
        go_loopw [8] (fun t wr => ∃ y : Int, t = .int .i64 y ∧ 1 ≤ y ∧ y ≤ a ∧ Hid (PBox wr w2.heap.size a b c (.slice A3 l3 n3) ∧ Below w.heap.size w wr)) (fun t _ => (a - intOf t).toNat)
        case atStart => exact ⟨1, rfl, by omega, by omega, R3⟩
        case round =>
          clear R3
          obtain ⟨y, rfl, hy1, hya, hr⟩ := hrel
          obtain ⟨q0, q1, q2, q3, q4⟩ := hr.out.1.cells
          have HCL := Lib.hid (HRL.out (.slice A3 l3 n3) y 0 (by omega) (by omega) (by omega) (by omega) wr)
          go_wp2_with fail
          refine HCL.out.mono ?_
          rintro e w4 ⟨rfl, hb4⟩
          have R4 := Lib.hid (And.intro (hr.out.1.keep hb4) (hr.out.2.trans (hb4.mono hr.out.2.size)))
          clear hr hb4 HCL q0 q1 q2 q3 q4
          by_cases hly : y < a
          · have dl : decide (Lat a b c y 0) = false := decide_eq_false (fun h => by have := lat_row.1 h; rw [Int.emod_eq_of_lt (by omega) hly] at this; omega)
            rw [dl]
            go_wp2
            go_roundw
            case rel => exact ⟨y + 1, by go_num, by omega, by omega, R4⟩
            case measure => simp [intOf]; omega
          · obtain rfl : a = y := by omega
            have dl : decide (Lat a b c a 0) = true := decide_eq_true (lat_row.2 Int.emod_self)
            rw [dl]
            clear dl hly
            go_wp2
            go_ret3
            exact ⟨by rw [HTT.out] <;> rfl, R4.out.2⟩
  · have d1 : (E == 0) = false := by rw [beq_eq_false_iff_ne]; exact hz
    have d2 : (E != 0) = true := by rw [bne_iff_ne]; exact hz
    have HT2 := Lib.hid (show T = (0, 0) by rw [HT.out, if_pos hz])
    clear hz HT HE
    go_wp2
    go_ret3
    exact ⟨by rw [HT2.out] <;> rfl, H1.out.2⟩
end Go.Proofs.YtgmokojdlbdjeaaGreatDoor
