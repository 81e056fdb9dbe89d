/-
  THE REFERENCE: within, Takes, wrong.
-/
import Derived.Test.YtdgmpaijpjkeoaaLotH
namespace Go.Proofs.Ytdgmpaijpjkeoaa
open Go.RowKit
attribute [local go_sem] grow_cell grow_frozen
set_option maxRecDepth 100000 in
theorem rwithin_any (n lo hi : Int) (r : Bool) (hr : (decide (lo ≤ n) && decide (n ≤ hi)) = r) (w : World) :
    Calls Try.prog 78 #[.int .i64 n, .int .i64 lo, .int .i64 hi] w fun e w' => e = .returned (.bool r) ∧ w = w' := by
  by_cases h : lo ≤ n
  · rw [decide_eq_true h, Bool.true_and] at hr
    have HR := Lib.hid hr
    clear hr
    have d1 : decide (lo ≤ n) = true := decide_eq_true h
    go_enter Try.func78, Try.ntmps78
    go_wp2
    go_ret
    exact ⟨by rw [← HR.out]; rfl, rfl⟩
  · rw [decide_eq_false h, Bool.false_and] at hr
    have HR := Lib.hid hr
    clear hr
    have d1 : decide (lo ≤ n) = false := decide_eq_false h
    go_enter Try.func78, Try.ntmps78
    go_wp2
    go_ret
    exact ⟨by rw [← HR.out]; rfl, rfl⟩
set_option maxRecDepth 100000 in
set_option maxHeartbeats 400000 in
theorem rtakes_any (x : LotD) (A : Option Addr) (c : Nat) (w : World) (hP : PartsIn w A x.parts) (hS : SmallP x.parts) :
    Calls Try.prog 22 #[.agg #[.int .i64 x.kind, .int .i64 x.mass, .slice A x.parts.length c]] w fun e w' => e = .returned (.int .i64 (sumP x.parts)) ∧ Below w.heap.size w w' := by
  obtain ⟨kd, ms, ps⟩ := x
  simp only at hP hS ⊢
  have HP := Lib.hid hP
  have HS := Lib.hid hS
  clear hP hS
  go_enter Try.func22, Try.ntmps22
  go_wp2
  go_loopw [3, 4] (fun v i wr => ∃ k : Nat, v = .int .i64 (sumP (ps.take k)) ∧ i = .int .i64 k ∧ k ≤ ps.length ∧ wr = w.alloc (.cells #[.int .i64 kd, .int .i64 ms, .slice A ps.length c] 37)) (fun _ i _ => ps.length - (intOf i).toNat)
  case atStart => exact ⟨0, rfl, rfl, by omega, rfl⟩
  case round =>
    obtain ⟨k, rfl, rfl, hk, rfl⟩ := hrel
    by_cases hlt : k < ps.length
    · obtain ⟨b, o, rfl, hb, hc⟩ := HP.out.2 (by omega)
      obtain ⟨q0, q1⟩ := hc k hlt
      have hbd := HS.out.bd k
      have hbd2 := HS.out.bd (k + 1)
      have hl := HS.out.1
      have ht := sumP_take hlt
      rw [ht] at hbd2
      have HT := Lib.hid ht
      obtain ⟨p, hp⟩ : ∃ p, ps[k] = p := ⟨_, rfl⟩
      rw [hp] at q0 q1 hbd2
      have HPP := Lib.hid hp
      obtain ⟨S, hS⟩ : ∃ S, S = sumP (ps.take k) := ⟨_, rfl⟩
      rw [← hS] at hbd hbd2 ⊢
      have HSS := Lib.hid hS
      clear hc ht hp hS
      go_wp2
      go_roundw
      case rel => exact ⟨k + 1, by rw [HT.out, ← HSS.out, HPP.out], by go_num, by omega, trivial⟩
      case measure => simp [intOf]; omega
    · obtain rfl : k = ps.length := by omega
      rw [List.take_length]
      go_wp2
      go_ret
      exact ⟨rfl, (by repeat' (first | (with_reducible exact Below.refl _ _) | (with_reducible assumption) | (with_reducible refine below_drewN ?_ _) | (with_reducible refine below_step (by assumption) ?_ ?_) | (with_reducible refine Below.alloc ?_ ?_ _) | (with_reducible refine Below.setCell ?_ ?_ _) | (with_reducible refine Below.drew ?_) | go_size | (exact Below.size (by assumption)) | (refine Nat.le_trans (Below.size (by assumption)) ?_)))⟩
theorem oily_take {l : List LotD} {ps : List (Int × Int)} {k : Nat} (h : k < ps.length) : oily l (ps.take (k + 1)) = (oily l (ps.take k) || (kindOf l ps[k].1 == 0)) := by
  unfold oily
  exact any_take ps _ h
theorem kindOf_at {l : List LotD} {j : Nat} (hj : j < l.length) : kindOf l (j : Int) = l[j].kind := by
  unfold kindOf
  rw [Int.toNat_natCast, List.getD_eq_getElem?_getD, List.getElem?_eq_getElem hj]; rfl
set_option maxRecDepth 100000 in
set_option maxHeartbeats 2000000 in
theorem wrong_any (l : List LotD) (i : Nat) (hi : i < l.length) (hl : l.length ≤ 1000) (A : Option Addr) (c : Nat) (w : World) (hL : LotsIn w A l) (hps : l[i].parts.length ≤ 1000) :
    Calls Try.prog 76 #[.slice A l.length c, .int .i64 i] w fun e w' => e = .returned (.int .i64 (lotE l i l[i])) ∧ Below w.heap.size w w' := by
  have HL := Lib.hid hL
  obtain ⟨b, o, rfl, hc⟩ := hL (by omega)
  obtain ⟨h1, h2, h3, h4, h5, A', c', h6, h8, h7⟩ := hc i hi
  obtain ⟨x, hx⟩ : ∃ x, x = l[i] := ⟨_, rfl⟩
  rw [← hx] at h1 h2 h4 h5 h6 h7 h8 hps ⊢
  have HP := Lib.hid h7
  obtain ⟨kd, ms, ps⟩ := x
  simp only at h1 h2 h4 h5 h6 h8 hps HP
  clear hc h7 hx
  obtain ⟨r1, hr1⟩ : ∃ r, r = (decide (0 ≤ kd) && decide (kd ≤ 7)) := ⟨_, rfl⟩
  obtain ⟨r2, hr2⟩ : ∃ r, r = (decide (1 ≤ ms) && decide (ms ≤ 100000)) := ⟨_, rfl⟩
  have hbad : (kd < 0 ∨ 8 ≤ kd ∨ ms < 1 ∨ 100000 < ms) ↔ ¬ (r1 = true ∧ r2 = true) := by
    rw [hr1, hr2]; simp; omega
  have HR1 := Lib.hid hr1.symm
  have HR2 := Lib.hid hr2.symm
  have HBAD := Lib.hid hbad
  clear hr1 hr2 hbad
  cases r1 with
  | false =>
    have HR := Lib.hid (show lotE l i ⟨kd, ms, ps⟩ = 1 by rw [lotE, if_pos (HBAD.out.2 (by simp))])
    go_enter Try.func76, Try.ntmps76
    go_wp2_with fail
    refine (rwithin_any kd 0 7 false HR1.out _).mono ?_
    rintro e w' ⟨rfl, rfl⟩
    go_wp2
    go_ret
    exact ⟨by rw [HR.out]; rfl, (by repeat' (first | (with_reducible exact Below.refl _ _) | (with_reducible assumption) | (with_reducible refine below_drewN ?_ _) | (with_reducible refine below_step (by assumption) ?_ ?_) | (with_reducible refine Below.alloc ?_ ?_ _) | (with_reducible refine Below.setCell ?_ ?_ _) | (with_reducible refine Below.drew ?_) | go_size | (exact Below.size (by assumption)) | (refine Nat.le_trans (Below.size (by assumption)) ?_)))⟩
  | true =>
    cases r2 with
    | false =>
      have HR := Lib.hid (show lotE l i ⟨kd, ms, ps⟩ = 1 by rw [lotE, if_pos (HBAD.out.2 (by simp))])
      go_enter Try.func76, Try.ntmps76
      go_wp2_with fail
      refine (rwithin_any kd 0 7 true HR1.out _).mono ?_
      rintro e w' ⟨rfl, rfl⟩
      go_wp2_with fail
      refine (rwithin_any ms 1 100000 false HR2.out _).mono ?_
      rintro e w' ⟨rfl, rfl⟩
      go_wp2
      go_ret
      exact ⟨by rw [HR.out]; rfl, (by repeat' (first | (with_reducible exact Below.refl _ _) | (with_reducible assumption) | (with_reducible refine below_drewN ?_ _) | (with_reducible refine below_step (by assumption) ?_ ?_) | (with_reducible refine Below.alloc ?_ ?_ _) | (with_reducible refine Below.setCell ?_ ?_ _) | (with_reducible refine Below.drew ?_) | go_size | (exact Below.size (by assumption)) | (refine Nat.le_trans (Below.size (by assumption)) ?_)))⟩
    | true =>
      have hno : ¬ (kd < 0 ∨ 8 ≤ kd ∨ ms < 1 ∨ 100000 < ms) := fun h => (HBAD.out.1 h) ⟨rfl, rfl⟩
      have HR := Lib.hid (show lotE l i ⟨kd, ms, ps⟩ = if 6 < ps.length then 4 else if badPs i [] ps = true then 1 else if ps.length = 0 then (if kd = 5 ∨ kd = 6 ∨ kd = 7 then 9 else 0) else if sumP ps < ms ∧ ¬ (kd = 5 ∧ oily l ps = true) then 9 else 0 by rw [lotE, if_neg hno])
      have k0 : 0 ≤ kd := by omega
      have k1 : kd < 8 := by omega
      have m0 : 1 ≤ ms := by omega
      have m1 : ms ≤ 100000 := by omega
      clear hno
      by_cases h0 : 6 < ps.length
      · have HR3 := Lib.hid (HR.out.trans (if_pos h0))
        go_enter Try.func76, Try.ntmps76
        go_wp2_with fail
        refine (rwithin_any kd 0 7 true HR1.out _).mono ?_
        rintro e w' ⟨rfl, rfl⟩
        go_wp2_with fail
        refine (rwithin_any ms 1 100000 true HR2.out _).mono ?_
        rintro e w' ⟨rfl, rfl⟩
        go_wp2
        go_ret
        exact ⟨by rw [HR3.out]; rfl, (by repeat' (first | (with_reducible exact Below.refl _ _) | (with_reducible assumption) | (with_reducible refine below_drewN ?_ _) | (with_reducible refine below_step (by assumption) ?_ ?_) | (with_reducible refine Below.alloc ?_ ?_ _) | (with_reducible refine Below.setCell ?_ ?_ _) | (with_reducible refine Below.drew ?_) | go_size | (exact Below.size (by assumption)) | (refine Nat.le_trans (Below.size (by assumption)) ?_)))⟩
      · have HR3 := Lib.hid (HR.out.trans (if_neg h0))
        have d0 : decide ((6 : Int) < (ps.length : Int)) = false := decide_eq_false (by omega)
        go_enter Try.func76, Try.ntmps76
        go_wp2_with fail
        refine (rwithin_any kd 0 7 true HR1.out _).mono ?_
        rintro e w' ⟨rfl, rfl⟩
        go_wp2_with fail
        refine (rwithin_any ms 1 100000 true HR2.out _).mono ?_
        rintro e w' ⟨rfl, rfl⟩
        go_wp2
        obtain ⟨W, hW⟩ : ∃ W, W = w.alloc (.cells #[.int .i64 kd, .int .i64 ms, .slice A' ps.length c'] 37) := ⟨_, rfl⟩
        rw [← hW]
        have q1 : W.cell? ⟨w.heap.size, 0, none⟩ = some (.int .i64 kd) := by rw [hW]; simp
        have q2 : W.cell? ⟨w.heap.size, 1, none⟩ = some (.int .i64 ms) := by rw [hW]; simp
        have q3 : W.cell? ⟨w.heap.size, 2, none⟩ = some (.slice A' ps.length c') := by rw [hW]; simp
        have qz : w.heap.size < W.heap.size := by rw [hW]; simp
        have HW := Lib.hid (show Below w.heap.size w W by rw [hW]; exact (by repeat' (first | (with_reducible exact Below.refl _ _) | (with_reducible assumption) | (with_reducible refine below_drewN ?_ _) | (with_reducible refine below_step (by assumption) ?_ ?_) | (with_reducible refine Below.alloc ?_ ?_ _) | (with_reducible refine Below.setCell ?_ ?_ _) | (with_reducible refine Below.drew ?_) | go_size | (exact Below.size (by assumption)) | (refine Nat.le_trans (Below.size (by assumption)) ?_))))
        have HPW := Lib.hid (HP.out.below HW.out)
        have HLW := Lib.hid (HL.out.below HW.out)
        clear hW h4 h5 h6 HL HP
        go_loopw [6, 7] (fun t u wr => ∃ j nd : Nat, t = .bool (oily l (ps.take j)) ∧ u = .int .i64 j ∧ j ≤ ps.length ∧ Hid (badPs i (ps.take j) (ps.drop j) = badPs i [] ps) ∧ Hid (∀ p ∈ ps.take j, 0 ≤ p.1 ∧ p.1 < i ∧ 1 ≤ p.2 ∧ p.2 ≤ 100000) ∧ wr = W.drewN nd) (fun _ u _ => ps.length - (intOf u).toNat)
        case atStart => exact ⟨0, 0, rfl, rfl, by omega, Lib.hid (by simp), Lib.hid (by simp), rfl⟩
        case round =>
          obtain ⟨j, nd, rfl, rfl, hj, hbp, hok, rfl⟩ := hrel
          obtain ⟨ob, hob⟩ : ∃ ob, ob = oily l (ps.take j) := ⟨_, rfl⟩
          rw [← hob]
          have HOB := Lib.hid hob
          clear hob
          by_cases hlt : j < ps.length
          · obtain ⟨b', o', rfl, hb', hcc⟩ := HPW.out.2 (by omega)
            obtain ⟨p0, p1⟩ := hcc j hlt
            have h64 := HPW.out.1 _ (List.getElem_mem hlt)
            have hst := bad_step (i := i) hlt
            have hot := oily_take (l := l) hlt
            have htk := List.take_succ_eq_append_getElem hlt
            obtain ⟨x, hx⟩ : ∃ x, ps[j] = x := ⟨_, rfl⟩
            rw [hx] at p0 p1 h64 hst hot htk
            have HX := Lib.hid hx
            have HS := Lib.hid hst
            have HOT := Lib.hid hot
            have HTK := Lib.hid htk
            have HCC := Lib.hid hcc
            clear hx hst hot htk hcc
            obtain ⟨x1, x2⟩ := x
            simp only at p0 p1 h64
            obtain ⟨cc, hcc⟩ : ∃ cc, cc = (decide (x1 < 0) || decide ((i : Int) ≤ x1) || decide (x2 < 1) || decide (100000 < x2)) := ⟨_, rfl⟩
            obtain ⟨rp, hrp⟩ : ∃ rp, rp = (decide (1 ≤ x2) && decide (x2 ≤ 100000)) := ⟨_, rfl⟩
            have HBD := Lib.hid (show badP i (ps.take j) (x1, x2) = (cc || (ps.take j).any fun q => q.1 == x1) by rw [hcc]; rfl)
            have HCB := Lib.hid hcc
            have HRP := Lib.hid hrp.symm
            have hrc : rp = false → cc = true := fun h => by rw [hrp] at h; rw [hcc]; simp at h ⊢; omega
            have hrc2 : rp = true → 0 ≤ x1 → x1 < i → cc = false := fun h g1 g2 => by rw [hrp] at h; rw [hcc]; simp at h ⊢; omega
            have hcg : cc = false → 0 ≤ x1 ∧ x1 < i ∧ 1 ≤ x2 ∧ x2 ≤ 100000 := fun h => by rw [hcc] at h; simp at h; omega
            have hlow : x1 < 0 → cc = true := fun h => by rw [hcc]; simp [h]
            have hhigh : (i : Int) ≤ x1 → cc = true := fun h => by rw [hcc]; simp [h]
            have HRC := Lib.hid hrc
            have HRC2 := Lib.hid hrc2
            have HCG := Lib.hid hcg
            have HLO := Lib.hid hlow
            have HHI := Lib.hid hhigh
            clear hcc hrp hrc hrc2 hcg hlow hhigh
            go_upto_region 10 with fail
            go_cut [60] (fun s wx => s = .bool cc ∧ wx = W.drewN nd)
            case first =>
              as_aux_lemma =>
                by_cases c1 : x1 < 0
                · have HE := Lib.hid (HLO.out c1)
                  go_wp2_with fail
                  go_meet
                  exact ⟨by rw [HE.out], rfl⟩
                · by_cases c2 : (i : Int) ≤ x1
                  · have HE := Lib.hid (HHI.out c2)
                    have d1 : decide ((i : Int) ≤ x1) = true := decide_eq_true c2
                    go_wp2_with fail
                    go_meet
                    exact ⟨by rw [HE.out], rfl⟩
                  · have d1 : decide ((i : Int) ≤ x1) = false := decide_eq_false c2
                    cases rp with
                    | false =>
                      have HE := Lib.hid (HRC.out rfl)
                      go_wp2_with fail
                      refine (rwithin_any x2 1 100000 false HRP.out _).mono ?_
                      rintro e w' ⟨rfl, rfl⟩
                      go_wp2_with fail
                      go_meet
                      exact ⟨by rw [HE.out], rfl⟩
                    | true =>
                      have HE := Lib.hid (HRC2.out rfl (by omega) (by omega))
                      go_wp2_with fail
                      refine (rwithin_any x2 1 100000 true HRP.out _).mono ?_
                      rintro e w' ⟨rfl, rfl⟩
                      go_wp2_with fail
                      go_meet
                      exact ⟨by rw [HE.out], rfl⟩
            case rest =>
            obtain ⟨rfl, rfl⟩ := hcut
            cases cc with
            | true =>
              have H2 := Lib.hid (HR3.out.trans (if_pos (by rw [← hbp.out, HS.out, HBD.out]; rfl)))
              go_wp2
              go_ret
              exact ⟨by rw [H2.out]; rfl, below_drewN HW.out _⟩
            | false =>
              obtain ⟨g1, g2, g3, g4⟩ := HCG.out rfl
              go_wp2
              go_loopw [8] (fun t wq => ∃ k nd' : Nat, t = .int .i64 k ∧ k ≤ j ∧ Hid (((ps.take j).take k).any (fun q => q.1 == x1) = false) ∧ wq = W.drewN nd') (fun t _ => j - (intOf t).toNat)
              case atStart => exact ⟨0, nd, rfl, by omega, Lib.hid (by simp), rfl⟩
              case round =>
                obtain ⟨k, nd', rfl, hk, hany, rfl⟩ := hrel
                by_cases hkj : k < j
                · obtain ⟨e0, e1⟩ := HCC.out k (by omega)
                  have h64' := HPW.out.1 _ (List.getElem_mem (show k < ps.length by omega))
                  have hat := any_take (ps.take j) (fun q => q.1 == x1) (k := k) (by rw [List.length_take]; omega)
                  have hah := any_hit (ps.take j) (fun q => q.1 == x1) (k := k) (by rw [List.length_take]; omega)
                  rw [hany.out, Bool.false_or] at hat
                  rw [List.getElem_take] at hat hah
                  obtain ⟨y, hy⟩ : ∃ y, ps[k] = y := ⟨_, rfl⟩
                  rw [hy] at e0 e1 h64' hat hah
                  obtain ⟨y1, y2⟩ := y
                  simp only at e0 e1 h64' hat hah
                  have HAT := Lib.hid hat
                  have HAH := Lib.hid hah
                  clear hat hah hy
                  by_cases hyx : y1 = x1
                  · have H2 := Lib.hid (HR3.out.trans (if_pos (by rw [← hbp.out, HS.out, HBD.out, HAH.out (by rw [beq_iff_eq]; exact hyx)]; rfl)))
                    have d1 : (y1 == x1) = true := by rw [beq_iff_eq]; exact hyx
                    clear hyx
                    go_wp2
                    go_quiet (fail)
                    go_wp2
                    go_ret
                    exact ⟨by rw [H2.out]; rfl, below_drewN (below_drewN HW.out _) _⟩
                  · have d1 : (y1 == x1) = false := by rw [beq_eq_false_iff_ne]; exact hyx
                    have H2 := Lib.hid (HAT.out.trans d1)
                    clear hyx
                    go_wp2
                    go_quiet (fail)
                    go_wp2
                    go_roundw
                    case rel => exact ⟨k + 1, _, by go_num, by omega, H2, rfl⟩
                    case measure => simp [intOf]; omega
                · obtain rfl : k = j := by omega
                  have hany2 := hany.out
                  rw [List.take_of_length_le (by rw [List.length_take]; omega)] at hany2
                  have H2 := Lib.hid (show badPs i (ps.take (k + 1)) (ps.drop (k + 1)) = badPs i [] ps by rw [← hbp.out, HS.out, HBD.out, hany2]; rfl)
                  have H3 := Lib.hid (show ∀ p ∈ ps.take (k + 1), 0 ≤ p.1 ∧ p.1 < i ∧ 1 ≤ p.2 ∧ p.2 ≤ 100000 from fun p hp => by
                    rw [HTK.out] at hp
                    rcases List.mem_append.1 hp with hp | hp
                    · exact hok.out p hp
                    · simp at hp; subst hp; exact ⟨g1, g2, g3, g4⟩)
                  clear hany2
                  obtain ⟨n1, rfl⟩ : ∃ n1 : Nat, x1 = n1 := ⟨x1.toNat, by omega⟩
                  have hn1 : n1 < l.length := by omega
                  cases ob with
                  | true =>
                    have H4 := Lib.hid (show oily l (ps.take (k + 1)) = true by rw [HOT.out, ← HOB.out]; rfl)
                    go_wp2
                    go_roundw
                    case rel => exact ⟨k + 1, nd', by rw [H4.out], by go_num, by omega, H2, H3, rfl⟩
                    case measure => simp [intOf]; omega
                  | false =>
                    obtain ⟨bb, oo, hA, hll⟩ := HLW.out (by omega)
                    cases hA
                    obtain ⟨f1, f2, f3, f4, -⟩ := hll n1 hn1
                    have H4 := Lib.hid (show oily l (ps.take (k + 1)) = (l[n1].kind == 0) by rw [HOT.out, ← HOB.out, Bool.false_or, kindOf_at hn1])
                    obtain ⟨kk, hkk⟩ : ∃ kk, kk = l[n1].kind := ⟨_, rfl⟩
                    rw [← hkk] at f1 f4 H4
                    clear hll hkk
                    go_wp2
                    go_roundw
                    case rel => exact ⟨k + 1, nd', by rw [H4.out], by go_num, by omega, H2, H3, rfl⟩
                    case measure => simp [intOf]; omega
          · obtain rfl : j = ps.length := by omega
            rw [List.take_length] at HOB hok
            have hbf : badPs i [] ps = false := by rw [← hbp.out, List.drop_length]; rfl
            have HR4 := Lib.hid (HR3.out.trans (if_neg (by rw [hbf]; decide)))
            clear hbf
            by_cases hz : ps.length = 0
            · have HR5 := Lib.hid (HR4.out.trans (if_pos hz))
              have e0 : ((ps.length : Int) == 0) = true := by rw [hz]; rfl
              rcases (by omega : kd = 5 ∨ kd = 6 ∨ kd = 7 ∨ kd < 5) with rfl | rfl | rfl | hk
              · have HR6 := Lib.hid (HR5.out.trans (if_pos (by decide)))
                clear hz
                go_wp2
                go_ret
                exact ⟨by rw [HR6.out]; rfl, below_drewN HW.out _⟩
              · have HR6 := Lib.hid (HR5.out.trans (if_pos (by decide)))
                clear hz
                go_wp2
                go_ret
                exact ⟨by rw [HR6.out]; rfl, below_drewN HW.out _⟩
              · have HR6 := Lib.hid (HR5.out.trans (if_pos (by decide)))
                clear hz
                go_wp2
                go_ret
                exact ⟨by rw [HR6.out]; rfl, below_drewN HW.out _⟩
              · have HR6 := Lib.hid (HR5.out.trans (if_neg (by omega)))
                clear hz
                have e5 : (kd == 5) = false := by rw [beq_eq_false_iff_ne]; omega
                have e6 : (kd == 6) = false := by rw [beq_eq_false_iff_ne]; omega
                have e7 : (kd == 7) = false := by rw [beq_eq_false_iff_ne]; omega
                go_wp2
                go_ret
                exact ⟨by rw [HR6.out]; rfl, below_drewN HW.out _⟩
            · have HR5 := Lib.hid (HR4.out.trans (if_neg hz))
              have e0 : ((ps.length : Int) == 0) = false := by rw [beq_eq_false_iff_ne]; omega
              have hsm : SmallP ps := ⟨by omega, fun p hp => by have := hok.out p hp; omega⟩
              have hsb := sumP_bd (fun p hp => ⟨(hok.out p hp).2.2.1, (hok.out p hp).2.2.2⟩)
              have HSM := Lib.hid hsm
              obtain ⟨S, hS⟩ : ∃ S, S = sumP ps := ⟨_, rfl⟩
              rw [← hS] at HR5 hsb
              rw [← HOB.out] at HR5
              have htk := fun x => rtakes_any ⟨kd, ms, ps⟩ A' c' (grow (W.drewN nd) x) ((HPW.out.below (below_drewN (Below.refl _ _) nd)).below (below_grow (W.drewN nd) x)) HSM.out
              simp only [← hS] at htk
              have HTKK := Lib.hid htk
              have HBW := Lib.hid (below_drewN HW.out nd)
              have qz2 : w.heap.size < (W.drewN nd).heap.size := qz
              obtain ⟨V, hV⟩ : ∃ V, V = W.drewN nd := ⟨_, rfl⟩
              have r1' : V.cell? ⟨w.heap.size, 0, none⟩ = some (.int .i64 kd) := by rw [hV]; exact q1
              have r2' : V.cell? ⟨w.heap.size, 1, none⟩ = some (.int .i64 ms) := by rw [hV]; exact q2
              have r3' : V.cell? ⟨w.heap.size, 2, none⟩ = some (.slice A' ps.length c') := by rw [hV]; exact q3
              rw [← hV] at HTKK HBW qz2 ⊢
              clear hz hS htk hV q1 q2 q3 qz
              by_cases hms : S < ms
              · have dm : decide (S < ms) = true := decide_eq_true hms
                by_cases h5 : kd = 5
                · subst h5
                  cases ob with
                  | true =>
                    have HR6 := Lib.hid (HR5.out.trans (if_neg (by simp)))
                    clear hms
                    go_wp2
                    refine region_grow (by kernel_rfl) (by kernel_rfl) ?_
                    repeat (go_big_quiet_step ((go_at_call 22; exact grow_call (HTKK.out _))))
                    refine wpQuiet_nil ?_
                    rintro w3 ⟨xg, hxg⟩
                    have hb3 := below_grow V xg
                    rw [← hxg] at hb3
                    clear hxg xg
                    have HW3 := Lib.hid (HBW.out.trans (hb3.mono HBW.out.size))
                    clear hb3
                    go_wp2
                    go_ret
                    exact ⟨by rw [HR6.out]; rfl, HW3.out⟩
                  | false =>
                    have HR6 := Lib.hid (HR5.out.trans (if_pos ⟨hms, by simp⟩))
                    clear hms
                    go_wp2
                    refine region_grow (by kernel_rfl) (by kernel_rfl) ?_
                    repeat (go_big_quiet_step ((go_at_call 22; exact grow_call (HTKK.out _))))
                    refine wpQuiet_nil ?_
                    rintro w3 ⟨xg, hxg⟩
                    have hb3 := below_grow V xg
                    rw [← hxg] at hb3
                    clear hxg xg
                    have HW3 := Lib.hid (HBW.out.trans (hb3.mono HBW.out.size))
                    clear hb3
                    go_wp2
                    go_ret
                    exact ⟨by rw [HR6.out]; rfl, HW3.out⟩
                · have HR6 := Lib.hid (HR5.out.trans (if_pos ⟨hms, fun h => h5 h.1⟩))
                  have e5 : (kd == 5) = false := by rw [beq_eq_false_iff_ne]; exact h5
                  clear hms h5
                  go_wp2
                  refine region_grow (by kernel_rfl) (by kernel_rfl) ?_
                  repeat (go_big_quiet_step ((go_at_call 22; exact grow_call (HTKK.out _))))
                  refine wpQuiet_nil ?_
                  rintro w3 ⟨xg, hxg⟩
                  have hb3 := below_grow V xg
                  rw [← hxg] at hb3
                  clear hxg xg
                  have HW3 := Lib.hid (HBW.out.trans (hb3.mono HBW.out.size))
                  clear hb3
                  go_wp2
                  go_ret
                  exact ⟨by rw [HR6.out]; rfl, HW3.out⟩
              · have dm : decide (S < ms) = false := decide_eq_false hms
                have HR6 := Lib.hid (HR5.out.trans (if_neg (fun h => hms h.1)))
                clear hms
                go_wp2
                refine region_grow (by kernel_rfl) (by kernel_rfl) ?_
                repeat (go_big_quiet_step ((go_at_call 22; exact grow_call (HTKK.out _))))
                refine wpQuiet_nil ?_
                rintro w3 ⟨xg, hxg⟩
                have hb3 := below_grow V xg
                rw [← hxg] at hb3
                clear hxg xg
                have HW3 := Lib.hid (HBW.out.trans (hb3.mono HBW.out.size))
                clear hb3
                go_wp2
                go_ret
                exact ⟨by rw [HR6.out]; rfl, HW3.out⟩
end Go.Proofs.Ytdgmpaijpjkeoaa
