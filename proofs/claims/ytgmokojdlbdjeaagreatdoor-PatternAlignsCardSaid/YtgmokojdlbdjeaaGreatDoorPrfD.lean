/-
  THE REFERENCE: Validate, Least, Equal.
-/
import Derived.Test.YtgmokojdlbdjeaaGreatDoorPrfC
namespace Go.Proofs.YtgmokojdlbdjeaaGreatDoor
open Go.RowKit
theorem badC_within (x : Int) : (decide (0 ≤ x) && decide (x ≤ 7)) = !badC x := by
  unfold badC
  by_cases h1 : x < 0
  · rw [decide_eq_false (by omega : ¬ 0 ≤ x), decide_eq_true h1]; rfl
  · rw [decide_eq_true (by omega : 0 ≤ x), decide_eq_false h1]
    by_cases h2 : 8 ≤ x
    · rw [decide_eq_true h2, decide_eq_false (by omega : ¬ x ≤ 7)]; rfl
    · rw [decide_eq_false h2, decide_eq_true (by omega : x ≤ 7)]; rfl
set_option maxRecDepth 100000 in
set_option maxHeartbeats 1000000 in
theorem rvalidateP_any (p : PatD) (hl : p.xs.length ≤ 1000000) (z : Int) (hz : valP p = z) (A : Option Addr) (cap : Nat) (w : World) (hi : PatIn w p A) :
    Calls Tryz.prog 40 #[.agg #[.int .i64 p.a, .int .i64 p.b, .int .i64 p.c, .slice A p.xs.length cap]] w fun e w' => e = .returned (.int .i64 z) ∧ Below w.heap.size w w' := by
  obtain ⟨a, b, c, xs⟩ := p
  simp only at hl ⊢
  have HI := Lib.hid (show IsL w A xs.length xs from hi)
  have HZ := Lib.hid (show (if a < 1 ∨ 144 < a ∨ c < 1 ∨ 144 < c ∨ b < 0 ∨ a ≤ b then 1 else if 144 < a * c then 4 else if (xs.length : Int) ≠ a * c ∨ xs.any badC = true then 1 else 0) = z from hz)
  clear hi hz
  obtain ⟨r1, hr1⟩ : ∃ r, (decide (1 ≤ a) && decide (a ≤ 144)) = r := ⟨_, rfl⟩
  obtain ⟨r2, hr2⟩ : ∃ r, (decide (1 ≤ c) && decide (c ≤ 144)) = r := ⟨_, rfl⟩
  obtain ⟨r3, hr3⟩ : ∃ r, (decide (0 ≤ b) && decide (b ≤ a - 1)) = r := ⟨_, rfl⟩
  have hor : (a < 1 ∨ 144 < a ∨ c < 1 ∨ 144 < c ∨ b < 0 ∨ a ≤ b) ↔ ¬ (r1 = true ∧ r2 = true ∧ r3 = true) := by
    rw [← hr1, ← hr2, ← hr3]; simp only [Bool.and_eq_true, decide_eq_true_eq]; omega
  have W1 := Lib.hid (pwithin_any a 1 144 r1 hr1)
  have W2 := Lib.hid (pwithin_any c 1 144 r2 hr2)
  have W3 := Lib.hid (pwithin_any b 0 (a - 1) r3 hr3)
  have HOR := Lib.hid hor
  by_cases hall : r1 = true ∧ r2 = true ∧ r3 = true
  · obtain ⟨rfl, rfl, rfl⟩ := hall
    simp only [Bool.and_eq_true, decide_eq_true_eq] at hr1 hr2 hr3
    have hz2 := HZ.out
    rw [if_neg (fun h => (hor.1 h) ⟨rfl, rfl, rfl⟩)] at hz2
    obtain ⟨a0, a1⟩ := hr1
    obtain ⟨c0, c1⟩ := hr2
    obtain ⟨b0, b1⟩ := hr3
    have hac : a * c ≤ 144 * 144 := Int.mul_le_mul a1 c1 (by omega) (by omega)
    have hac0 : 0 ≤ a * c := Int.mul_nonneg (by omega) (by omega)
    obtain ⟨m, hm⟩ : ∃ m, m = a * c := ⟨_, rfl⟩
    have k1 : IntKind.i64.wrap (a * c) = m := by rw [hm]; exact IntWalk.i64_in _ (by omega)
    rw [← hm] at hz2 hac hac0
    clear hm HZ hor HOR
    by_cases h2 : 144 < m
    · have HR := Lib.hid (show 4 = z by rw [← hz2, if_pos h2])
      have d7 : decide (144 < m) = true := decide_eq_true h2
      clear hz2
      go_enter Tryz.func40, Tryz.ntmps40
      go_wp2_with (go_at_call 71; (first | (with_reducible refine (W1.out _).mono ?_) | (with_reducible refine (W2.out _).mono ?_) | (with_reducible refine (W3.out _).mono ?_)); rintro e w' ⟨rfl, rfl⟩)
      go_ret
      exact ⟨by rw [← HR.out]; rfl, (by repeat' (first | (with_reducible exact Below.refl _ _) | (with_reducible assumption) | (with_reducible refine below_drewN ?_ _) | (with_reducible refine below_step (by assumption) ?_ ?_) | (with_reducible refine Below.alloc ?_ ?_ _) | (with_reducible refine Below.setCell ?_ ?_ _) | (with_reducible refine Below.drew ?_) | go_size | (exact Below.size (by assumption)) | (refine Nat.le_trans (Below.size (by assumption)) ?_)))⟩
    · rw [if_neg h2] at hz2
      have d7 : decide (144 < m) = false := decide_eq_false h2
      by_cases h3 : (xs.length : Int) = m
      · have d8 : ((xs.length : Int) != m) = false := by simp [h3]
        have HR := Lib.hid (show (if xs.any badC = true then 1 else 0) = z by
          rw [← hz2]
          by_cases hb : xs.any badC = true
          · rw [if_pos hb, if_pos (.inr hb)]
          · rw [if_neg hb, if_neg (fun h => h.elim (fun h => h h3) hb)])
        clear hz2 h3 h2
        go_enter Tryz.func40, Tryz.ntmps40
        go_upto_region 8 with (go_at_call 71; (first | (with_reducible refine (W1.out _).mono ?_) | (with_reducible refine (W2.out _).mono ?_) | (with_reducible refine (W3.out _).mono ?_)); rintro e w' ⟨rfl, rfl⟩)
        obtain ⟨W, hW⟩ : ∃ W, W = w.alloc (.cells #[.int .i64 a, .int .i64 b, .int .i64 c, .slice A xs.length cap] 24) := ⟨_, rfl⟩
        rw [← hW]
        have hbl := Lib.hid (show Below w.heap.size w W by rw [hW]; exact (by repeat' (first | (with_reducible exact Below.refl _ _) | (with_reducible assumption) | (with_reducible refine below_drewN ?_ _) | (with_reducible refine below_step (by assumption) ?_ ?_) | (with_reducible refine Below.alloc ?_ ?_ _) | (with_reducible refine Below.setCell ?_ ?_ _) | (with_reducible refine Below.drew ?_) | go_size | (exact Below.size (by assumption)) | (refine Nat.le_trans (Below.size (by assumption)) ?_))))
        obtain ⟨q0, q1, q2, q3, q4⟩ := (show PBox W w.heap.size a b c (.slice A xs.length cap) by rw [hW]; exact PBox.new w a b c _).cells
        clear hW d7 d8 k1
        go_loopw [3] (fun t wr => ∃ k : Nat, t = .int .i64 k ∧ k ≤ xs.length ∧ wr = W ∧ Hid ((xs.take k).any badC = false)) (fun t _ => xs.length - (intOf t).toNat)
        case atStart => exact ⟨0, rfl, by omega, rfl, Lib.hid (by simp)⟩
        case round =>
          obtain ⟨k, rfl, hk, rfl, hr⟩ := hrel
          by_cases hlt : k < xs.length
          · obtain ⟨bk, o, rfl, hbz, hcx⟩ := (HI.out.below hbl.out).2 (by omega)
            have r1 := hcx k hlt
            have hat := pany_take xs badC hlt
            have hah := pany_hit xs badC hlt
            rw [hr.out, Bool.false_or] at hat
            rw [pgetD_at hlt] at hat hah
            obtain ⟨x, hx⟩ : ∃ x, x = xs.getD k 0 := ⟨_, rfl⟩
            rw [← hx] at r1 hat hah
            have WX := Lib.hid (pwithin_any x 0 7 (!badC x) (badC_within x))
            obtain ⟨t, ht⟩ : ∃ t, t = badC x := ⟨_, rfl⟩
            rw [← ht] at hat hah WX
            have HAT := Lib.hid hat
            have HAH := Lib.hid hah
            clear hcx hx ht hat hah
            cases t with
            | true =>
              have HR2 := Lib.hid (show 1 = z by rw [← HR.out, if_pos (HAH.out rfl)])
              go_wp2_with fail
              refine (WX.out _).mono ?_
              rintro e w' ⟨rfl, rfl⟩
              go_wp2
              go_ret
              exact ⟨by rw [← HR2.out]; rfl, hbl.out⟩
            | false =>
              go_wp2_with fail
              refine (WX.out _).mono ?_
              rintro e w' ⟨rfl, rfl⟩
              go_wp2
              go_roundw
              case rel => exact ⟨k + 1, by go_num, by omega, trivial, Lib.hid HAT.out⟩
              case measure => simp [intOf]; omega
          · obtain rfl : k = xs.length := by omega
            have HR2 := Lib.hid (show 0 = z by
              have := hr.out
              rw [List.take_length] at this
              rw [← HR.out, this]; rfl)
            clear hr
            go_wp2
            go_ret
            exact ⟨by rw [← HR2.out]; rfl, hbl.out⟩
      · have d8 : ((xs.length : Int) != m) = true := by rw [bne_iff_ne]; exact h3
        have HR := Lib.hid (show 1 = z by rw [← hz2, if_pos (.inl h3)])
        clear hz2 h3 h2
        go_enter Tryz.func40, Tryz.ntmps40
        go_wp2_with (go_at_call 71; (first | (with_reducible refine (W1.out _).mono ?_) | (with_reducible refine (W2.out _).mono ?_) | (with_reducible refine (W3.out _).mono ?_)); rintro e w' ⟨rfl, rfl⟩)
        go_ret
        exact ⟨by rw [← HR.out]; rfl, (by repeat' (first | (with_reducible exact Below.refl _ _) | (with_reducible assumption) | (with_reducible refine below_drewN ?_ _) | (with_reducible refine below_step (by assumption) ?_ ?_) | (with_reducible refine Below.alloc ?_ ?_ _) | (with_reducible refine Below.setCell ?_ ?_ _) | (with_reducible refine Below.drew ?_) | go_size | (exact Below.size (by assumption)) | (refine Nat.le_trans (Below.size (by assumption)) ?_)))⟩
  · have HR := Lib.hid (show 1 = z by rw [← HZ.out, if_pos (hor.2 hall)])
    have HA := Lib.hid (show r1 = true → 1 ≤ a ∧ a ≤ 144 from fun h => by rw [h] at hr1; simpa using hr1)
    clear HZ hor hr1 hr2 hr3
    cases r1 with
    | false =>
      go_enter Tryz.func40, Tryz.ntmps40
      go_wp2_with fail
      refine (W1.out _).mono ?_
      rintro e w' ⟨rfl, rfl⟩
      go_wp2
      go_ret
      exact ⟨by rw [← HR.out]; rfl, (by repeat' (first | (with_reducible exact Below.refl _ _) | (with_reducible assumption) | (with_reducible refine below_drewN ?_ _) | (with_reducible refine below_step (by assumption) ?_ ?_) | (with_reducible refine Below.alloc ?_ ?_ _) | (with_reducible refine Below.setCell ?_ ?_ _) | (with_reducible refine Below.drew ?_) | go_size | (exact Below.size (by assumption)) | (refine Nat.le_trans (Below.size (by assumption)) ?_)))⟩
    | true =>
      cases r2 with
      | false =>
        go_enter Tryz.func40, Tryz.ntmps40
        go_wp2_with fail
        refine (W1.out _).mono ?_
        rintro e w' ⟨rfl, rfl⟩
        go_wp2_with fail
        refine (W2.out _).mono ?_
        rintro e w' ⟨rfl, rfl⟩
        go_wp2
        go_ret
        exact ⟨by rw [← HR.out]; rfl, (by repeat' (first | (with_reducible exact Below.refl _ _) | (with_reducible assumption) | (with_reducible refine below_drewN ?_ _) | (with_reducible refine below_step (by assumption) ?_ ?_) | (with_reducible refine Below.alloc ?_ ?_ _) | (with_reducible refine Below.setCell ?_ ?_ _) | (with_reducible refine Below.drew ?_) | go_size | (exact Below.size (by assumption)) | (refine Nat.le_trans (Below.size (by assumption)) ?_)))⟩
      | true =>
        cases r3 with
        | true => exact absurd ⟨rfl, rfl, rfl⟩ hall
        | false =>
          clear hall
          have ha := HA.out rfl
          have ha1 := ha.1
          have ha2 := ha.2
          clear ha
          go_enter Tryz.func40, Tryz.ntmps40
          go_wp2_with fail
          refine (W1.out _).mono ?_
          rintro e w' ⟨rfl, rfl⟩
          go_wp2_with fail
          refine (W2.out _).mono ?_
          rintro e w' ⟨rfl, rfl⟩
          go_wp2_with fail
          refine (W3.out _).mono ?_
          rintro e w' ⟨rfl, rfl⟩
          go_wp2
          go_ret
          exact ⟨by rw [← HR.out]; rfl, (by repeat' (first | (with_reducible exact Below.refl _ _) | (with_reducible assumption) | (with_reducible refine below_drewN ?_ _) | (with_reducible refine below_step (by assumption) ?_ ?_) | (with_reducible refine Below.alloc ?_ ?_ _) | (with_reducible refine Below.setCell ?_ ?_ _) | (with_reducible refine Below.drew ?_) | go_size | (exact Below.size (by assumption)) | (refine Nat.le_trans (Below.size (by assumption)) ?_)))⟩
theorem leastO_ok {p : PatD} {a1 b1 c1 : Int} (h : valP p = 0) : leastO p a1 b1 c1 = leastP (colF p) a1 b1 c1 := by
  unfold leastO
  rw [if_neg (by rw [h]; simp)]
set_option maxRecDepth 100000 in
set_option maxHeartbeats 1000000 in
theorem rleastP_any (p : PatD) (hl : p.xs.length ≤ 1000000) (a1 b1 c1 : Int) (hL : LeastOf p a1 b1 c1) (A : Option Addr) (cap : Nat) (w : World) (hi : PatIn w p A) :
    Calls Tryz.prog 19 #[.agg #[.int .i64 p.a, .int .i64 p.b, .int .i64 p.c, .slice A p.xs.length cap]] w (OutP w (leastO p a1 b1 c1) (.int .i64 (valP p))) := by
  have HI := Lib.hid hi
  have HV := Lib.hid (fun w hi => rvalidateP_any p hl (valP p) rfl A cap w hi)
  obtain ⟨r, hr⟩ : ∃ r, r = OutP w (leastO p a1 b1 c1) (.int .i64 (valP p)) := ⟨_, rfl⟩
  rw [← hr]
  have HLE := Lib.hid hL
  obtain ⟨E, hE⟩ : ∃ E, E = valP p := ⟨_, rfl⟩
  unfold leastO at hr
  rw [← hE] at HV hr
  have HR := Lib.hid hr
  have HE := Lib.hid hE
  clear hi hL hr hE
  go_enter Tryz.func19, Tryz.ntmps19
  go_wp2_with fail
  have T0 : PBox ((w.alloc (.cells #[.int .i64 p.a, .int .i64 p.b, .int .i64 p.c, .slice A p.xs.length cap] 24)).alloc (.cells #[.int .i64 0, .int .i64 0, .int .i64 0, .slice none 0 0] 24)) w.heap.size p.a p.b p.c (.slice A p.xs.length cap) := (heap_alloc_old _ _ (by simp)).trans (heap_alloc_new w _)
  have U0 : PBox ((w.alloc (.cells #[.int .i64 p.a, .int .i64 p.b, .int .i64 p.c, .slice A p.xs.length cap] 24)).alloc (.cells #[.int .i64 0, .int .i64 0, .int .i64 0, .slice none 0 0] 24)) (w.heap.size + 1) 0 0 0 (.slice none 0 0) := by
    have := heap_alloc_new (w.alloc (.cells #[.int .i64 p.a, .int .i64 p.b, .int .i64 p.c, .slice A p.xs.length cap] 24)) (.cells #[.int .i64 0, .int .i64 0, .int .i64 0, .slice none 0 0] 24)
    unfold PBox
    simpa using this
  obtain ⟨W, hW⟩ : ∃ W, W = (w.alloc (.cells #[.int .i64 p.a, .int .i64 p.b, .int .i64 p.c, .slice A p.xs.length cap] 24)).alloc (.cells #[.int .i64 0, .int .i64 0, .int .i64 0, .slice none 0 0] 24) := ⟨_, rfl⟩
  have hb0 : Below w.heap.size w W := by rw [hW]; exact (by repeat' (first | (with_reducible exact Below.refl _ _) | (with_reducible assumption) | (with_reducible refine below_drewN ?_ _) | (with_reducible refine below_step (by assumption) ?_ ?_) | (with_reducible refine Below.alloc ?_ ?_ _) | (with_reducible refine Below.setCell ?_ ?_ _) | (with_reducible refine Below.drew ?_) | go_size | (exact Below.size (by assumption)) | (refine Nat.le_trans (Below.size (by assumption)) ?_)))
  rw [← hW] at T0 U0 ⊢
  obtain ⟨rb, hrb⟩ : ∃ rb, rb = w.heap.size + 1 := ⟨_, rfl⟩
  rw [← hrb] at U0 ⊢
  have hwr : w.heap.size ≤ rb := by omega
  have H0 := Lib.hid (And.intro T0 (And.intro U0 hb0))
  clear hW hrb T0 U0 hb0
  refine (HV.out W (HI.out.below H0.out.2.2)).mono ?_
  rintro e w1 ⟨rfl, hb1⟩
  have H1 := Lib.hid (And.intro (H0.out.1.keep hb1) (And.intro (H0.out.2.1.keep hb1) (H0.out.2.2.trans (hb1.mono H0.out.2.2.size))))
  clear H0 hb1 HV
  obtain ⟨q0, q1, q2, q3, q4⟩ := H1.out.1.cells
  obtain ⟨r0, r1, r2, r3, r4⟩ := H1.out.2.1.cells
  have f0 : w1.frozen? ⟨rb, 0, none⟩ = false := frozen_of_row w1 rb 0 _ _ H1.out.2.1
  have f1 : w1.frozen? ⟨rb, 1, none⟩ = false := frozen_of_row w1 rb 1 _ _ H1.out.2.1
  have f2 : w1.frozen? ⟨rb, 2, none⟩ = false := frozen_of_row w1 rb 2 _ _ H1.out.2.1
  have f3 : w1.frozen? ⟨rb, 3, none⟩ = false := frozen_of_row w1 rb 3 _ _ H1.out.2.1
  by_cases hz : E = 0
  · subst hz
    have hrf := HR.out
    rw [if_neg (by simp : ¬ (0 : Int) ≠ 0)] at hrf
    have HRF := Lib.hid hrf
    have hg := valP_zero HE.out.symm
    have HRES := Lib.hid (fun w hi => rleast_any p hg.ok.wide a1 b1 c1 (HLE.out HE.out.symm) A cap w hi)
    obtain ⟨xs, hxs⟩ : ∃ xs, xs = (leastP (colF p) a1 b1 c1).xs := ⟨_, rfl⟩
    have hPP : leastP (colF p) a1 b1 c1 = ⟨a1, b1, c1, xs⟩ := by rw [hxs]; rfl
    rw [← hxs] at HRES
    rw [hPP] at HRF
    clear hrf hg HR HE HLE hxs hPP
    go_wp2_with fail
    refine (HRES.out w1 (HI.out.below H1.out.2.2)).mono ?_
    rintro e w3 ⟨v, rfl, hown, hb3⟩
    obtain ⟨A3, n3, rfl, -⟩ := hown.isL
    have H3 := Lib.hid (And.intro (H1.out.2.1.keep hb3) (H1.out.2.2.trans (hb3.mono H1.out.2.2.size)))
    have HP3 := Lib.hid (put_ret H3.out.1 H3.out.2 hwr ⟨a1, b1, c1, xs⟩ _ hown H1.out.2.2.size (Array.getElem?_eq_some_iff.1 H1.out.2.1).1)
    clear hown hb3 H1 q0 q1 q2 q3 q4 r0 r1 r2 r3 r4 f0 f1 f2 f3
    obtain ⟨r0, r1, r2, r3, r4⟩ := H3.out.1.cells
    have f0 : w3.frozen? ⟨rb, 0, none⟩ = false := frozen_of_row w3 rb 0 _ _ H3.out.1
    have f1 : w3.frozen? ⟨rb, 1, none⟩ = false := frozen_of_row w3 rb 1 _ _ H3.out.1
    have f2 : w3.frozen? ⟨rb, 2, none⟩ = false := frozen_of_row w3 rb 2 _ _ H3.out.1
    have f3 : w3.frozen? ⟨rb, 3, none⟩ = false := frozen_of_row w3 rb 3 _ _ H3.out.1
    go_wp2
    refine bodyPost_ret (v := .tuple #[.agg #[.int .i64 a1, .int .i64 b1, .int .i64 c1, .slice A3 xs.length n3], .int .i64 0]) (ret_pat2 rfl rfl rfl HP3.out.1) rfl ?_
    rw [HRF.out]
    exact ⟨_, rfl, HP3.out.2⟩
  · have d1 : (E == 0) = false := by rw [beq_eq_false_iff_ne]; exact hz
    have d2 : (E != 0) = true := by rw [bne_iff_ne]; exact hz
    have hrf := HR.out
    rw [if_pos hz] at hrf
    have HRF := Lib.hid hrf
    have HP3 := Lib.hid (put_zero H1.out.2.1 H1.out.2.2 hwr)
    clear hrf HR hz HE H1
    go_wp2
    refine bodyPost_ret (v := .tuple #[.agg #[.int .i64 0, .int .i64 0, .int .i64 0, .slice none 0 0], .int .i64 E]) (ret_pat2 rfl rfl rfl HP3.out.1) rfl ?_
    rw [HRF.out]
    exact OutP.zero HP3.out.2
end Go.Proofs.YtgmokojdlbdjeaaGreatDoor
