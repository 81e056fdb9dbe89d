/-
  THE WALK OF THE LAW LotSets: it returns true.
-/
import Derived.Test.YtdgmpaijpjkeoaaLotK
import Derived.Test.YtdgmpaijpjkeoaaSetD
import Derived.Test.YtdgmpaijpjkeoaaRclC
import Derived.Test.YtdgmpaijpjkeoaaPthA
namespace Go.Proofs.Ytdgmpaijpjkeoaa
open Go.RowKit
theorem chk_two {l : List LotD} {x y : Int} (h1 : chkE l [x] = 0) (h2 : chkE l [y] = 0) : chkE l [x, y] = 0 := by
  unfold chkE at *
  by_cases hv : valE l = 0
  · simp only [hv, ne_eq, not_true_eq_false, if_false, List.all_cons, List.all_nil, Bool.and_true] at *
    have hx : inL l x = true := by by_cases h : inL l x = true; exact h; rw [if_neg h] at h1; cases h1
    have hy : inL l y = true := by by_cases h : inL l y = true; exact h; rw [if_neg h] at h2; cases h2
    rw [hx, hy]; rfl
  · rw [if_pos hv] at h1; exact absurd h1 hv
theorem sets_plain {l : List LotD} {of i n x s y : Int} {a b : List Int} (h1 : srcE l i = (a, 0)) (h2 : desE l of = (b, 0)) (h3 : pathsE l of i = (n, x)) (h4 : csE l of i 0 1 = (s, y)) :
    x = 0 ∧ y = 0 ∧ decide (0 < n) = decide (0 < s) ∧ decide (i ∈ b) = (decide (0 < n) && of != i) := by
  have c1 : chkE l [i] = 0 := by
    unfold srcE at h1
    by_cases hc : chkE l [i] = 0
    · exact hc
    · rw [if_pos hc] at h1; simp only [Prod.mk.injEq] at h1; exact absurd h1.2 hc
  have c2 : chkE l [of] = 0 := by
    unfold desE at h2
    by_cases hc : chkE l [of] = 0
    · exact hc
    · rw [if_pos hc] at h2; simp only [Prod.mk.injEq] at h2; exact absurd h2.2 hc
  have c3 := chk_two c2 c1
  obtain ⟨hgl, hin⟩ := chk_zero c3
  have b1 := hin of (by simp)
  have b2 := hin i (by simp)
  have hg := hgl.lot
  obtain ⟨of, rfl⟩ : ∃ k : Nat, of = k := ⟨of.toNat, by omega⟩
  obtain ⟨i, rfl⟩ : ∃ k : Nat, i = k := ⟨i.toNat, by omega⟩
  unfold pathsE at h3
  unfold csE at h4
  unfold desE at h2
  rw [if_neg (by simpa using c3)] at h3 h4
  rw [if_neg (by simpa using c2)] at h2
  rw [if_pos (by decide)] at h4
  simp only [Prod.mk.injEq, and_true, Int.toNat_natCast] at h2 h3 h4
  obtain ⟨rfl, rfl⟩ := h3
  obtain ⟨rfl, rfl⟩ := h4
  subst h2
  have p1 : decide (0 < pathV l of i) = elB l of i := by
    have := (path_pos hg (of := of) (i := i)).2
    by_cases h : elB l of i = true
    · rw [h, decide_eq_true (this.2 h)]
    · rw [show elB l of i = false by simpa using h, decide_eq_false (fun e => h (this.1 e))]
  have p2 : decide (0 < agE l of i 0 1) = elB l of i := by
    have := ag_zero (l := l) (of := of) (i := i)
    by_cases h : elB l of i = true
    · rw [h, decide_eq_true (this.2 h)]
    · rw [show elB l of i = false by simpa using h, decide_eq_false (fun e => h (this.1 e))]
  refine ⟨rfl, rfl, p1.trans p2.symm, ?_⟩
  rw [p1]
  refine Bool.eq_iff_iff.2 ?_
  rw [decide_eq_true_eq, mem_selL]
  simp only [desP, Bool.and_eq_true, decide_eq_true_eq, bne_iff_ne, ne_eq, Int.natCast_inj]
  constructor
  · rintro ⟨j, h1, ⟨h2, h3⟩, h4⟩
    obtain rfl : i = j := by omega
    exact ⟨h3, by omega⟩
  · rintro ⟨h1, h2⟩
    refine ⟨i, by omega, ⟨?_, h1⟩, rfl⟩
    rcases Nat.lt_trichotomy of i with h | h | h
    · exact h
    · exact absurd h h2
    · rw [elB_low hg h] at h1; cases h1
theorem srcE_len {l : List LotD} {i : Int} {a : List Int} {e : Int} (h : srcE l i = (a, e)) : a.length ≤ l.length := by
  unfold srcE at h
  split at h
  · simp only [Prod.mk.injEq] at h; rw [← h.1]; simp
  · simp only [Prod.mk.injEq] at h; rw [← h.1]; exact selL_length _ _
theorem desE_len {l : List LotD} {i : Int} {a : List Int} {e : Int} (h : desE l i = (a, e)) : a.length ≤ l.length := by
  unfold desE at h
  split at h
  · simp only [Prod.mk.injEq] at h; rw [← h.1]; simp
  · simp only [Prod.mk.injEq] at h; rw [← h.1]; exact selL_length _ _
set_option maxRecDepth 100000 in
set_option maxHeartbeats 1000000 in
theorem lotSets_walk (A : Option Addr) (c : Nat) (l : List LotD) (of i : Int) (hof : -9223372036854775808 ≤ of) (kof : of ≤ 9223372036854775807) (hi : -9223372036854775808 ≤ i) (ki : i ≤ 9223372036854775807) (w : World) (hL : LotsIn w A l) (hl : l.length ≤ maxLen) :
    Calls Try.prog 14 #[.slice A l.length c, .agg #[.int .i64 of, .int .i64 i]] w fun e w' => e = .returned (.bool true) ∧ Below w.heap.size w w' := by
  have HL := Lib.hid hL
  clear hL
  cases hlong : longB l with
  | true =>
    have HLO := Lib.hid hlong
    clear hlong
    go_enter Try.func14, Try.ntmps14
    go_wp2_with fail
    refine (long_any l true HLO.out A c _ (HL.out.below (by repeat' (first | (with_reducible exact Below.refl _ _) | (with_reducible assumption) | (with_reducible refine below_drewN ?_ _) | (with_reducible refine below_step (by assumption) ?_ ?_) | (with_reducible refine Below.alloc ?_ ?_ _) | (with_reducible refine Below.setCell ?_ ?_ _) | (with_reducible refine Below.drew ?_) | go_size | (exact Below.size (by assumption)) | (refine Nat.le_trans (Below.size (by assumption)) ?_)))) hl).mono ?_
    rintro e w' ⟨rfl, rfl⟩
    go_wp2_with fail
    refine (known_any _).mono ?_
    rintro e w1 ⟨rfl, hb1⟩
    go_wp2
    go_ret
    exact ⟨rfl, (by repeat' (first | (with_reducible exact Below.refl _ _) | (with_reducible assumption) | (with_reducible refine below_drewN ?_ _) | (with_reducible refine below_step (by assumption) ?_ ?_) | (with_reducible refine Below.alloc ?_ ?_ _) | (with_reducible refine Below.setCell ?_ ?_ _) | (with_reducible refine Below.drew ?_) | go_size | (exact Below.size (by assumption)) | (refine Nat.le_trans (Below.size (by assumption)) ?_)))⟩
  | false =>
    obtain ⟨hl40, hps20⟩ := long_small hlong
    have HLO := Lib.hid hlong
    have HPS := Lib.hid (show ∀ x ∈ l, x.parts.length ≤ 1000 from fun x hx => by have := hps20 x hx; omega)
    obtain ⟨a, z, hm1⟩ : ∃ a z, srcE l i = (a, z) := ⟨_, _, rfl⟩
    obtain ⟨b, g, hm2⟩ : ∃ b g, desE l of = (b, g) := ⟨_, _, rfl⟩
    obtain ⟨n, x, hm3⟩ : ∃ n x, pathsE l of i = (n, x) := ⟨_, _, rfl⟩
    obtain ⟨s, y, hm4⟩ : ∃ s y, csE l of i 0 1 = (s, y) := ⟨_, _, rfl⟩
    have ba := srcE_len hm1
    have bb := desE_len hm2
    have HM1 := Lib.hid hm1
    have HM2 := Lib.hid hm2
    have HM3 := Lib.hid hm3
    have HM4 := Lib.hid hm4
    have HC := Lib.hid (show z = 0 → g = 0 → x = 0 ∧ y = 0 ∧ decide (0 < n) = decide (0 < s) ∧ decide (i ∈ b) = (decide (0 < n) && of != i) from fun h1 h2 => by subst h1; subst h2; exact sets_plain hm1 hm2 hm3 hm4)
    clear hlong hps20 hm1 hm2 hm3 hm4
    go_enter Try.func14, Try.ntmps14
    go_wp2_with fail
    obtain ⟨W, hW⟩ : ∃ W, W = w.alloc (.cells #[.int .i64 of, .int .i64 i] 24) := ⟨_, rfl⟩
    rw [← hW]
    have hb := Lib.hid (show Below w.heap.size w W by rw [hW]; exact (by repeat' (first | (with_reducible exact Below.refl _ _) | (with_reducible assumption) | (with_reducible refine below_drewN ?_ _) | (with_reducible refine below_step (by assumption) ?_ ?_) | (with_reducible refine Below.alloc ?_ ?_ _) | (with_reducible refine Below.setCell ?_ ?_ _) | (with_reducible refine Below.drew ?_) | go_size | (exact Below.size (by assumption)) | (refine Nat.le_trans (Below.size (by assumption)) ?_))))
    have hx := Lib.hid (show Box2 W w.heap.size (.int .i64 of) (.int .i64 i) by rw [hW]; exact Box2.new _ _ _ _)
    clear hW
    refine (long_any l false HLO.out A c _ (HL.out.below hb.out) hl).mono ?_
    rintro e w' ⟨rfl, rfl⟩
    obtain ⟨x0, x1, x2, x3, x4⟩ := hx.out
    go_wp2_with fail
    refine (sources_any l (by omega) HPS.out i a z HM1.out (by omega) (by omega) A c W (HL.out.below hb.out)).mono ?_
    rintro e w1 ⟨A1, c1, rfl, i1, hb1⟩
    have H1 := Lib.hid (And.intro (hb.out.trans (hb1.mono hb.out.size)) (And.intro (hx.out.keep hb1) i1))
    clear x0 x1 x2 x3 x4 hx hb hb1 i1
    obtain ⟨x0, x1, x2, x3, x4⟩ := H1.out.2.1
    go_wp2_with fail
    refine (rsources_any l (by omega) HPS.out i a z HM1.out (by omega) (by omega) A c w1 (HL.out.below H1.out.1)).mono ?_
    rintro e w2 ⟨A2, c2, rfl, i1, hb1⟩
    have H2 := Lib.hid (And.intro (H1.out.1.trans (hb1.mono H1.out.1.size)) (And.intro (H1.out.2.1.keep hb1) (And.intro (H1.out.2.2.below hb1) i1)))
    clear x0 x1 x2 x3 x4 H1 hb1 i1
    obtain ⟨x0, x1, x2, x3, x4⟩ := H2.out.2.1
    go_wp2_with fail
    refine (descend_any l (by omega) HPS.out of b g HM2.out (by omega) (by omega) A c w2 (HL.out.below H2.out.1)).mono ?_
    rintro e w3 ⟨A3, c3, rfl, i1, hb1⟩
    have H3 := Lib.hid (And.intro (H2.out.1.trans (hb1.mono H2.out.1.size)) (And.intro (H2.out.2.1.keep hb1) (And.intro (H2.out.2.2.1.below hb1) (And.intro (H2.out.2.2.2.below hb1) i1))))
    clear x0 x1 x2 x3 x4 H2 hb1 i1
    obtain ⟨x0, x1, x2, x3, x4⟩ := H3.out.2.1
    go_wp2_with fail
    refine (rdescend_any l (by omega) HPS.out of b g HM2.out (by omega) (by omega) A c w3 (HL.out.below H3.out.1)).mono ?_
    rintro e w4 ⟨A4, c4, rfl, i1, hb1⟩
    have H4 := Lib.hid (And.intro (H3.out.1.trans (hb1.mono H3.out.1.size)) (And.intro (H3.out.2.1.keep hb1) (And.intro (H3.out.2.2.1.below hb1) (And.intro (H3.out.2.2.2.1.below hb1) (And.intro (H3.out.2.2.2.2.below hb1) i1)))))
    clear x0 x1 x2 x3 x4 H3 hb1 i1
    have d0 : (z != z) = false := by simp
    have d00 : (g != g) = false := by simp
    go_wp2_with fail
    refine (sameInts_any A1 a.length c1 A2 c2 a w4 H4.out.2.2.1 H4.out.2.2.2.1 (by omega)).mono ?_
    rintro e w5 ⟨rfl, hb1⟩
    have H5 := Lib.hid (And.intro (H4.out.1.trans (hb1.mono H4.out.1.size)) (And.intro (H4.out.2.1.keep hb1) (And.intro (H4.out.2.2.2.2.1.below hb1) (H4.out.2.2.2.2.2.below hb1))))
    clear H4 hb1
    go_wp2_with fail
    refine (sameInts_any A3 b.length c3 A4 c4 b w5 H5.out.2.2.1 H5.out.2.2.2 (by omega)).mono ?_
    rintro e w6 ⟨rfl, hb1⟩
    have H6 := Lib.hid (And.intro (H5.out.1.trans (hb1.mono H5.out.1.size)) (And.intro (H5.out.2.1.keep hb1) (H5.out.2.2.1.below hb1)))
    clear H5 hb1
    obtain ⟨x0, x1, x2, x3, x4⟩ := H6.out.2.1
    go_wp2_with fail
    refine (lotPaths_any l (by omega) HPS.out of i n x HM3.out (by omega) (by omega) (by omega) (by omega) A c w6 (HL.out.below H6.out.1)).mono ?_
    rintro e w7 ⟨rfl, hb1⟩
    have H7 := Lib.hid (And.intro (H6.out.1.trans (hb1.mono H6.out.1.size)) (And.intro (H6.out.2.1.keep hb1) (H6.out.2.2.below hb1)))
    clear x0 x1 x2 x3 x4 H6 hb1 d0 d00
    obtain ⟨x0, x1, x2, x3, x4⟩ := H7.out.2.1
    go_wp2_with fail
    refine (compareShare_any l (by omega) HPS.out of i 0 1 s y HM4.out (by omega) (by omega) (by omega) (by omega) (by omega) (by omega) (by omega) (by omega) A c w7 (HL.out.below H7.out.1)).mono ?_
    rintro e w8 ⟨rfl, hb1⟩
    have H8 := Lib.hid (And.intro (H7.out.1.trans (hb1.mono H7.out.1.size)) (And.intro (H7.out.2.1.keep hb1) (H7.out.2.2.below hb1)))
    clear x0 x1 x2 x3 x4 H7 hb1
    by_cases hz : z = 0
    · have d1 : (z != 0) = false := by rw [hz]; rfl
      by_cases hg : g = 0
      · have d2 : (g != 0) = false := by rw [hg]; rfl
        obtain ⟨rfl, rfl, h5, h6⟩ := HC.out hz hg
        obtain ⟨P, hP⟩ : ∃ P, decide (0 < n) = P := ⟨_, rfl⟩
        obtain ⟨Q, hQ⟩ : ∃ Q, (of != i) = Q := ⟨_, rfl⟩
        rw [hP, hQ] at h6
        rw [hP] at h5
        have H6 := Lib.hid h6
        replace h5 := h5.symm
        obtain ⟨x0, x1, x2, x3, x4⟩ := H8.out.2.1
        clear hz hg h6
        cases P with
        | false =>
          go_wp2_with fail
          refine (has_any A3 b.length c3 b i w8 H8.out.2.2 (by omega)).mono ?_
          rw [H6.out]
          rintro e w9 ⟨rfl, rfl⟩
          go_wp2_with (go_at_call 16; refine (known_any _).mono ?_; rintro e w9 ⟨rfl, hb6⟩)
          go_ret
          exact ⟨rfl, H8.out.1.trans (hb6.mono H8.out.1.size)⟩
        | true =>
          cases Q with
          | false =>
            go_wp2_with fail
            refine (has_any A3 b.length c3 b i w8 H8.out.2.2 (by omega)).mono ?_
            rw [H6.out]
            rintro e w9 ⟨rfl, rfl⟩
            go_wp2_with (go_at_call 16; refine (known_any _).mono ?_; rintro e w9 ⟨rfl, hb6⟩)
            go_ret
            exact ⟨rfl, H8.out.1.trans (hb6.mono H8.out.1.size)⟩
          | true =>
            go_wp2_with fail
            refine (has_any A3 b.length c3 b i w8 H8.out.2.2 (by omega)).mono ?_
            rw [H6.out]
            rintro e w9 ⟨rfl, rfl⟩
            go_wp2_with (go_at_call 16; refine (known_any _).mono ?_; rintro e w9 ⟨rfl, hb6⟩)
            go_ret
            exact ⟨rfl, H8.out.1.trans (hb6.mono H8.out.1.size)⟩
      · have d2 : (g != 0) = true := by rw [bne_iff_ne]; exact hg
        clear hz hg
        go_wp2_with (go_at_call 16; refine (known_any _).mono ?_; rintro e w9 ⟨rfl, hb6⟩)
        go_ret
        exact ⟨rfl, H8.out.1.trans (hb6.mono H8.out.1.size)⟩
    · have d1 : (z != 0) = true := by rw [bne_iff_ne]; exact hz
      clear hz
      go_wp2_with (go_at_call 16; refine (known_any _).mono ?_; rintro e w9 ⟨rfl, hb6⟩)
      go_ret
      exact ⟨rfl, H8.out.1.trans (hb6.mono H8.out.1.size)⟩
end Go.Proofs.Ytdgmpaijpjkeoaa
