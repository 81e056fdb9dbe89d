/-
  THE WALK OF THE LAW LotCompares: it returns true.
-/
import Derived.Test.YtdgmpaijpjkeoaaLotK
import Derived.Test.YtdgmpaijpjkeoaaCmpB
namespace Go.Proofs.Ytdgmpaijpjkeoaa
open Go.RowKit
theorem sh_val {l : List LotD} {of i p q : Int} (h : shE l of i = (p, q, 0)) : vld p q = true ∧ ∃ N D : Nat, N = fN l of.toNat i.toNat ∧ D = Pr (tN l) 0 (i.toNat + 1) ∧ 0 < D ∧ p * D = N * q := by
  unfold shE at h
  by_cases hc : chkE l [of, i] = 0
  · rw [if_neg (by simpa using hc)] at h
    obtain ⟨hgl, -⟩ := chk_zero hc
    have hle := fN_le hgl.lot of.toNat i.toNat
    have hD : 0 < Pr (tN l) 0 (i.toNat + 1) := Pr_pos (tN_pos hgl.lot) _ _
    obtain ⟨N, hN⟩ : ∃ N, N = fN l of.toNat i.toNat := ⟨_, rfl⟩
    obtain ⟨D, hDD⟩ : ∃ D, D = Pr (tN l) 0 (i.toNat + 1) := ⟨_, rfl⟩
    rw [← hN, ← hDD] at h hle
    rw [← hDD] at hD
    rcases Nat.eq_zero_or_pos N with h0 | h0
    · subst h0
      rw [show frE 0 D = (0, 1, 0) from rfl] at h
      simp only [Prod.mk.injEq, and_true] at h
      obtain ⟨rfl, rfl⟩ := h
      exact ⟨by decide, 0, D, hN, hDD, hD, by simp⟩
    · rw [← frE_mk h0 hle] at h
      obtain ⟨-, hv, he⟩ := mk_ok h
      refine ⟨hv, N, D, hN, hDD, hD, ?_⟩
      have g1 : N / Nat.gcd N D * Nat.gcd N D = N := Nat.div_mul_cancel (Nat.gcd_dvd_left _ _)
      have g2 : D / Nat.gcd N D * Nat.gcd N D = D := Nat.div_mul_cancel (Nat.gcd_dvd_right _ _)
      have e1 : (N : Int) = ((N / Nat.gcd N D : Nat) : Int) * ((Nat.gcd N D : Nat) : Int) := by rw [← Int.natCast_mul, g1]
      have e2 : (D : Int) = ((D / Nat.gcd N D : Nat) : Int) * ((Nat.gcd N D : Nat) : Int) := by rw [← Int.natCast_mul, g2]
      rw [e1, e2, ← Int.mul_assoc, he, Int.mul_assoc, Int.mul_assoc, Int.mul_comm q]
  · rw [if_pos hc] at h
    simp only [Prod.mk.injEq] at h
    exact absurd h.2.2 hc
theorem cs_sh {l : List LotD} {of i rn rd v p q x y : Int} (h1 : csE l of i rn rd = (v, 0)) (h2 : shE l of i = (p, q, 0)) (h3 : cmpM p q rn rd = (x, y)) : y = 0 ∧ x = v := by
  obtain ⟨hv, N, D, hN, hD, hD0, he⟩ := sh_val h2
  unfold csE at h1
  have hc : chkE l [of, i] = 0 := by
    by_cases hc : chkE l [of, i] = 0
    · exact hc
    · rw [if_pos hc] at h1
      simp only [Prod.mk.injEq] at h1
      exact absurd h1.2 hc
  rw [if_neg (by simpa using hc)] at h1
  have hr : vld rn rd = true := by
    cases hr : vld rn rd with
    | true => rfl
    | false => rw [hr] at h1; simp at h1
  rw [if_pos hr] at h1
  simp only [Prod.mk.injEq, and_true] at h1
  rw [cmpM_cases _ _ _ _ hv hr] at h3
  simp only [Prod.mk.injEq] at h3
  obtain ⟨rfl, rfl⟩ := h3
  refine ⟨rfl, ?_⟩
  rw [← h1]
  obtain ⟨q1, -⟩ := vld_bd hv
  obtain ⟨r1, -⟩ := vld_bd hr
  have k1 : p * rd * D = N * rd * q := by rw [Int.mul_right_comm, he, Int.mul_right_comm]
  have k2 : rn * q * D = D * rn * q := by rw [Int.mul_right_comm, Int.mul_comm rn]
  have hDi : (0 : Int) < D := by omega
  have hqi : (0 : Int) < q := by omega
  have c1 : p * rd < rn * q ↔ (N : Int) * rd < D * rn := by
    rw [← Int.mul_lt_mul_right hDi, k1, k2, Int.mul_lt_mul_right hqi]
  have c2 : rn * q < p * rd ↔ (D : Int) * rn < N * rd := by
    rw [← Int.mul_lt_mul_right hDi, k1, k2, Int.mul_lt_mul_right hqi]
  unfold agE cmpI
  rw [← hN, ← hD]
  by_cases hneg : rn < 0
  · have h4 : (D : Int) * rn < 0 := Int.mul_neg_of_pos_of_neg hDi hneg
    have h5 : 0 ≤ (N : Int) * rd := Int.mul_nonneg (by omega) (by omega)
    rw [if_pos hneg, if_neg (fun h => by have := c1.1 h; omega), if_pos (c2.2 (by omega))]
  · rw [if_neg hneg]
    obtain ⟨r, rfl⟩ : ∃ n : Nat, rn = n := ⟨rn.toNat, by omega⟩
    obtain ⟨d, rfl⟩ : ∃ n : Nat, rd = n := ⟨rd.toNat, by omega⟩
    rw [Int.toNat_natCast, Int.toNat_natCast]
    rw [← Int.natCast_mul, ← Int.natCast_mul, Int.ofNat_lt] at c1 c2
    unfold cmpN
    by_cases a : N * d < D * r
    · rw [if_pos (c1.2 a), if_pos a]
    · rw [if_neg (fun h => a (c1.1 h)), if_neg a]
      by_cases b : D * r < N * d
      · rw [if_pos (c2.2 b), if_pos b]
      · rw [if_neg (fun h => b (c2.1 h)), if_neg b]
theorem sh_bd {l : List LotD} {of i p q z : Int} (h : shE l of i = (p, q, z)) : -9223372036854775808 ≤ p ∧ p ≤ 9223372036854775807 ∧ -9223372036854775808 ≤ q ∧ q ≤ 9223372036854775807 := by
  by_cases hz : z = 0
  · subst hz
    have := vld_bd (sh_val h).1
    omega
  · unfold shE frE at h
    split at h
    · simp only [Prod.mk.injEq] at h; omega
    · split at h
      · simp only [Prod.mk.injEq] at h; omega
      · split at h
        · simp only [Prod.mk.injEq] at h; omega
        · simp only [Prod.mk.injEq] at h; omega
set_option maxRecDepth 100000 in
set_option maxHeartbeats 1000000 in
theorem lotCompares_walk (A : Option Addr) (c : Nat) (l : List LotD) (of i rn rd : Int) (hof : -9223372036854775808 ≤ of) (kof : of ≤ 9223372036854775807) (hi : -9223372036854775808 ≤ i) (ki : i ≤ 9223372036854775807) (hrn : -9223372036854775808 ≤ rn) (krn : rn ≤ 9223372036854775807) (hrd : -9223372036854775808 ≤ rd) (krd : rd ≤ 9223372036854775807) (w : World) (hL : LotsIn w A l) (hl : l.length ≤ maxLen) :
    Calls Try.prog 11 #[.slice A l.length c, .agg #[.int .i64 of, .int .i64 i], .agg #[.int .i64 rn, .int .i64 rd]] w fun e w' => e = .returned (.bool true) ∧ Below w.heap.size w w' := by
  have HL := Lib.hid hL
  clear hL
  cases hlong : longB l with
  | true =>
    have HLO := Lib.hid hlong
    clear hlong
    go_enter Try.func11, Try.ntmps11
    go_wp2_with fail
    refine (long_any l true HLO.out A c _ (HL.out.below (by repeat' (first | (with_reducible exact Below.refl _ _) | (with_reducible assumption) | (with_reducible refine below_drewN ?_ _) | (with_reducible refine below_step (by assumption) ?_ ?_) | (with_reducible refine Below.alloc ?_ ?_ _) | (with_reducible refine Below.setCell ?_ ?_ _) | (with_reducible refine Below.drew ?_) | go_size | (exact Below.size (by assumption)) | (refine Nat.le_trans (Below.size (by assumption)) ?_)))) hl).mono ?_
    rintro e w' ⟨rfl, rfl⟩
    go_wp2_with fail
    refine (known_any _).mono ?_
    rintro e w1 ⟨rfl, hb1⟩
    go_wp2
    go_ret
    exact ⟨rfl, (by repeat' (first | (with_reducible exact Below.refl _ _) | (with_reducible assumption) | (with_reducible refine below_drewN ?_ _) | (with_reducible refine below_step (by assumption) ?_ ?_) | (with_reducible refine Below.alloc ?_ ?_ _) | (with_reducible refine Below.setCell ?_ ?_ _) | (with_reducible refine Below.drew ?_) | go_size | (exact Below.size (by assumption)) | (refine Nat.le_trans (Below.size (by assumption)) ?_)))⟩
  | false =>
    obtain ⟨hl40, hps20⟩ := long_small hlong
    have HLO := Lib.hid hlong
    have HPS := Lib.hid (show ∀ x ∈ l, x.parts.length ≤ 1000 from fun x hx => by have := hps20 x hx; omega)
    obtain ⟨v, z, hm1⟩ : ∃ v z, csE l of i rn rd = (v, z) := ⟨_, _, rfl⟩
    obtain ⟨p, q, g, hm2⟩ : ∃ p q g, shE l of i = (p, q, g) := ⟨_, _, _, rfl⟩
    obtain ⟨x, y, hm3⟩ : ∃ x y, cmpM p q rn rd = (x, y) := ⟨_, _, rfl⟩
    have HM1 := Lib.hid hm1
    have HM2 := Lib.hid hm2
    have HM3 := Lib.hid hm3
    obtain ⟨bp1, bp2, bq1, bq2⟩ := sh_bd hm2
    have HC := Lib.hid (show z = 0 → g = 0 → y = 0 ∧ x = v from fun h1 h2 => by subst h1; subst h2; exact cs_sh hm1 hm2 hm3)
    clear hlong hps20 hm1 hm2 hm3
    go_enter Try.func11, Try.ntmps11
    go_wp2_with fail
    obtain ⟨W, hW⟩ : ∃ W, W = (w.alloc (.cells #[.int .i64 of, .int .i64 i] 24)).alloc (.cells #[.int .i64 rn, .int .i64 rd] 28) := ⟨_, rfl⟩
    rw [← hW]
    have hb := Lib.hid (show Below w.heap.size w W by rw [hW]; exact (by repeat' (first | (with_reducible exact Below.refl _ _) | (with_reducible assumption) | (with_reducible refine below_drewN ?_ _) | (with_reducible refine below_step (by assumption) ?_ ?_) | (with_reducible refine Below.alloc ?_ ?_ _) | (with_reducible refine Below.setCell ?_ ?_ _) | (with_reducible refine Below.drew ?_) | go_size | (exact Below.size (by assumption)) | (refine Nat.le_trans (Below.size (by assumption)) ?_))))
    have hx : Box2 W w.heap.size (.int .i64 of) (.int .i64 i) := by rw [hW]; exact (Box2.new _ _ _ _).alloc _
    have hy : Box2 W (w.heap.size + 1) (.int .i64 rn) (.int .i64 rd) := by rw [hW]; exact Box2.new1 _ _ _ _ _
    clear hW
    refine (long_any l false HLO.out A c _ (HL.out.below hb.out) hl).mono ?_
    rintro e w' ⟨rfl, rfl⟩
    obtain ⟨x0, x1, x2, x3, x4⟩ := id hx
    obtain ⟨y0, y1, y2, y3, y4⟩ := id hy
    go_wp2_with fail
    refine (compareShare_any l (by omega) HPS.out of i rn rd v z HM1.out (by omega) (by omega) (by omega) (by omega) (by omega) (by omega) (by omega) (by omega) A c W (HL.out.below hb.out)).mono ?_
    rintro e w1 ⟨rfl, hb1⟩
    have ib := Lib.hid (hb.out.trans (hb1.mono hb.out.size))
    have ix := hx.keep hb1
    have iy := hy.keep hb1
    clear x0 x1 x2 x3 x4 y0 y1 y2 y3 y4 hx hy hb hb1
    obtain ⟨x0, x1, x2, x3, x4⟩ := id ix
    obtain ⟨y0, y1, y2, y3, y4⟩ := id iy
    go_wp2_with fail
    refine (rcompareShare_any l (by omega) HPS.out of i rn rd v z HM1.out (by omega) (by omega) (by omega) (by omega) (by omega) (by omega) (by omega) (by omega) A c w1 (HL.out.below ib.out)).mono ?_
    rintro e w2 ⟨rfl, hb1⟩
    have jb := Lib.hid (ib.out.trans (hb1.mono ib.out.size))
    have jx := ix.keep hb1
    have jy := iy.keep hb1
    clear x0 x1 x2 x3 x4 y0 y1 y2 y3 y4 ix iy ib hb1
    obtain ⟨x0, x1, x2, x3, x4⟩ := id jx
    go_wp2_with fail
    refine (share_any l (by omega) HPS.out of i p q g HM2.out (by omega) (by omega) (by omega) (by omega) A c w2 (HL.out.below jb.out)).mono ?_
    rintro e w3 ⟨rfl, hb1⟩
    have kb := Lib.hid (jb.out.trans (hb1.mono jb.out.size))
    have ky := jy.keep hb1
    clear x0 x1 x2 x3 x4 jx jy jb hb1
    go_upto_region 8 with fail
    obtain ⟨W2, hW2⟩ : ∃ W2, W2 = w3.alloc (.cells #[.int .i64 p, .int .i64 q] 28) := ⟨_, rfl⟩
    rw [← hW2]
    have lb := Lib.hid (show Below w.heap.size w W2 by rw [hW2]; exact kb.out.alloc kb.out.size _)
    have lz : Box2 W2 w3.heap.size (.int .i64 p) (.int .i64 q) := by rw [hW2]; exact Box2.new _ _ _ _
    have ly : Box2 W2 (w.heap.size + 1) (.int .i64 rn) (.int .i64 rd) := by rw [hW2]; exact ky.alloc _
    clear hW2 ky kb
    obtain ⟨y0, y1, y2, y3, y4⟩ := id ly
    obtain ⟨z0, z1, z2, z3, z4⟩ := id lz
    go_wp2_with fail
    refine (ncompare_any p q rn rd x y HM3.out (by omega) (by omega) (by omega) (by omega) (by omega) (by omega) (by omega) (by omega) W2).mono ?_
    rintro e w5 ⟨rfl, hb1⟩
    have mb := Lib.hid (lb.out.trans (hb1.mono lb.out.size))
    clear hb1 ly lz lb y0 y1 y2 y3 y4 z0 z1 z2 z3 z4
    by_cases hz : z = 0
    · have d1 : (z != 0) = false := by rw [hz]; rfl
      by_cases hg : g = 0
      · have d2 : (g != 0) = false := by rw [hg]; rfl
        obtain ⟨rfl, rfl⟩ := HC.out hz hg
        clear hz hg
        go_wp2_with (go_at_call 16; refine (known_any _).mono ?_; rintro e w7 ⟨rfl, hb6⟩)
        go_ret
        exact ⟨rfl, mb.out.trans (hb6.mono mb.out.size)⟩
      · have d2 : (g != 0) = true := by rw [bne_iff_ne]; exact hg
        have d3 : (g == 0) = false := by rw [beq_eq_false_iff_ne]; exact hg
        clear hz hg
        go_wp2_with (go_at_call 16; refine (known_any _).mono ?_; rintro e w7 ⟨rfl, hb6⟩)
        go_ret
        exact ⟨rfl, mb.out.trans (hb6.mono mb.out.size)⟩
    · have d1 : (z != 0) = true := by rw [bne_iff_ne]; exact hz
      have d3 : (z == 0) = false := by rw [beq_eq_false_iff_ne]; exact hz
      clear hz
      go_wp2_with (go_at_call 16; refine (known_any _).mono ?_; rintro e w7 ⟨rfl, hb6⟩)
      go_ret
      exact ⟨rfl, mb.out.trans (hb6.mono mb.out.size)⟩
end Go.Proofs.Ytdgmpaijpjkeoaa
