/-
  Share, THE REFERENCE'S: THE WALK.
-/
import Derived.Test.YtclbjgelefbmlaaDoorShrA
namespace Go.Proofs.YtclbjgelefbmlaaDoor
open Go.RowKit
/-- Two slices that do not share their memory. -/
def Sep (a b : Value) : Prop := ∀ g, a.ownBlock = some g → b.ownBlock ≠ some g
theorem Sep.ne {a b : Value} (h : Sep a b) : b.ownBlock = none ∨ b.ownBlock ≠ a.ownBlock := by
  cases ha : a.ownBlock with
  | none => cases hb : b.ownBlock <;> simp
  | some g => exact .inr (h g ha)
theorem Sep.symm {a b : Value} (h : Sep a b) : Sep b a := fun g hb ha => h g ha hb
theorem OwnI.lt {w : World} {B : Nat} {v : Value} {zs : List Int} (h : OwnI w B v zs) : ∀ g, v.ownBlock = some g → B ≤ g ∧ g < w.heap.size := World.ownsRow.lt h
theorem OwnI.form {w : World} {B : Nat} {v : Value} {zs : List Int} (h : OwnI w B v zs) (hp : 0 < zs.length) : ∃ g cap, v = .slice (some ⟨g, 0, none⟩) zs.length cap ∧ RowI w g zs ∧ B ≤ g := by
  rcases h.2 with ⟨hv, h0⟩ | ⟨g, cap, cur, hv, hb, hg, hn, -, hs, ht⟩
  · omega
  · subst hv
    exact ⟨g, cap, rfl, (Row.of_own h).1, hb⟩
/-- Behind an append to a, of one that does not share its memory. -/
theorem Sep.grow {w : World} {B : Nat} {a a' b : Value} {zs : List Int} (h : Sep a b) (hb : OwnI w B b zs) (hd : a'.ownBlock = a.ownBlock ∨ a'.ownBlock = some (w.heap.size + 1)) : Sep a' b := by
  intro g hg hbg
  rcases hd with hd | hd
  · rw [hd] at hg; exact h g hg hbg
  · rw [hd] at hg
    have := (hb.lt g hbg).2
    cases hg
    omega
set_option maxRecDepth 100000 in
set_option maxHeartbeats 4000000 in
theorem rshare_any (t : Int) (A : Option Addr) (n c : Nat) (ws l : List Int) (z : Int) (hr : shr t ws = (l, z)) (w : World) (hx : IsL w A n ws) (hn : n ≤ 4611686018427387904) :
    Calls Tryd.prog 34 #[.int .i64 t, .slice A n c] w (OutL w l z) := by
  have hl := hx.1
  have HX := Lib.hid hx
  have HR := Lib.hid hr
  have HL := Lib.hid hl
  clear hr
  by_cases c0 : 0 ≤ t ∧ t ≤ 1099511627776
  case neg =>
    clear hl hx
    go_enter Tryd.func34, Tryd.ntmps34
    go_wp2_with (go_at_call 60; refine (within_no _ _ _ c0 _).mono ?_; rintro e w' ⟨rfl, rfl⟩)
    go_ret2
    exact OutL.no' (shr_no HR.out (fun h => c0 ⟨h.1, h.2.1⟩)) (by repeat' (first | (with_reducible exact Below.refl _ _) | (with_reducible assumption) | (with_reducible refine below_drewN ?_ _) | (with_reducible refine below_step (by assumption) ?_ ?_) | (with_reducible refine Below.alloc ?_ ?_ _) | (with_reducible refine Below.setCell ?_ ?_ _) | (with_reducible refine Below.drew ?_) | go_size | (exact Below.size (by assumption)) | (refine Nat.le_trans (Below.size (by assumption)) ?_)))
  by_cases c1 : (1 : Int) ≤ (n : Int) ∧ (n : Int) ≤ 16
  case neg =>
    clear hl hx
    go_enter Tryd.func34, Tryd.ntmps34
    go_wp2_with (go_at_call 60; (first | ((with_reducible refine (within_no _ _ _ c1 _).mono ?_); rintro e w' ⟨rfl, rfl⟩) | ((with_reducible refine (within_yes t 0 1099511627776 c0.1 c0.2 _).mono ?_); rintro e w' ⟨rfl, rfl⟩)))
    go_ret2
    exact OutL.no' (shr_no HR.out (fun h => c1 (by have := isum_pos_length h.2.2.2.2; rw [HL.out] at this; have := h.2.2.1; rw [HL.out] at this; omega))) (by repeat' (first | (with_reducible exact Below.refl _ _) | (with_reducible assumption) | (with_reducible refine below_drewN ?_ _) | (with_reducible refine below_step (by assumption) ?_ ?_) | (with_reducible refine Below.alloc ?_ ?_ _) | (with_reducible refine Below.setCell ?_ ?_ _) | (with_reducible refine Below.drew ?_) | go_size | (exact Below.size (by assumption)) | (refine Nat.le_trans (Below.size (by assumption)) ?_)))
  have t0 : 0 ≤ t := c0.1
  have t1 : t ≤ 1099511627776 := c0.2
  have n16 : n ≤ 16 := by omega
  have hkp : 0 < n := by omega
  go_enter Tryd.func34, Tryd.ntmps34
  go_wp2_with (go_at_call 60; (first | ((with_reducible refine (within_yes t 0 1099511627776 c0.1 c0.2 _).mono ?_); rintro e w' ⟨rfl, rfl⟩) | ((with_reducible refine (within_yes (n : Int) 1 16 c1.1 c1.2 _).mono ?_); rintro e w' ⟨rfl, rfl⟩)))
  clear c0 c1 hl
  go_loop [6, 7] (fun s i => ∃ (k : Nat) (u : Int), i = .int .i64 k ∧ s = .int .i64 u ∧ k ≤ n ∧ 0 ≤ u ∧ u ≤ 16777216 ∧ Hid (wgts ws k ∧ isum (ws.take k) = u)) (fun _ i => n - (intOf i).toNat)
  case atStart => exact ⟨0, 0, rfl, rfl, by omega, by omega, by omega, fun i hi => by omega, by simp [isum]⟩
  case round =>
    obtain ⟨k, u, rfl, rfl, hk, hu0, hu1, hs⟩ := hrel
    by_cases hlt : k < n
    · obtain ⟨bk, o, hA, hlt', hc⟩ := hx.2 (by omega)
      have h0 := hc k hlt
      obtain ⟨x, hxx⟩ : ∃ x, ws.getD k 0 = x := ⟨_, rfl⟩
      rw [hxx] at h0
      have HXX := Lib.hid hxx
      subst hA
      clear hx hc hxx
      by_cases c3 : 0 ≤ x ∧ x ≤ 1048576
      case neg =>
        go_wp2_with (go_at_call 60; refine (within_no _ _ _ c3 _).mono ?_; rintro e w' ⟨rfl, rfl⟩)
        go_ret2
        exact OutL.no' (shr_no HR.out (fun h => by have := (h.2.2.2.1 k (by rw [HL.out]; exact hlt)); rw [HXX.out] at this; exact c3 this)) (by repeat' (first | (with_reducible exact Below.refl _ _) | (with_reducible assumption) | (with_reducible refine below_drewN ?_ _) | (with_reducible refine below_step (by assumption) ?_ ?_) | (with_reducible refine Below.alloc ?_ ?_ _) | (with_reducible refine Below.setCell ?_ ?_ _) | (with_reducible refine Below.drew ?_) | go_size | (exact Below.size (by assumption)) | (refine Nat.le_trans (Below.size (by assumption)) ?_)))
      obtain ⟨c3, c4⟩ := c3
      have hw' : wgts ws (k + 1) := hs.out.1.succ (by rw [HXX.out]; omega) (by rw [HXX.out]; omega)
      have hsm := isum_take ws k (by rw [HL.out]; exact hlt)
      have hbd := hw'.sum (by rw [HL.out]; omega)
      rw [hsm, hs.out.2, HXX.out] at hbd
      rw [hs.out.2, HXX.out] at hsm
      have HS := Lib.hid (And.intro hw' hsm)
      clear hw' hsm
      have e1 : u + x ≤ 16777216 := by omega
      go_wp2_with (go_at_call 60; refine (within_yes _ _ _ c3 c4 _).mono ?_; rintro e w' ⟨rfl, rfl⟩)
      go_round
      case rel => exact ⟨k + 1, u + x, by go_num, rfl, by omega, by omega, e1, HS.out⟩
      case measure => simp [intOf]; omega
    · obtain rfl : k = n := by omega
      have hw : wgts ws ws.length ∧ isum ws = u := by have := hs.out; rw [← HL.out, List.take_length] at this; exact this
      have HW := Lib.hid hw
      clear hs hw
      by_cases c5 : u = 0
      · subst c5
        go_wp2
        go_ret2
        exact OutL.no' (shr_no HR.out (fun h => h.2.2.2.2 HW.out.2)) (by repeat' (first | (with_reducible exact Below.refl _ _) | (with_reducible assumption) | (with_reducible refine below_drewN ?_ _) | (with_reducible refine below_step (by assumption) ?_ ?_) | (with_reducible refine Below.alloc ?_ ?_ _) | (with_reducible refine Below.setCell ?_ ?_ _) | (with_reducible refine Below.drew ?_) | go_size | (exact Below.size (by assumption)) | (refine Nat.le_trans (Below.size (by assumption)) ?_)))
      have hF : (dealt (t - isum (base t u ws)).toNat (base t u ws) (rmd t u ws), (0 : Int)) = (l, z) := by
        have := (shr_in (t := t) (ws := ws) ⟨t0, t1, by rw [HL.out]; exact n16, HW.out.1, by rw [HW.out.2]; exact c5⟩).symm.trans HR.out
        rwa [HW.out.2] at this
      have HF := Lib.hid hF
      have u0 : 0 < u := by omega
      have e5 : (u == 0) = false := by rw [beq_eq_false_iff_ne]; exact c5
      clear hF c5 hlt hk
      go_wp2
      go_loopw [8, 9, 10, 11] (fun a b v i wr => ∃ (m : Nat) (y : Int), i = .int .i64 m ∧ v = .int .i64 y ∧ m ≤ k ∧ 0 ≤ y ∧ y ≤ t ∧ Hid (Below w.heap.size w wr ∧ OwnI wr w.heap.size a (base t u (ws.take m)) ∧ OwnI wr w.heap.size b (rmd t u (ws.take m)) ∧ Sep a b ∧ t - isum (base t u (ws.take m)) = y)) (fun _ _ _ i _ => k - (intOf i).toNat)
      case atStart => exact ⟨0, t, rfl, rfl, by omega, t0, by omega, (by repeat' (first | (with_reducible exact Below.refl _ _) | (with_reducible assumption) | (with_reducible refine below_drewN ?_ _) | (with_reducible refine below_step (by assumption) ?_ ?_) | (with_reducible refine Below.alloc ?_ ?_ _) | (with_reducible refine Below.setCell ?_ ?_ _) | (with_reducible refine Below.drew ?_) | go_size | (exact Below.size (by assumption)) | (refine Nat.le_trans (Below.size (by assumption)) ?_))), OwnI.nil _ _, OwnI.nil _ _, (fun g h => by cases h), by simp [isum, base]⟩
      case round =>
        obtain ⟨m, y, rfl, rfl, hm, hy0, hy1, hs⟩ := hrel
        by_cases hlt : m < k
        · obtain ⟨bk, o, hA, hlt', hc⟩ := (hx.below hs.out.1).2 (by omega)
          have h0 := hc m hlt
          obtain ⟨x, hxx⟩ : ∃ x, ws.getD m 0 = x := ⟨_, rfl⟩
          rw [hxx] at h0
          have hbx := HW.out.1 m (by rw [HL.out]; exact hlt)
          rw [hxx] at hbx
          obtain ⟨P, hP⟩ : ∃ P, t * x = P := ⟨_, rfl⟩
          obtain ⟨q, hq⟩ : ∃ q, P / u = q := ⟨_, rfl⟩
          obtain ⟨r, hr⟩ : ∃ r, P % u = r := ⟨_, rfl⟩
          have hP0 : 0 ≤ P := by rw [← hP]; exact Int.mul_nonneg t0 hbx.1
          have hP1 : P ≤ 1152921504606846976 := by rw [← hP]; exact Int.le_trans (Int.mul_le_mul t1 hbx.2 hbx.1 (by omega)) (by omega)
          have hq0 : 0 ≤ q := by rw [← hq]; exact Int.ediv_nonneg hP0 (by omega)
          have hq1 : q ≤ P := by rw [← hq]; exact Int.ediv_le_self _ hP0
          have hr0 : 0 ≤ r := by rw [← hr]; exact Int.emod_nonneg _ (by omega)
          have hr1 : r < u := by rw [← hr]; exact Int.emod_lt_of_pos _ u0
          have hb1 := base_snoc t u ws m (by rw [HL.out]; exact hlt)
          have hr1' := rmd_snoc t u ws m (by rw [HL.out]; exact hlt)
          rw [hxx, hP, hq] at hb1
          rw [hxx, hP, hr] at hr1'
          have hbd := base_take_bd HW.out.2 u0 t0 HW.out.1 (m + 1) (by rw [HL.out]; omega)
          have hle : (base t u (ws.take m)).length = m := by rw [base_length, List.length_take, HL.out]; omega
          have hle' : (rmd t u (ws.take m)).length = m := by rw [rmd_length, List.length_take, HL.out]; omega
          have e4 : t - isum (base t u (ws.take (m + 1))) = y - q := by rw [← hs.out.2.2.2.2, hb1, isum_append]; simp only [isum]; omega
          have hbd' : 0 ≤ y - q := by rw [← e4]; omega
          have hsz := hs.out.1.size
          have LE := Lib.hid (And.intro hle (And.intro hle' (And.intro hb1 (And.intro hr1' e4))))
          clear hbd hle hle' hb1 hr1' e4 hxx
          have hh : w.heap.size ≤ wr.heap.size := hsz
          subst hA
          have h0b : w.cell? ⟨bk, o + m, none⟩ = some (.int .i64 x) := by
            have hlb : bk < w.heap.size := by
              obtain ⟨b2, o2, e2, l2, -⟩ := hx.2 (by omega)
              cases e2; exact l2
            rw [← h0]; exact (hs.out.1.cell (p := ⟨bk, o + m, none⟩) hlb).symm
          have hlb : bk < w.heap.size := by
            obtain ⟨b2, o2, e2, l2, -⟩ := hx.2 (by omega)
            cases e2; exact l2
          have H0 := Lib.hid h0b
          clear hc hx HX h0b
          go_wp2_with (at_builtin; refine append_i64 (.tmp 50) (.tmp 59) rfl rfl w.heap.size _ _ q wr rfl rfl hs.out.2.1 rfl (by rw [LE.out.1]; omega) hh ?_)
          intro a' w1 ho1 hg1 hd1
          rw [← LE.out.2.2.1] at ho1
          have hb1 := OwnI.grown hs.out.2.2.1 hg1 hs.out.2.2.2.1.ne
          have hB1 : Below w.heap.size w w1 := hs.out.1.grown hg1 hh (fun k hk => (hs.out.2.1.lt k hk).1)
          have hS1 := hs.out.2.2.2.1.grow hs.out.2.2.1 hd1
          have hh1 : w.heap.size ≤ w1.heap.size := hB1.size
          have h1 : w1.cell? ⟨bk, o + m, none⟩ = some (.int .i64 x) := (hB1.cell (p := ⟨bk, o + m, none⟩) hlb).trans H0.out
          have G1 := Lib.hid (And.intro hB1 (And.intro ho1 (And.intro hb1 hS1)))
          clear hB1 ho1 hb1 hS1 hg1 hd1 h0
          go_wp2_with (at_builtin; refine append_i64 (.tmp 61) (.tmp 70) rfl rfl w.heap.size _ _ r w1 rfl rfl G1.out.2.2.1 rfl (by rw [LE.out.2.1]; omega) hh1 ?_)
          intro b' w2 ho2 hg2 hd2
          rw [← LE.out.2.2.2.1] at ho2
          have ha2 := OwnI.grown G1.out.2.1 hg2 G1.out.2.2.2.symm.ne
          have hB2 : Below w.heap.size w w2 := G1.out.1.grown hg2 hh1 (fun k hk => (G1.out.2.2.1.lt k hk).1)
          have hS2 := (G1.out.2.2.2.symm.grow G1.out.2.1 hd2).symm
          have hl2 : (base t u (ws.take (m + 1))).length = m + 1 := by rw [base_length, List.length_take, HL.out]; omega
          obtain ⟨g, cap, rfl, hrow, hgB⟩ := ha2.form (by omega)
          have c2 := hrow.get m (by omega)
          rw [show (base t u (ws.take (m + 1))).getD m 0 = q by rw [LE.out.2.2.1]; simp [LE.out.1]] at c2
          have G2 := Lib.hid (And.intro hB2 (And.intro ha2 (And.intro ho2 hS2)))
          have E4 := Lib.hid LE.out.2.2.2.2
          rw [hl2] at G2 ⊢
          clear hB2 ho2 ha2 hS2 hg2 hd2 h1 hrow G1 LE hs hl2
          go_wp2
          go_roundw
          case rel => exact ⟨m + 1, y - q, by go_num, by go_num, by omega, by omega, by omega, G2.out.1, G2.out.2.1, G2.out.2.2.1, G2.out.2.2.2, E4.out⟩
          case measure => simp [intOf]; omega
        · obtain rfl : m = k := by omega
          obtain ⟨s1, s2, s3, s5, s4⟩ := hs.out
          rw [← HL.out, List.take_length] at s2 s3 s4
          obtain ⟨d, hd⟩ := Int.eq_ofNat_of_zero_le hy0
          subst hd
          have hF := HF.out
          rw [s4, Int.toNat_natCast] at hF
          obtain ⟨hF2, hz⟩ := Prod.mk.inj hF
          subst hz
          obtain ⟨g1, cap1, rfl, r1, b1⟩ := s2.form (by rw [base_length, HL.out]; exact hkp)
          obtain ⟨g2, cap2, rfl, r2, b2⟩ := s3.form (by rw [rmd_length, HL.out]; exact hkp)
          rw [base_length, HL.out, rmd_length, HL.out]
          have hne : g1 ≠ g2 := fun e => s5 g1 rfl (by rw [e]; rfl)
          have hD : Deal w wr g1 g2 m d (base t u ws) (rmd t u ws) l := by
            refine ⟨s1, r1, r2, by rw [base_length, HL.out], by rw [rmd_length, HL.out], hF2, ?_⟩
            intro i hi
            rw [base_getD _ _ _ _ (by rw [HL.out]; exact hi)]
            have hw := HW.out.1 i (by rw [HL.out]; exact hi)
            have m1 : 0 ≤ t * ws.getD i 0 := Int.mul_nonneg t0 hw.1
            have m2 : t * ws.getD i 0 ≤ 1099511627776 * 1048576 := Int.mul_le_mul t1 hw.2 hw.1 (by omega)
            have m3 : 0 ≤ t * ws.getD i 0 / u := Int.ediv_nonneg m1 (by omega)
            have m4 : t * ws.getD i 0 / u ≤ t * ws.getD i 0 := Int.ediv_le_self _ m1
            omega
          have HD := Lib.hid hD
          clear s1 s2 s3 s4 s5 r1 r2 hs hF hF2 hD hx hlt hm HF
          go_wp2
          go_loopw [10] (fun v wq => ∃ (e : Nat) (p r : List Int), v = .int .i64 e ∧ e ≤ 1099511627776 ∧ Hid (Deal w wq g1 g2 m e p r l)) (fun v _ => (intOf v).toNat)
          case atStart => exact ⟨d, _, _, rfl, by omega, HD.out⟩
          case round =>
            obtain ⟨e, p, r, rfl, he, hs⟩ := hrel
            rcases Nat.eq_zero_or_pos e with rfl | hep
            · obtain ⟨s1, s2, s3, s4, s5, s6, s7⟩ := hs.out
              have ho : OutL w l 0 (.returned (.tuple #[.slice (some ⟨g1, 0, none⟩) m cap1, .int .i64 0])) wr := by
                simp only [dealt] at s6
                subst s6
                refine ⟨some ⟨g1, 0, none⟩, cap1, ?_, s2.isL, s1⟩
                rw [s4]
              have HO := Lib.hid ho
              clear s1 s2 s3 s4 s5 s6 s7 ho hs
              go_wp2
              go_ret2
              exact HO.out
            · have hs2 : Hid (Deal w wr g1 g2 m (e - 1 + 1) p r l) := by rw [Nat.sub_add_cancel hep]; exact hs
              go_wp2
              obtain ⟨wo, rfl⟩ : ∃ wo : World, wo = wr := ⟨_, rfl⟩
              go_loopw [12, 13] (fun bb i wi => ∃ (j : Nat) (e : Nat), i = .int .i64 j ∧ bb = .int .i64 (bst r j) ∧ wi = wo.drewN e ∧ j ≤ m) (fun _ i _ => m - (intOf i).toNat)
              case atStart => exact ⟨1, 0, rfl, by rw [bst_one]; rfl, rfl, by omega⟩
              case round =>
                obtain ⟨j, e', rfl, rfl, rfl, hj⟩ := hrel
                by_cases hlt : j < m
                · obtain ⟨b, hb⟩ : ∃ b, bst r j = b := ⟨_, rfl⟩
                  have hbm : b < m := by have := bst_le r j; omega
                  have q1 := hs.out.2.2.1.get j (by rw [hs.out.2.2.2.2.1]; exact hlt)
                  have q2 := hs.out.2.2.1.get b (by rw [hs.out.2.2.2.2.1]; exact hbm)
                  obtain ⟨x, hx⟩ : ∃ x, r.getD j 0 = x := ⟨_, rfl⟩
                  obtain ⟨y, hy⟩ : ∃ y, r.getD b 0 = y := ⟨_, rfl⟩
                  rw [hx] at q1
                  rw [hy] at q2
                  by_cases hxy : y < x
                  · have n1 : bst r (j + 1) = j := bst_rel (by rw [hb, hx, hy]; exact hxy)
                    have NN := Lib.hid n1
                    rw [hb]
                    clear hx hy n1 hb
                    go_wp2
                    go_quiet (fail)
                    go_wp2
                    go_roundw
                    case rel => exact ⟨j + 1, _, by go_num, by rw [NN.out], rfl, by omega⟩
                    case measure => simp [intOf]; omega
                  · have dxy : decide (y < x) = false := decide_eq_false hxy
                    have n1 : bst r (j + 1) = b := by rw [bst_rel' (by rw [hb, hx, hy]; exact hxy), hb]
                    have NN := Lib.hid n1
                    rw [hb]
                    clear hx hy n1 hb
                    go_wp2
                    go_quiet (fail)
                    go_wp2
                    go_roundw
                    case rel => exact ⟨j + 1, _, by go_num, by rw [NN.out], rfl, by omega⟩
                    case measure => simp [intOf]; omega
                · obtain rfl : j = m := by omega
                  obtain ⟨b, hb⟩ : ∃ b, bst r j = b := ⟨_, rfl⟩
                  have hbj : b < j := by rw [← hb]; exact bst_lt r j hkp
                  obtain ⟨s1, s2, s3, s4, s5, s6, s7⟩ := hs2.out
                  have hN := Deal.next (wr := wo.drewN e') (w := w) (show Deal w (wo.drewN e') _ _ j (e - 1 + 1) p r l from ⟨below_drewN s1 _, s2, s3, s4, s5, s6, s7⟩) hkp b1 b2 hne b hb
                  have q1 := s2.get b (by rw [s4]; exact hbj)
                  have f1 := Row.free s2 b
                  have q2 := s3.get b (by rw [s5]; exact hbj)
                  have f2 := Row.free s3 b
                  have s8 := s7 b hbj
                  obtain ⟨x, hx⟩ : ∃ x, p.getD b 0 = x := ⟨_, rfl⟩
                  rw [hx] at q1 s8 hN
                  have HN := Lib.hid hN
                  rw [hb]
                  clear s1 s2 s3 s4 s5 s6 s7 hN hx hb hs hs2
                  go_wp2
                  go_roundw
                  case rel => exact ⟨e - 1, _, _, congrArg (Value.int .i64) (by omega), by omega, HN.out⟩
                  case measure => simp [intOf]; omega
end Go.Proofs.YtclbjgelefbmlaaDoor
