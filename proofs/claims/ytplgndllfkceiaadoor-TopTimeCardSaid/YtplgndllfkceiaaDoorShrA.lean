/-
  Share, THE PROGRAM'S: THE WALK.
-/
import Derived.Test.YtplgndllfkceiaaDoorOwn
import Derived.Test.YtplgndllfkceiaaDoorShrM
import Derived.RegionTactic
namespace Go.Proofs.YtplgndllfkceiaaDoor
open Go.RowKit
/-- A list of integers in memory of the call's own, and a result code. -/
def OutL (w : World) (l : List Int) (z : Int) (e : Ending) (w' : World) : Prop :=
  ∃ A c, e = .returned (.tuple #[.slice A l.length c, .int .i64 z]) ∧ IsL w' A l.length l ∧ Below w.heap.size w w'
theorem OutL.no {w w' : World} {z : Int} (hb : Below w.heap.size w w') : OutL w [] z (.returned (.tuple #[.slice none 0 0, .int .i64 z])) w' := ⟨none, 0, rfl, ⟨rfl, fun h => by simp at h⟩, hb⟩
theorem OutL.no' {w w' : World} {l : List Int} {z y : Int} (h : (([] : List Int), y) = (l, z)) (hb : Below w.heap.size w w') : OutL w l z (.returned (.tuple #[.slice none 0 0, .int .i64 y])) w' := by
  obtain ⟨rfl, rfl⟩ := Prod.mk.inj h
  exact OutL.no hb
theorem fill_set (a : List Int) (x : Int) (m : Nat) : (a ++ List.replicate (m + 1) 0).set a.length x = (a ++ [x]) ++ List.replicate m 0 := by
  rw [List.set_append_right _ _ (Nat.le_refl _), Nat.sub_self, List.replicate_succ, List.set_cons_zero]
  simp
theorem shr_no {t : Int} {ws l : List Int} {z : Int} (hr : shr t ws = (l, z)) (h : ¬ (0 ≤ t ∧ t ≤ 1099511627776 ∧ ws.length ≤ 16 ∧ wgts ws ws.length ∧ isum ws ≠ 0)) : (([] : List Int), (1 : Int)) = (l, z) := (shr_out h).symm.trans hr
/-- What holds of a round of dealing out: memory, the parts, the remainders, the units that are left. -/
def Deal (w wr : World) (g1 g2 k d : Nat) (p r l : List Int) : Prop :=
  Below w.heap.size w wr ∧ RowI wr g1 p ∧ RowI wr g2 r ∧ p.length = k ∧ r.length = k ∧ dealt d p r = l ∧ ∀ i, i < k → 0 ≤ p.getD i 0 ∧ p.getD i 0 + d ≤ 2000000000000000000
theorem Deal.next {w wr : World} {g1 g2 k d : Nat} {p r l : List Int} (h : Deal w wr g1 g2 k (d + 1) p r l) (hk : 0 < k) (h1 : w.heap.size ≤ g1) (h2 : w.heap.size ≤ g2) (h12 : g1 ≠ g2) (b : Nat) (hb : bst r k = b) :
    Deal w ((wr.setCell ⟨g1, b, none⟩ (.int .i64 (p.getD b 0 + 1))).setCell ⟨g2, b, none⟩ (.int .i64 (-1))) g1 g2 k d (p.set b (p.getD b 0 + 1)) (r.set b (-1)) l := by
  obtain ⟨s1, s2, s3, s4, s5, s6, s7⟩ := h
  have hbk : b < k := by rw [← hb]; exact bst_lt r k hk
  refine ⟨(s1.setCell (p := ⟨g1, b, none⟩) h1 _).setCell (p := ⟨g2, b, none⟩) h2 _, ?_, ?_, by simpa using s4, by simpa using s5, ?_, ?_⟩
  · exact Row.other (s2.set b _) (p := ⟨g2, b, none⟩) h12 _
  · exact (show RowI _ g2 r from Row.other s3 (p := ⟨g1, b, none⟩) (fun e => h12 e.symm) _).set b _
  · rw [dealt, s5, hb] at s6
    exact s6
  · intro i hi
    by_cases e : b = i
    · subst e
      have := s7 b hi
      rw [show (p.set b (p.getD b 0 + 1)).getD b 0 = p.getD b 0 + 1 by simp [s4, hi]]
      omega
    · have := s7 i hi
      rw [show (p.set b (p.getD b 0 + 1)).getD i 0 = p.getD i 0 by simp only [List.getD_eq_getElem?_getD]; rw [List.getElem?_set_ne e]]
      omega
theorem bst_rel {r : List Int} {k : Nat} (h : r.getD (bst r k) 0 < r.getD k 0) : bst r (k + 1) = k := by simp only [bst]; rw [if_pos h]
theorem bst_rel' {r : List Int} {k : Nat} (h : ¬ r.getD (bst r k) 0 < r.getD k 0) : bst r (k + 1) = bst r k := by simp only [bst]; rw [if_neg h]
set_option maxRecDepth 100000 in
set_option maxHeartbeats 4000000 in
theorem share_any (t : Int) (A : Option Addr) (n c : Nat) (ws l : List Int) (z : Int) (hr : shr t ws = (l, z)) (w : World) (hx : IsL w A n ws) (hn : n ≤ 4611686018427387904) :
    Calls Tryd.prog 9 #[.int .i64 t, .slice A n c] w (OutL w l z) := by
  have hl := hx.1
  have HX := Lib.hid hx
  have HR := Lib.hid hr
  have HL := Lib.hid hl
  clear hr
  by_cases c0 : t < 0
  · clear hl hx
    go_enter Tryd.func9, Tryd.ntmps9
    go_wp2
    go_ret2
    exact OutL.no' (shr_no HR.out (by omega)) (by repeat' (first | (with_reducible exact Below.refl _ _) | (with_reducible assumption) | (with_reducible refine below_drewN ?_ _) | (with_reducible refine below_step (by assumption) ?_ ?_) | (with_reducible refine Below.alloc ?_ ?_ _) | (with_reducible refine Below.setCell ?_ ?_ _) | (with_reducible refine Below.drew ?_) | go_size | (exact Below.size (by assumption)) | (refine Nat.le_trans (Below.size (by assumption)) ?_)))
  by_cases c1 : 1099511627776 < t
  · clear hl hx
    have d0 : decide (t < 0) = false := decide_eq_false c0
    go_enter Tryd.func9, Tryd.ntmps9
    go_wp2
    go_ret2
    exact OutL.no' (shr_no HR.out (by omega)) (by repeat' (first | (with_reducible exact Below.refl _ _) | (with_reducible assumption) | (with_reducible refine below_drewN ?_ _) | (with_reducible refine below_step (by assumption) ?_ ?_) | (with_reducible refine Below.alloc ?_ ?_ _) | (with_reducible refine Below.setCell ?_ ?_ _) | (with_reducible refine Below.drew ?_) | go_size | (exact Below.size (by assumption)) | (refine Nat.le_trans (Below.size (by assumption)) ?_)))
  by_cases c2 : 16 < n
  · have d0 : decide (t < 0) = false := decide_eq_false c0
    have d1 : decide (1099511627776 < t) = false := decide_eq_false c1
    clear hl hx
    go_enter Tryd.func9, Tryd.ntmps9
    go_wp2
    go_ret2
    exact OutL.no' (shr_no HR.out (by rw [HL.out]; omega)) (by repeat' (first | (with_reducible exact Below.refl _ _) | (with_reducible assumption) | (with_reducible refine below_drewN ?_ _) | (with_reducible refine below_step (by assumption) ?_ ?_) | (with_reducible refine Below.alloc ?_ ?_ _) | (with_reducible refine Below.setCell ?_ ?_ _) | (with_reducible refine Below.drew ?_) | go_size | (exact Below.size (by assumption)) | (refine Nat.le_trans (Below.size (by assumption)) ?_)))
  have d0 : decide (t < 0) = false := decide_eq_false c0
  have d1 : decide (1099511627776 < t) = false := decide_eq_false c1
  have d2 : decide (16 < n) = false := decide_eq_false c2
  have t0 : 0 ≤ t := by omega
  have t1 : t ≤ 1099511627776 := by omega
  have n16 : n ≤ 16 := by omega
  clear c0 c1 c2 hl
  go_enter Tryd.func9, Tryd.ntmps9
  go_wp2
  clear d0 d1 d2
  go_loop [6, 29] (fun s i => ∃ (k : Nat) (u : Int), i = .int .i64 k ∧ s = .int .i64 u ∧ k ≤ n ∧ 0 ≤ u ∧ u ≤ 16777216 ∧ Hid (wgts ws k ∧ isum (ws.take k) = u)) (fun _ i => n - (intOf i).toNat)
  case atStart => exact ⟨0, 0, rfl, rfl, by omega, by omega, by omega, fun i hi => by omega, by simp [isum]⟩
  case round =>
    obtain ⟨k, u, rfl, rfl, hk, hu0, hu1, hs⟩ := hrel
    by_cases hlt : k < n
    · obtain ⟨bk, o, hA, hlt', hc⟩ := hx.2 (by omega)
      have h0 := hc k hlt
      obtain ⟨x, hxx⟩ : ∃ x, ws.getD k 0 = x := ⟨_, rfl⟩
      rw [hxx] at h0
      have HXX := Lib.hid hxx
      subst hA
      clear hx hc hxx
      by_cases c3 : x < 0
      · go_wp2
        go_ret2
        exact OutL.no' (shr_no HR.out (fun h => by have := (h.2.2.2.1 k (by rw [HL.out]; exact hlt)).1; rw [HXX.out] at this; omega)) (by repeat' (first | (with_reducible exact Below.refl _ _) | (with_reducible assumption) | (with_reducible refine below_drewN ?_ _) | (with_reducible refine below_step (by assumption) ?_ ?_) | (with_reducible refine Below.alloc ?_ ?_ _) | (with_reducible refine Below.setCell ?_ ?_ _) | (with_reducible refine Below.drew ?_) | go_size | (exact Below.size (by assumption)) | (refine Nat.le_trans (Below.size (by assumption)) ?_)))
      by_cases c4 : 1048576 < x
      · have d3 : decide (x < 0) = false := decide_eq_false c3
        go_wp2
        go_ret2
        exact OutL.no' (shr_no HR.out (fun h => by have := (h.2.2.2.1 k (by rw [HL.out]; exact hlt)).2; rw [HXX.out] at this; omega)) (by repeat' (first | (with_reducible exact Below.refl _ _) | (with_reducible assumption) | (with_reducible refine below_drewN ?_ _) | (with_reducible refine below_step (by assumption) ?_ ?_) | (with_reducible refine Below.alloc ?_ ?_ _) | (with_reducible refine Below.setCell ?_ ?_ _) | (with_reducible refine Below.drew ?_) | go_size | (exact Below.size (by assumption)) | (refine Nat.le_trans (Below.size (by assumption)) ?_)))
      have d3 : decide (x < 0) = false := decide_eq_false c3
      have d4 : decide (1048576 < x) = false := decide_eq_false c4
      have hw' : wgts ws (k + 1) := hs.out.1.succ (by rw [HXX.out]; omega) (by rw [HXX.out]; omega)
      have hsm := isum_take ws k (by rw [HL.out]; exact hlt)
      have hbd := hw'.sum (by rw [HL.out]; omega)
      rw [hsm, hs.out.2, HXX.out] at hbd
      rw [hs.out.2, HXX.out] at hsm
      have HS := Lib.hid (And.intro hw' hsm)
      clear hw' hsm
      have e1 : u + x ≤ 16777216 := by omega
      go_wp2
      go_round
      case rel => exact ⟨k + 1, u + x, by go_num, rfl, by omega, by omega, e1, HS.out⟩
      case measure => simp [intOf]; omega
    · obtain rfl : k = n := by omega
      have hw : wgts ws ws.length ∧ isum ws = u := by have := hs.out; rw [← HL.out, List.take_length] at this; exact this
      have HW := Lib.hid hw
      clear hs hw
      by_cases c5 : u = 0
      · subst c5
        go_wp2
        go_ret2
        exact OutL.no' (shr_no HR.out (fun h => h.2.2.2.2 HW.out.2)) (by repeat' (first | (with_reducible exact Below.refl _ _) | (with_reducible assumption) | (with_reducible refine below_drewN ?_ _) | (with_reducible refine below_step (by assumption) ?_ ?_) | (with_reducible refine Below.alloc ?_ ?_ _) | (with_reducible refine Below.setCell ?_ ?_ _) | (with_reducible refine Below.drew ?_) | go_size | (exact Below.size (by assumption)) | (refine Nat.le_trans (Below.size (by assumption)) ?_)))
      have hF : (dealt (t - isum (base t u ws)).toNat (base t u ws) (rmd t u ws), (0 : Int)) = (l, z) := by
        have := (shr_in (t := t) (ws := ws) ⟨t0, t1, by rw [HL.out]; exact n16, HW.out.1, by rw [HW.out.2]; exact c5⟩).symm.trans HR.out
        rwa [HW.out.2] at this
      have HF := Lib.hid hF
      have u0 : 0 < u := by omega
      have e5 : (u == 0) = false := by rw [beq_eq_false_iff_ne]; exact c5
      have hkp : 0 < k := by have := isum_pos_length (ws := ws) (by rw [HW.out.2]; exact c5); rw [HL.out] at this; exact this
      clear hF c5 hlt hk
      have hmk := fun w => make_i64 k (by omega) w
      go_wp2
      clear hmk
      go_loopw [11, 54] (fun v i wr => ∃ (m : Nat) (y : Int), i = .int .i64 m ∧ v = .int .i64 y ∧ m ≤ k ∧ 0 ≤ y ∧ y ≤ t ∧ Hid (Below w.heap.size w wr ∧ RowI wr w.heap.size (base t u (ws.take m) ++ List.replicate (k - m) 0) ∧ RowI wr (w.heap.size + 1) (rmd t u (ws.take m) ++ List.replicate (k - m) 0) ∧ t - isum (base t u (ws.take m)) = y)) (fun _ i _ => k - (intOf i).toNat)
      case atStart =>
        refine ⟨0, t, rfl, rfl, by omega, t0, by omega, ⟨(by repeat' (first | (with_reducible exact Below.refl _ _) | (with_reducible assumption) | (with_reducible refine below_drewN ?_ _) | (with_reducible refine below_step (by assumption) ?_ ?_) | (with_reducible refine Below.alloc ?_ ?_ _) | (with_reducible refine Below.setCell ?_ ?_ _) | (with_reducible refine Below.drew ?_) | go_size | (exact Below.size (by assumption)) | (refine Nat.le_trans (Below.size (by assumption)) ?_))), ?_, ?_, by simp [isum, base]⟩⟩
        · exact (RowI.zeros _ _).alloc _
        · have := RowI.zeros (w.alloc (.cells (zcells k) 3)) k
          rwa [World.size_alloc] at this
      case round =>
        obtain ⟨m, y, rfl, rfl, hm, hy0, hy1, hs⟩ := hrel
        by_cases hlt : m < k
        · obtain ⟨bk, o, hA, hlt', hc⟩ := (hx.below hs.out.1).2 (by omega)
          have h0 := hc m hlt
          obtain ⟨x, hxx⟩ : ∃ x, ws.getD m 0 = x := ⟨_, rfl⟩
          rw [hxx] at h0
          have hbx := HW.out.1 m (by rw [HL.out]; exact hlt)
          rw [hxx] at hbx
          obtain ⟨P, hP⟩ : ∃ P, t * x = P := ⟨_, rfl⟩
          obtain ⟨q, hq⟩ : ∃ q, P / u = q := ⟨_, rfl⟩
          obtain ⟨r, hr⟩ : ∃ r, P % u = r := ⟨_, rfl⟩
          have hP0 : 0 ≤ P := by rw [← hP]; exact Int.mul_nonneg t0 hbx.1
          have hP1 : P ≤ 1152921504606846976 := by rw [← hP]; exact Int.le_trans (Int.mul_le_mul t1 hbx.2 hbx.1 (by omega)) (by omega)
          have hq0 : 0 ≤ q := by rw [← hq]; exact Int.ediv_nonneg hP0 (by omega)
          have hq1 : q ≤ P := by rw [← hq]; exact Int.ediv_le_self _ hP0
          have hr0 : 0 ≤ r := by rw [← hr]; exact Int.emod_nonneg _ (by omega)
          have hr1 : r < u := by rw [← hr]; exact Int.emod_lt_of_pos _ u0
          have hqt : P.tdiv u = q := by rw [Int.tdiv_eq_ediv_of_nonneg hP0, hq]
          have hrt : P.tmod u = r := by rw [Int.tmod_eq_emod_of_nonneg hP0, hr]
          have wP : IntKind.i64.wrap P = P := IntWalk.i64_in _ ⟨by omega, by omega⟩
          have wq : IntKind.i64.wrap q = q := IntWalk.i64_in _ ⟨by omega, by omega⟩
          have wr' : IntKind.i64.wrap r = r := IntWalk.i64_in _ ⟨by omega, by omega⟩
          have hb1 := base_snoc t u ws m (by rw [HL.out]; exact hlt)
          have hr1' := rmd_snoc t u ws m (by rw [HL.out]; exact hlt)
          rw [hxx, hP, hq] at hb1
          rw [hxx, hP, hr] at hr1'
          have hbd := base_take_bd HW.out.2 u0 t0 HW.out.1 (m + 1) (by rw [HL.out]; omega)
          have hle : (base t u (ws.take m)).length = m := by rw [base_length, List.length_take, HL.out]; omega
          have hle' : (rmd t u (ws.take m)).length = m := by rw [rmd_length, List.length_take, HL.out]; omega
          have hkm : k - m = (k - (m + 1)) + 1 := by omega
          obtain ⟨s1, s2, s3, s4⟩ := hs.out
          rw [hkm] at s2 s3
          have c1 := s2.get m (by simp; omega)
          have f1 := Row.free s2 m
          have c2 := s3.get m (by simp; omega)
          have f2 := Row.free s3 m
          have e1 := fill_set (base t u (ws.take m)) q (k - (m + 1))
          rw [hle, ← hb1] at e1
          have e2 := fill_set (rmd t u (ws.take m)) r (k - (m + 1))
          rw [hle', ← hr1'] at e2
          have s5 := s2.set m q
          rw [e1] at s5
          have s6 := (show RowI (wr.setCell ⟨w.heap.size, m, none⟩ (.int .i64 q)) (w.heap.size + 1) _ from Row.other s3 (p := ⟨w.heap.size, m, none⟩) (by simp) (.int .i64 q)).set m r
          rw [e2] at s6
          have s7 : RowI _ _ _ := Row.other s5 (p := ⟨w.heap.size + 1, m, none⟩) (by simp) (.int .i64 r)
          have s8 := (s1.setCell (p := ⟨w.heap.size, m, none⟩) (by simp) (.int .i64 q)).setCell (p := ⟨w.heap.size + 1, m, none⟩) (by simp) (.int .i64 r)
          have SS := Lib.hid (And.intro s8 (And.intro s7 s6))
          have e3 : (base t u (ws.take (m + 1)) ++ List.replicate (k - (m + 1)) 0).getD m 0 = q := by rw [hb1, List.append_assoc]; simp [hle]
          have e4 : t - isum (base t u (ws.take (m + 1))) = y - q := by rw [← s4, hb1, isum_append]; simp only [isum]; omega
          have hbd' : 0 ≤ y - q := by rw [← e4]; omega
          have EE := Lib.hid (And.intro e3 e4)
          subst hA
          clear e3 e4 hbd s1 s2 s3 s4 s5 s6 s7 s8 e1 e2 hb1 hr1' hle hle' hkm hc hx hxx hq hr HX
          go_wp2
          go_region
          obtain ⟨wa, hwa⟩ : ∃ wa, wa = ((wr.setCell ⟨w.heap.size, m, none⟩ (.int .i64 q)).setCell ⟨w.heap.size + 1, m, none⟩ (.int .i64 r)).drew := ⟨_, rfl⟩
          rw [← hwa]
          have SA : Below w.heap.size w wa ∧ RowI wa w.heap.size (base t u (ws.take (m + 1)) ++ List.replicate (k - (m + 1)) 0) ∧ RowI wa (w.heap.size + 1) (rmd t u (ws.take (m + 1)) ++ List.replicate (k - (m + 1)) 0) := by rw [hwa]; exact ⟨SS.out.1.drew, SS.out.2.1, SS.out.2.2⟩
          have ca := SA.2.1.get m (by rw [List.length_append, base_length, List.length_take, HL.out]; omega)
          rw [EE.out.1] at ca
          have SB := Lib.hid SA
          clear SA hwa c1 c2 f1 f2 SS
          go_wp2
          go_roundw
          case rel => exact ⟨m + 1, y - q, by go_num, by go_num, by omega, by omega, by omega, SB.out.1, SB.out.2.1, SB.out.2.2, EE.out.2⟩
          case measure => simp [intOf]; omega
        · obtain rfl : m = k := by omega
          obtain ⟨s1, s2, s3, s4⟩ := hs.out
          rw [← HL.out, List.take_length, Nat.sub_self, List.replicate_zero, List.append_nil] at s2 s3
          rw [← HL.out, List.take_length] at s4
          obtain ⟨d, hd⟩ := Int.eq_ofNat_of_zero_le hy0
          subst hd
          have hF := HF.out
          rw [s4, Int.toNat_natCast] at hF
          obtain ⟨hF2, hz⟩ := Prod.mk.inj hF
          subst hz
          have hD : Deal w wr w.heap.size (w.heap.size + 1) m d (base t u ws) (rmd t u ws) l := by
            refine ⟨s1, s2, s3, by rw [base_length, HL.out], by rw [rmd_length, HL.out], hF2, ?_⟩
            intro i hi
            rw [base_getD _ _ _ _ (by rw [HL.out]; exact hi)]
            have hw := HW.out.1 i (by rw [HL.out]; exact hi)
            have m1 : 0 ≤ t * ws.getD i 0 := Int.mul_nonneg t0 hw.1
            have m2 : t * ws.getD i 0 ≤ 1099511627776 * 1048576 := Int.mul_le_mul t1 hw.2 hw.1 (by omega)
            have m3 : 0 ≤ t * ws.getD i 0 / u := Int.ediv_nonneg m1 (by omega)
            have m4 : t * ws.getD i 0 / u ≤ t * ws.getD i 0 := Int.ediv_le_self _ m1
            omega
          have HD := Lib.hid hD
          clear s1 s2 s3 s4 hs hF hF2 hD hx hlt hm HF
          go_wp2
          go_loopw [11] (fun v wq => ∃ (e : Nat) (p r : List Int), v = .int .i64 e ∧ e ≤ 1099511627776 ∧ Hid (Deal w wq w.heap.size (w.heap.size + 1) m e p r l)) (fun v _ => (intOf v).toNat)
          case atStart => exact ⟨d, _, _, rfl, by omega, HD.out⟩
          case round =>
            obtain ⟨e, p, r, rfl, he, hs⟩ := hrel
            rcases Nat.eq_zero_or_pos e with rfl | hep
            · obtain ⟨s1, s2, s3, s4, s5, s6, s7⟩ := hs.out
              have ho : OutL w l 0 (.returned (.tuple #[.slice (some ⟨w.heap.size, 0, none⟩) m m, .int .i64 0])) wr := by
                simp only [dealt] at s6
                subst s6
                refine ⟨some ⟨w.heap.size, 0, none⟩, m, ?_, s2.isL, s1⟩
                rw [s4]
              have HO := Lib.hid ho
              clear s1 s2 s3 s4 s5 s6 s7 ho hs
              go_wp2
              go_ret2
              exact HO.out
            · have hs2 : Hid (Deal w wr w.heap.size (w.heap.size + 1) m (e - 1 + 1) p r l) := by rw [Nat.sub_add_cancel hep]; exact hs
              go_wp2
              obtain ⟨wo, rfl⟩ : ∃ wo : World, wo = wr := ⟨_, rfl⟩
              go_loopw [14, 88] (fun bb i wi => ∃ (j : Nat) (e : Nat), i = .int .i64 j ∧ bb = .int .i64 (bst r j) ∧ wi = wo.drewN e ∧ j ≤ m) (fun _ i _ => m - (intOf i).toNat)
              case atStart => exact ⟨0, 0, rfl, rfl, rfl, by omega⟩
              case round =>
                obtain ⟨j, e', rfl, rfl, rfl, hj⟩ := hrel
                by_cases hlt : j < m
                · obtain ⟨b, hb⟩ : ∃ b, bst r j = b := ⟨_, rfl⟩
                  have hbm : b < m := by have := bst_le r j; omega
                  have q1 := hs.out.2.2.1.get j (by rw [hs.out.2.2.2.2.1]; exact hlt)
                  have q2 := hs.out.2.2.1.get b (by rw [hs.out.2.2.2.2.1]; exact hbm)
                  obtain ⟨x, hx⟩ : ∃ x, r.getD j 0 = x := ⟨_, rfl⟩
                  obtain ⟨y, hy⟩ : ∃ y, r.getD b 0 = y := ⟨_, rfl⟩
                  rw [hx] at q1
                  rw [hy] at q2
                  by_cases hxy : y < x
                  · have n1 : bst r (j + 1) = j := bst_rel (by rw [hb, hx, hy]; exact hxy)
                    have NN := Lib.hid n1
                    rw [hb]
                    clear hx hy n1 hb
                    go_wp2
                    go_quiet (fail)
                    go_wp2
                    go_roundw
                    case rel => exact ⟨j + 1, _, by go_num, by rw [NN.out], rfl, by omega⟩
                    case measure => simp [intOf]; omega
                  · have dxy : decide (y < x) = false := decide_eq_false hxy
                    have n1 : bst r (j + 1) = b := by rw [bst_rel' (by rw [hb, hx, hy]; exact hxy), hb]
                    have NN := Lib.hid n1
                    rw [hb]
                    clear hx hy n1 hb
                    go_wp2
                    go_quiet (fail)
                    go_wp2
                    go_roundw
                    case rel => exact ⟨j + 1, _, by go_num, by rw [NN.out], rfl, by omega⟩
                    case measure => simp [intOf]; omega
                · obtain rfl : j = m := by omega
                  obtain ⟨b, hb⟩ : ∃ b, bst r j = b := ⟨_, rfl⟩
                  have hbj : b < j := by rw [← hb]; exact bst_lt r j hkp
                  obtain ⟨s1, s2, s3, s4, s5, s6, s7⟩ := hs2.out
                  have hN := Deal.next (wr := wo.drewN e') (w := w) (show Deal w (wo.drewN e') _ _ j (e - 1 + 1) p r l from ⟨below_drewN s1 _, s2, s3, s4, s5, s6, s7⟩) hkp (by omega) (by omega) (by omega) b hb
                  have q1 := s2.get b (by rw [s4]; exact hbj)
                  have f1 := Row.free s2 b
                  have q2 := s3.get b (by rw [s5]; exact hbj)
                  have f2 := Row.free s3 b
                  have s8 := s7 b hbj
                  obtain ⟨x, hx⟩ : ∃ x, p.getD b 0 = x := ⟨_, rfl⟩
                  rw [hx] at q1 s8 hN
                  have HN := Lib.hid hN
                  rw [hb]
                  clear s1 s2 s3 s4 s5 s6 s7 hN hx hb hs hs2
                  go_wp2
                  go_roundw
                  case rel => exact ⟨e - 1, _, _, congrArg (Value.int .i64) (by omega), by omega, HN.out⟩
                  case measure => simp [intOf]; omega
end Go.Proofs.YtplgndllfkceiaaDoor
