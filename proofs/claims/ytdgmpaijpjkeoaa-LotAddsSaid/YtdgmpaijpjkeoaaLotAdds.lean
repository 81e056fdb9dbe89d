/-
  THE WALK OF THE LAW LotAdds: it returns true.
-/
import Derived.Test.YtdgmpaijpjkeoaaAddB
import Derived.Test.YtdgmpaijpjkeoaaOwnG
import Derived.Test.YtdgmpaijpjkeoaaLotK
namespace Go.Proofs.Ytdgmpaijpjkeoaa
open Go.RowKit
theorem OwnL.mut1 {w : World} {B n c : Nat} {A : Option Addr} {ls : List LotD} (h : OwnL w B (.slice A n c) ls) (hp : 0 < ls.length) : ∃ g, A = some ⟨g, 0, none⟩ ∧ MutL w B g (ls.map (·.parts.length)) := by
  have h0 := h
  obtain ⟨ts, t1, -⟩ := h
  rcases t1.2 with ⟨e, e0⟩ | ⟨g, cap, cur, e, -⟩
  · omega
  · cases e
    exact ⟨g, rfl, h0.mut.2⟩
theorem addR_len {l : List LotD} {x : LotD} {a : List LotD} {z : Int} (h : addR l x = (a, z)) (hl : l.length ≤ 40) (hps : ∀ y ∈ l, y.parts.length ≤ 20) (hx : x.parts.length ≤ 20) : a.length ≤ 41 ∧ ∀ y ∈ a, y.parts.length ≤ 20 := by
  unfold addR at h
  split at h
  · obtain ⟨rfl, -⟩ := Prod.mk.inj h
    exact ⟨by simp, fun y hy => by simp at hy⟩
  · split at h
    · obtain ⟨rfl, -⟩ := Prod.mk.inj h
      exact ⟨by simp, fun y hy => by simp at hy⟩
    · obtain ⟨rfl, -⟩ := Prod.mk.inj h
      refine ⟨by simp; omega, fun y hy => ?_⟩
      rcases List.mem_append.1 hy with h | h
      · exact hps y h
      · simp at h; subst h; exact hx
set_option maxRecDepth 100000 in
set_option maxHeartbeats 1000000 in
theorem lotAdds_walk (A : Option Addr) (c : Nat) (l : List LotD) (kd ms : Int) (ps : List (Int × Int)) (A' : Option Addr) (c' : Nat) (hi : I64 kd ∧ I64 ms) (hc : ps.length ≤ c') (w : World) (hL : LotsIn w A l) (hP : PartsIn w A' ps) (hl : l.length ≤ maxLen) :
    Calls Try.prog 7 #[.slice A l.length c, .agg #[.int .i64 kd, .int .i64 ms, .slice A' ps.length c']] w fun e w' => e = .returned (.bool true) ∧ Below w.heap.size w w' := by
  have HL := Lib.hid hL
  have HP := Lib.hid hP
  have HI := Lib.hid hi
  clear hL hP hi
  cases hlong : longB l with
  | true =>
    have HLO := Lib.hid hlong
    clear hlong
    go_enter Try.func7, Try.ntmps7
    go_wp2_with fail
    refine (long_any l true HLO.out A c _ (HL.out.below (by repeat' (first | (with_reducible exact Below.refl _ _) | (with_reducible assumption) | (with_reducible refine below_drewN ?_ _) | (with_reducible refine below_step (by assumption) ?_ ?_) | (with_reducible refine Below.alloc ?_ ?_ _) | (with_reducible refine Below.setCell ?_ ?_ _) | (with_reducible refine Below.drew ?_) | go_size | (exact Below.size (by assumption)) | (refine Nat.le_trans (Below.size (by assumption)) ?_)))) hl).mono ?_
    rintro e w' ⟨rfl, rfl⟩
    go_wp2_with fail
    refine (known_any _).mono ?_
    rintro e w1 ⟨rfl, hb1⟩
    go_wp2
    go_ret
    exact ⟨rfl, (by repeat' (first | (with_reducible exact Below.refl _ _) | (with_reducible assumption) | (with_reducible refine below_drewN ?_ _) | (with_reducible refine below_step (by assumption) ?_ ?_) | (with_reducible refine Below.alloc ?_ ?_ _) | (with_reducible refine Below.setCell ?_ ?_ _) | (with_reducible refine Below.drew ?_) | go_size | (exact Below.size (by assumption)) | (refine Nat.le_trans (Below.size (by assumption)) ?_)))⟩
  | false =>
    obtain ⟨hl40, hps20⟩ := long_small hlong
    have HLO := Lib.hid hlong
    clear hlong
    by_cases h20 : 20 < ps.length
    · have d0 : decide ((20 : Int) < (ps.length : Int)) = true := decide_eq_true (by omega)
      clear hps20
      go_enter Try.func7, Try.ntmps7
      go_wp2_with fail
      refine (long_any l false HLO.out A c _ (HL.out.below (by repeat' (first | (with_reducible exact Below.refl _ _) | (with_reducible assumption) | (with_reducible refine below_drewN ?_ _) | (with_reducible refine below_step (by assumption) ?_ ?_) | (with_reducible refine Below.alloc ?_ ?_ _) | (with_reducible refine Below.setCell ?_ ?_ _) | (with_reducible refine Below.drew ?_) | go_size | (exact Below.size (by assumption)) | (refine Nat.le_trans (Below.size (by assumption)) ?_)))) hl).mono ?_
      rintro e w' ⟨rfl, rfl⟩
      go_wp2_with fail
      refine (known_any _).mono ?_
      rintro e w1 ⟨rfl, hb1⟩
      go_wp2
      go_ret
      exact ⟨rfl, (by repeat' (first | (with_reducible exact Below.refl _ _) | (with_reducible assumption) | (with_reducible refine below_drewN ?_ _) | (with_reducible refine below_step (by assumption) ?_ ?_) | (with_reducible refine Below.alloc ?_ ?_ _) | (with_reducible refine Below.setCell ?_ ?_ _) | (with_reducible refine Below.drew ?_) | go_size | (exact Below.size (by assumption)) | (refine Nat.le_trans (Below.size (by assumption)) ?_)))⟩
    · obtain ⟨a, z, hm⟩ : ∃ a z, addR l ⟨kd, ms, ps⟩ = (a, z) := ⟨_, _, rfl⟩
      obtain ⟨ha, hpa⟩ := addR_len hm hl40 hps20 (by simpa using h20)
      have HM := Lib.hid hm
      have HPS := Lib.hid (show ∀ x ∈ l, x.parts.length ≤ 1000 from fun x hx => by have := hps20 x hx; omega)
      have HPA := Lib.hid (show ∀ x ∈ a, x.parts.length ≤ 1000 from fun x hx => by have := hpa x hx; omega)
      have d0 : decide ((20 : Int) < (ps.length : Int)) = false := decide_eq_false (by omega)
      clear hm hps20 hpa
      go_enter Try.func7, Try.ntmps7
      go_wp2_with fail
      obtain ⟨W, hW⟩ : ∃ W, W = w.alloc (.cells (lotC kd ms (.slice A' ps.length c')) 37) := ⟨_, rfl⟩
      show Calls _ _ _ (w.alloc (.cells (lotC kd ms (.slice A' ps.length c')) 37)) _
      rw [← hW]
      have hb := Lib.hid (show Below w.heap.size w W by rw [hW]; exact (by repeat' (first | (with_reducible exact Below.refl _ _) | (with_reducible assumption) | (with_reducible refine below_drewN ?_ _) | (with_reducible refine below_step (by assumption) ?_ ?_) | (with_reducible refine Below.alloc ?_ ?_ _) | (with_reducible refine Below.setCell ?_ ?_ _) | (with_reducible refine Below.drew ?_) | go_size | (exact Below.size (by assumption)) | (refine Nat.le_trans (Below.size (by assumption)) ?_))))
      have b0 := Lib.hid (show W.heap[w.heap.size]? = some (.cells (lotC kd ms (.slice A' ps.length c')) 37 (0, 0)) by rw [hW]; exact heap_alloc_new w _)
      have z0 := Lib.hid (show w.heap.size < W.heap.size by rw [hW]; simp)
      clear hW
      refine (long_any l false HLO.out A c _ (HL.out.below hb.out) hl).mono ?_
      rintro e w' ⟨rfl, rfl⟩
      have c2 : W.cell? ⟨w.heap.size, 2, none⟩ = some (.slice A' ps.length c') := (cell_of_row W _ 2 _ _ (0, 0) b0.out).trans rfl
      have z1 := z0.out
      go_wp2_with fail
      refine (rcopy_any l (by omega) HPS.out A c W (HL.out.below hb.out)).mono ?_
      rintro e w1 ⟨vo, rfl, o1, hb1⟩
      obtain ⟨A0, c0', rfl, -, L0⟩ := o1.lots
      have H1 := Lib.hid (And.intro (hb.out.trans (hb1.mono hb.out.size)) (And.intro L0 ((hb1.block _ z0.out).trans b0.out)))
      have z2 := Nat.lt_of_lt_of_le z0.out hb1.size
      clear o1 L0 hb1 c2 z1 z0 b0 hb
      have c0 : w1.cell? ⟨w.heap.size, 0, none⟩ = some (.int .i64 kd) := (cell_of_row w1 _ 0 _ _ (0, 0) H1.out.2.2).trans rfl
      have c1 : w1.cell? ⟨w.heap.size, 1, none⟩ = some (.int .i64 ms) := (cell_of_row w1 _ 1 _ _ (0, 0) H1.out.2.2).trans rfl
      have c2 : w1.cell? ⟨w.heap.size, 2, none⟩ = some (.slice A' ps.length c') := (cell_of_row w1 _ 2 _ _ (0, 0) H1.out.2.2).trans rfl
      go_wp2_with fail
      refine (add_any l (by omega) HPS.out kd ms ps HI.out (by omega) a z HM.out A0 c0' A' c' hc w1 H1.out.2.1 (HP.out.below H1.out.1)).mono ?_
      rintro e w2 ⟨v, rfl, o2, hb2⟩
      obtain ⟨A2, c2', rfl, -, L2⟩ := o2.lots
      have H2 := Lib.hid (And.intro o2 hb2)
      have z3 := Nat.lt_of_lt_of_le z2 hb2.size
      replace c0 := (hb2.cell (p := ⟨w.heap.size, 0, none⟩) z2).trans c0
      replace c1 := (hb2.cell (p := ⟨w.heap.size, 1, none⟩) z2).trans c1
      replace c2 := (hb2.cell (p := ⟨w.heap.size, 2, none⟩) z2).trans c2
      clear o2 hb2 L2
      go_wp2_with fail
      refine (radd3_any l (by omega) HPS.out kd ms ps HI.out (by omega) a z HM.out A c A' c' w2 (HL.out.below (H1.out.1.trans (H2.out.2.mono H1.out.1.size))) (HP.out.below (H1.out.1.trans (H2.out.2.mono H1.out.1.size)))).mono ?_
      rintro e w3 ⟨v, rfl, o3, hb3⟩
      obtain ⟨A3, c3', rfl, -, L3⟩ := o3.lots
      have H3 := Lib.hid (And.intro (H2.out.1.below hb3) (And.intro L3 (H2.out.2.trans (hb3.mono H2.out.2.size))))
      clear c0 c1 c2 o3 hb3 L3 H2 z3 z2
      have d1 : (z == z) = true := by simp
      have d2 : (valE l == valE l) = true := by simp
      obtain ⟨E, hE⟩ : ∃ E, E = valE l := ⟨_, rfl⟩
      rw [← hE] at d2
      have HE := Lib.hid hE
      clear hE
      go_wp2_with fail
      refine (validate_any l (by omega) HPS.out A c w3 (HL.out.below (H1.out.1.trans (H3.out.2.2.mono H1.out.1.size)))).mono ?_
      rw [← HE.out]
      rintro e w4 ⟨rfl, hb4⟩
      have H4 := Lib.hid (And.intro (H3.out.1.below hb4) (And.intro (H3.out.2.1.below hb4) (H3.out.2.2.trans (hb4.mono H3.out.2.2.size))))
      clear hb4 H3
      go_wp2_with fail
      refine (rvalidate_any l (by omega) HPS.out A c w4 (HL.out.below (H1.out.1.trans (H4.out.2.2.mono H1.out.1.size)))).mono ?_
      rw [← HE.out]
      rintro e w5 ⟨rfl, hb4⟩
      have H5 := Lib.hid (And.intro (H4.out.1.below hb4) (And.intro (H4.out.2.1.below hb4) (H4.out.2.2.trans (hb4.mono H4.out.2.2.size))))
      clear hb4 H4
      go_wp2_with fail
      obtain ⟨A2', c2'', e2, -, L2⟩ := H5.out.1.lots
      cases e2
      refine (same_lots a (by omega) HPA.out A2 c2' A3 c3' w5 L2 H5.out.2.1).mono ?_
      rintro e w6 ⟨rfl, hb4⟩
      have H6 := Lib.hid (And.intro (H5.out.1.below hb4) (H5.out.2.2.trans (hb4.mono H5.out.2.2.size)))
      clear hb4 H5 L2 d2 HE
      have R0 := Lib.hid (show (0 < a.length → ∃ g, A2 = some ⟨g, 0, none⟩ ∧ MutL w6 w1.heap.size g (a.map (·.parts.length))) ∧ Below w1.heap.size w1 w6 from ⟨fun h => H6.out.1.mut1 h, H6.out.2⟩)
      clear H6
      go_wp2
      go_loopw [11] (fun t wr => ∃ k : Nat, t = .int .i64 k ∧ k ≤ a.length ∧ Hid ((0 < a.length → ∃ g, A2 = some ⟨g, 0, none⟩ ∧ MutL wr w1.heap.size g (a.map (·.parts.length))) ∧ Below w1.heap.size w1 wr)) (fun t _ => a.length - (intOf t).toNat)
      case atStart => exact ⟨0, rfl, by omega, R0⟩
      case round =>
        clear R0
        obtain ⟨k, rfl, hk, hr⟩ := hrel
        by_cases hlt : k < a.length
        · obtain ⟨g, rfl, hmu⟩ := hr.out.1 (by omega)
          obtain ⟨m, hm⟩ : ∃ m, m = a[k].parts.length := ⟨_, rfl⟩
          have HMK := Lib.hid (show (a.map (·.parts.length))[k]'(by simpa using hlt) = m by simp [hm])
          have Q0 := Lib.hid (And.intro hmu hr.out.2)
          have hm1 : m ≤ 1000 := by rw [hm]; exact HPA.out _ (List.getElem_mem hlt)
          clear hm hmu hr
          go_wp2
          go_loopw [12] (fun t wq => ∃ i : Nat, t = .int .i64 i ∧ i ≤ m ∧ Hid (MutL wq w1.heap.size g (a.map (·.parts.length)) ∧ Below w1.heap.size w1 wq)) (fun t _ => m - (intOf t).toNat)
          case atStart => exact ⟨0, rfl, by omega, Q0⟩
          case round =>
            clear Q0
            obtain ⟨i, rfl, hi, hq⟩ := hrel
            obtain ⟨Ap, cp, e1, e2, e3⟩ := hq.out.1.at k (by simpa using hlt)
            rw [HMK.out] at e1 e2 e3
            have e4 := hq.out.1.2.1
            have e5 := hq.out.1.1
            by_cases hil : i < m
            · obtain ⟨b, u, rfl, f1, f2, f3, f4, f5⟩ := e3 i hil
              have H2 := Lib.hid (And.intro (hq.out.1.set f3 (i * 2 + 1) (.int .i64 (-1))) (hq.out.2.setCell (p := ⟨b, i * 2 + 1, none⟩) f1 (.int .i64 (-1))))
              clear e3 hq
              go_wp2
              go_roundw
              case rel => exact ⟨i + 1, by go_num, by omega, H2⟩
              case measure => simp [intOf]; omega
            · obtain rfl : i = m := by omega
              have H2 := Lib.hid (show (0 < a.length → ∃ g', some (⟨g, 0, none⟩ : Addr) = some ⟨g', 0, none⟩ ∧ MutL wr w1.heap.size g' (a.map (·.parts.length))) ∧ Below w1.heap.size w1 wr from ⟨fun _ => ⟨g, rfl, hq.out.1⟩, hq.out.2⟩)
              clear e3 hq
              go_wp2
              go_roundw
              case rel => exact ⟨k + 1, by go_num, by omega, H2⟩
              case measure => simp [intOf]; omega
        · obtain rfl : k = a.length := by omega
          have HB := Lib.hid hr.out.2
          clear hr
          go_wp2_with fail
          refine (same_lots l (by omega) HPS.out A0 c0' A c wr (H1.out.2.1.below HB.out) (HL.out.below (H1.out.1.trans (HB.out.mono H1.out.1.size)))).mono ?_
          rintro e w7 ⟨rfl, hb7⟩
          have HB7 := Lib.hid (HB.out.trans (hb7.mono HB.out.size))
          clear hb7 HB
          go_wp2_with fail
          refine (known_any _).mono ?_
          rintro e w8 ⟨rfl, hb8⟩
          have HB8 := Lib.hid (H1.out.1.trans ((HB7.out.trans (hb8.mono HB7.out.size)).mono H1.out.1.size))
          clear hb8
          go_wp2
          go_ret
          exact ⟨rfl, HB8.out⟩
end Go.Proofs.Ytdgmpaijpjkeoaa
