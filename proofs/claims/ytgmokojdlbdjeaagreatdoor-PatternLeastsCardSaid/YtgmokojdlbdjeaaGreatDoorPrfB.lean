/-
  THE REFERENCE: period.
-/
import Derived.Test.YtgmokojdlbdjeaaGreatDoorPrfA
namespace Go.Proofs.YtgmokojdlbdjeaaGreatDoor
open Go.RowKit
attribute [local go_sem] grow_cell grow_frozen
attribute [local irreducible] plainUpon stepC
set_option maxRecDepth 100000 in
set_option maxHeartbeats 1000000 in
theorem period_any (p : PatD) (hp : PatW p) (A : Option Addr) (cap : Nat) (dx dy : Int) (r : Bool) (hr : r = true ↔ SameOn (colF p) p.a dx dy p.c) (hdx : -40000000 ≤ dx) (hdx2 : dx ≤ 40000000) (hdy : -40000000 ≤ dy) (hdy2 : dy ≤ 40000000) (w : World) (hi : PatIn w p A) :
    Calls Tryz.prog 90 #[.agg #[.int .i64 p.a, .int .i64 p.b, .int .i64 p.c, .slice A p.xs.length cap], .int .i64 dx, .int .i64 dy] w fun e w' => e = .returned (.bool r) ∧ Below w.heap.size w w' := by
  have HC := Lib.hid (fun x y h0 h1 h2 h3 w hi => rcolor_any p hp A p.xs.length cap x y h0 h1 h2 h3 w hi)
  have HI := Lib.hid (show IsL w A p.xs.length p.xs from hi)
  obtain ⟨a0, a1, -, -, c0, c1, -, -⟩ := hp
  obtain ⟨F, hF⟩ : ∃ F, F = colF p := ⟨_, rfl⟩
  rw [← hF] at HC hr
  have HR := Lib.hid hr
  clear hi hr hF
  obtain ⟨a, ha⟩ : ∃ a, a = p.a := ⟨_, rfl⟩
  obtain ⟨b, hb⟩ : ∃ b, b = p.b := ⟨_, rfl⟩
  obtain ⟨c, hc⟩ : ∃ c, c = p.c := ⟨_, rfl⟩
  obtain ⟨n, hn⟩ : ∃ n, n = p.xs.length := ⟨_, rfl⟩
  rw [← ha, ← hb, ← hc, ← hn] at HC
  rw [← hn] at HI
  rw [← ha, ← hb, ← hc, ← hn]
  rw [← ha] at a0 a1 HR
  rw [← hc] at c0 c1 HR
  clear ha hb hc hn
  go_enter Tryz.func90, Tryz.ntmps90
  go_upto_region 2 with fail
  obtain ⟨W, hW⟩ : ∃ W, W = w.alloc (.cells #[.int .i64 a, .int .i64 b, .int .i64 c, .slice A n cap] 24) := ⟨_, rfl⟩
  rw [← hW]
  have H0 := Lib.hid (show PBox W w.heap.size a b c (.slice A n cap) ∧ Below w.heap.size w W from ⟨by rw [hW]; exact PBox.new w a b c _, by rw [hW]; exact (by repeat' (first | (with_reducible exact Below.refl _ _) | (with_reducible assumption) | (with_reducible refine below_drewN ?_ _) | (with_reducible refine below_step (by assumption) ?_ ?_) | (with_reducible refine Below.alloc ?_ ?_ _) | (with_reducible refine Below.setCell ?_ ?_ _) | (with_reducible refine Below.drew ?_) | go_size | (exact Below.size (by assumption)) | (refine Nat.le_trans (Below.size (by assumption)) ?_)))⟩)
  clear hW
  go_loopw [7] (fun t wr => ∃ k : Int, t = .int .i64 k ∧ 0 ≤ k ∧ k ≤ c ∧ Hid (PBox wr w.heap.size a b c (.slice A n cap) ∧ Below w.heap.size w wr ∧ SameOn F a dx dy k)) (fun t _ => (c - intOf t).toNat)
  case atStart => exact ⟨0, rfl, by omega, by omega, Lib.hid ⟨H0.out.1, H0.out.2, SameOn.zero⟩⟩
  case round =>
    clear H0
    obtain ⟨k, rfl, hk0, hk, hr⟩ := hrel
    obtain ⟨q0, q1, q2, q3, q4⟩ := hr.out.1.cells
    by_cases hlt : k < c
    · have d1 : decide (k < c) = true := decide_eq_true hlt
      have R0 := Lib.hid (And.intro hr.out (show ∀ x, 0 ≤ x → x < (0 : Int) → F x k = F (x + dx) (k + dy) from fun x h0 h1 => by omega))
      clear hr
      go_upto_region 5 with fail
      go_loopw [8] (fun t wq => ∃ i : Int, t = .int .i64 i ∧ 0 ≤ i ∧ i ≤ a ∧ Hid ((PBox wq w.heap.size a b c (.slice A n cap) ∧ Below w.heap.size w wq ∧ SameOn F a dx dy k) ∧ ∀ x, 0 ≤ x → x < i → F x k = F (x + dx) (k + dy))) (fun t _ => (a - intOf t).toNat)
      case atStart => exact ⟨0, rfl, by omega, by omega, R0⟩
      case round =>
        clear R0 q0 q1 q2 q3 q4
        obtain ⟨i, rfl, hi0, hi, hq⟩ := hrel
        obtain ⟨q0, q1, q2, q3, q4⟩ := hq.out.1.1.cells
        by_cases hil : i < a
        · have d2 : decide (i < a) = true := decide_eq_true hil
          have k1 : IntKind.i64.wrap (i + dx) = i + dx := IntWalk.i64_in _ (by omega)
          have k2 : IntKind.i64.wrap (k + dy) = k + dy := IntWalk.i64_in _ (by omega)
          go_upto_region 7 with fail
          refine region_tree (C := fun w' => ∃ x, w' = grow wr x) [0, 1, 2, 3, 4, 5, 6, 8, 9, 10] (OT.seq [7, 11, 12]) (by kernel_rfl) (by kernel_rfl) (grow_start wr) ?_
          simp only [pickL, List.getElem?_cons_zero, List.getElem?_cons_succ]
          repeat (go_big_quiet_step (fail))
          refine wpQuiet_nil ?_
          rintro w2 ⟨xg, hxg⟩
          have hb2 := below_grow wr xg
          rw [← hxg] at hb2
          simp only [treeS, OT.seq, atOp, List.getElem?_cons_zero, List.getElem?_cons_succ]
          refine ⟨⟨xg, hxg⟩, ?_⟩
          refine s_call 62 #[.agg #[.int .i64 a, .int .i64 b, .int .i64 c, .slice A n cap], .int .i64 (i + dx), .int .i64 (k + dy)] rfl (by go_simp) ?_
          refine (HC.out (i + dx) (k + dy) (by omega) (by omega) (by omega) (by omega) w2 ((HI.out.below hq.out.1.2.1).below hb2)).mono ?_
          rintro e w3 ⟨rfl, hb3⟩
          have hb3' := hb2.trans (hb3.mono hb2.size)
          refine ⟨_, rfl, grow_of_below hb3', ?_⟩
          refine s_call 62 #[.agg #[.int .i64 a, .int .i64 b, .int .i64 c, .slice A n cap], .int .i64 i, .int .i64 k] rfl (by go_simp) ?_
          refine (HC.out i k (by omega) (by omega) (by omega) (by omega) w3 ((HI.out.below hq.out.1.2.1).below hb3')).mono ?_
          rintro e w4 ⟨rfl, hb4⟩
          have hb4' := hb3'.trans (hb4.mono hb3'.size)
          refine ⟨_, rfl, grow_of_below hb4', ?_⟩
          obtain ⟨z1, hz1⟩ : ∃ z1, z1 = F i k := ⟨_, rfl⟩
          obtain ⟨z2, hz2⟩ : ∃ z2, z2 = F (i + dx) (k + dy) := ⟨_, rfl⟩
          rw [← hz1, ← hz2]
          have HZ := Lib.hid (And.intro hz1 hz2)
          have H4 := Lib.hid (And.intro (hq.out.1.1.keep hb4') (And.intro (hq.out.1.2.1.trans (hb4'.mono hq.out.1.2.1.size)) (And.intro hq.out.1.2.2 hq.out.2)))
          clear hz1 hz2 hq hb2 hb3 hb3' hb4 hxg k1 k2 q0 q1 q2 q3 q4
          by_cases hz : z2 = z1
          · have d3 : (z2 != z1) = false := by simp [hz]
            refine s_val (.bool false) w4 rfl (by go_simp) ?_
            refine ⟨grow_of_below hb4', ?_⟩
            have R2 := Lib.hid (show (PBox w4 w.heap.size a b c (.slice A n cap) ∧ Below w.heap.size w w4 ∧ SameOn F a dx dy k) ∧ ∀ x, 0 ≤ x → x < i + 1 → F x k = F (x + dx) (k + dy) from ⟨⟨H4.out.1, H4.out.2.1, H4.out.2.2.1⟩, fun x h0 h1 => by
              by_cases hx : x < i
              · exact H4.out.2.2.2 x h0 hx
              · obtain rfl : x = i := by omega
                rw [← HZ.out.1, ← HZ.out.2]; exact hz.symm⟩)
            clear hz HZ hb4' H4 d3
            go_simp
            go_wp2
            go_roundw
            case rel => exact ⟨i + 1, rfl, by omega, by omega, R2⟩
            case measure => simp [intOf]; omega
          · have d3 : (z2 != z1) = true := by rw [bne_iff_ne]; exact hz
            refine s_val (.bool true) w4 rfl (by go_simp) ?_
            refine ⟨grow_of_below hb4', ?_⟩
            have HRF := Lib.hid (show r = false by
              cases r with
              | false => rfl
              | true => exact absurd ((HR.out.1 rfl) i k hi0 hil hk0 hlt).symm (by rw [← HZ.out.1, ← HZ.out.2]; exact hz))
            clear hz HZ hb4' d3 HR
            go_simp
            go_wp2
            go_ret
            exact ⟨by rw [HRF.out]; rfl, H4.out.2.1⟩
        · have d2 : decide (i < a) = false := decide_eq_false hil
          have R2 := Lib.hid (show PBox wr w.heap.size a b c (.slice A n cap) ∧ Below w.heap.size w wr ∧ SameOn F a dx dy (k + 1) from ⟨hq.out.1.1, hq.out.1.2.1, hq.out.1.2.2.step fun x h0 h1 => hq.out.2 x h0 (by omega)⟩)
          clear hq
          go_wp2
          go_roundw
          case rel => exact ⟨k + 1, rfl, by omega, by omega, R2⟩
          case measure => simp [intOf]; omega
    · have d1 : decide (k < c) = false := decide_eq_false hlt
      have HRT := Lib.hid (show r = true from HR.out.2 fun x y h0 h1 h2 h3 => hr.out.2.2 x y h0 h1 h2 (by omega))
      have HB := Lib.hid hr.out.2.1
      clear hr HR
      go_wp2
      go_ret
      exact ⟨by rw [HRT.out]; rfl, HB.out⟩
end Go.Proofs.YtgmokojdlbdjeaaGreatDoor
