/-
  lotError.
-/
import Derived.Test.YtdgmpaijpjkeoaaLotC
namespace Go.Proofs.Ytdgmpaijpjkeoaa
open Go.RowKit
attribute [local go_sem] grow_cell grow_frozen
theorem enter_oil (args : Array Value) (w : World) : (callFunc 101 args).run Try.prog w = .ok (.enter 101 args) w :=
  enter_of Try.func101 (by kernel_rfl) (by kernel_rfl) args w
theorem badPs_false' {i : Nat} {ps : List (Int × Int)} (h : prtE i ps = 0) : ps.length ≤ 6 ∧ badPs i [] ps = false := by
  unfold prtE at h
  split at h
  · cases h
  · split at h
    · cases h
    · rename_i h1 h2
      exact ⟨by omega, by simpa using h2⟩
set_option maxRecDepth 100000 in
theorem oil_any (b : Nat) (l : List LotD) (A : Option Addr) (c : Nat) (ps : List (Int × Int)) (w : World) (hL : LotsIn w A l) (h : w.cell? ⟨b, 0, none⟩ = some (.slice A l.length c)) (hlt : b < w.heap.size) (hp : ∀ p ∈ ps, 0 ≤ p.1 ∧ p.1 < l.length) (hl : l.length ≤ 1000) :
    PredP 101 #[.pointer (some ⟨b, 0, none⟩)] (fun q => kindOf l q.1 == 0) w ps := by
  intro W x hb hx h1 h2
  have hc := (hb.cell (p := ⟨b, 0, none⟩) hlt).trans h
  have hs := Nat.lt_of_lt_of_le hlt hb.size
  obtain ⟨p1, p2⟩ := hp x hx
  obtain ⟨x1, x2⟩ := x
  simp only at p1 p2 h1 h2
  obtain ⟨j, rfl⟩ : ∃ j : Nat, x1 = j := ⟨x1.toNat, by omega⟩
  have hj : j < l.length := by omega
  obtain ⟨b', o, rfl, hcs⟩ := (hL.below hb) (by omega)
  obtain ⟨e1, e2, e3, e4, -⟩ := hcs j hj
  have hk : kindOf l (j : Int) = l[j].kind := by
    unfold kindOf
    rw [Int.toNat_natCast, List.getD_eq_getElem?_getD, List.getElem?_eq_getElem hj]; rfl
  obtain ⟨kd, hkd⟩ : ∃ kd, kd = l[j].kind := ⟨_, rfl⟩
  rw [← hkd] at e4 e1 hk
  simp only [hk]
  clear hcs hkd hk h
  go_enter Try.func101, Try.ntmps101
  go_wp2
  go_ret
  exact ⟨rfl, (by repeat' (first | (with_reducible exact Below.refl _ _) | (with_reducible assumption) | (with_reducible refine below_drewN ?_ _) | (with_reducible refine below_step (by assumption) ?_ ?_) | (with_reducible refine Below.alloc ?_ ?_ _) | (with_reducible refine Below.setCell ?_ ?_ _) | (with_reducible refine Below.drew ?_) | go_size | (exact Below.size (by assumption)) | (refine Nat.le_trans (Below.size (by assumption)) ?_)))⟩
set_option maxRecDepth 100000 in
set_option maxHeartbeats 1000000 in
theorem lotError_any (l : List LotD) (i : Nat) (hi : i < l.length) (hl : l.length ≤ 1000) (A : Option Addr) (c : Nat) (w : World) (hL : LotsIn w A l) (hps : l[i].parts.length ≤ 1000) :
    Calls Try.prog 73 #[.slice A l.length c, .int .i64 i] w fun e w' => e = .returned (.int .i64 (lotE l i l[i])) ∧ Below w.heap.size w w' := by
  have hpe := fun w' hL' => partsError_any l i hi hl A c w' hL' hps
  have HPE := Lib.hid hpe
  have HL := Lib.hid hL
  obtain ⟨b, o, rfl, hc⟩ := hL (by omega)
  obtain ⟨h1, h2, h3, h4, h5, A', c', h6, h8, h7⟩ := hc i hi
  obtain ⟨x, hx⟩ : ∃ x, x = l[i] := ⟨_, rfl⟩
  rw [← hx] at h1 h2 h4 h5 h6 h7 h8 hps HPE ⊢
  have HP := Lib.hid h7
  obtain ⟨kd, ms, ps⟩ := x
  simp only at h1 h2 h4 h5 h6 h8 hps HP HPE
  clear hc h7 hx hpe
  by_cases c1 : kd < 0 ∨ 8 ≤ kd ∨ ms < 1 ∨ 100000 < ms
  · have HR := Lib.hid (show lotE l i ⟨kd, ms, ps⟩ = 1 by rw [lotE, if_pos c1])
    rcases (by omega : kd < 0 ∨ 0 ≤ kd ∧ 8 ≤ kd ∨ 0 ≤ kd ∧ kd < 8 ∧ ms < 1 ∨ 0 ≤ kd ∧ kd < 8 ∧ 1 ≤ ms ∧ 100000 < ms) with c1 | ⟨c1, c2⟩ | ⟨c1, c2, c3⟩ | ⟨c1, c2, c3, c4⟩
    all_goals
      go_enter Try.func73, Try.ntmps73
      go_wp2
      go_ret
      exact ⟨by rw [HR.out]; rfl, (by repeat' (first | (with_reducible exact Below.refl _ _) | (with_reducible assumption) | (with_reducible refine below_drewN ?_ _) | (with_reducible refine below_step (by assumption) ?_ ?_) | (with_reducible refine Below.alloc ?_ ?_ _) | (with_reducible refine Below.setCell ?_ ?_ _) | (with_reducible refine Below.drew ?_) | go_size | (exact Below.size (by assumption)) | (refine Nat.le_trans (Below.size (by assumption)) ?_)))⟩
  · have HR := Lib.hid (show lotE l i ⟨kd, ms, ps⟩ = if 6 < ps.length then 4 else if badPs i [] ps = true then 1 else if ps.length = 0 then (if kd = 5 ∨ kd = 6 ∨ kd = 7 then 9 else 0) else if sumP ps < ms ∧ ¬ (kd = 5 ∧ oily l ps = true) then 9 else 0 by rw [lotE, if_neg c1])
    have k0 : 0 ≤ kd := by omega
    have k1 : kd < 8 := by omega
    have m0 : 1 ≤ ms := by omega
    have m1 : ms ≤ 100000 := by omega
    clear c1
    go_enter Try.func73, Try.ntmps73
    go_wp2_with fail
    obtain ⟨W, hW⟩ : ∃ W, W = (w.alloc (.cells #[.slice (some ⟨b, o, none⟩) l.length c] 22)).alloc (.cells #[.int .i64 kd, .int .i64 ms, .slice A' ps.length c'] 37) := ⟨_, rfl⟩
    rw [← hW]
    have q0 : W.cell? ⟨w.heap.size, 0, none⟩ = some (.slice (some ⟨b, o, none⟩) l.length c) := by rw [hW]; simp
    have q1 : W.cell? ⟨w.heap.size + 1, 0, none⟩ = some (.int .i64 kd) := by rw [hW]; simp
    have q2 : W.cell? ⟨w.heap.size + 1, 1, none⟩ = some (.int .i64 ms) := by rw [hW]; simp
    have q3 : W.cell? ⟨w.heap.size + 1, 2, none⟩ = some (.slice A' ps.length c') := by rw [hW]; simp
    have qz : w.heap.size + 1 < W.heap.size := by rw [hW]; simp
    have HW := Lib.hid (show Below w.heap.size w W by rw [hW]; exact (by repeat' (first | (with_reducible exact Below.refl _ _) | (with_reducible assumption) | (with_reducible refine below_drewN ?_ _) | (with_reducible refine below_step (by assumption) ?_ ?_) | (with_reducible refine Below.alloc ?_ ?_ _) | (with_reducible refine Below.setCell ?_ ?_ _) | (with_reducible refine Below.drew ?_) | go_size | (exact Below.size (by assumption)) | (refine Nat.le_trans (Below.size (by assumption)) ?_))))
    clear hW h4 h5 h6
    refine (HPE.out W (HL.out.below HW.out)).mono ?_
    rintro e w1 ⟨rfl, hb1⟩
    have r0 := (hb1.cell (p := ⟨w.heap.size, 0, none⟩) (show w.heap.size < W.heap.size by omega)).trans q0
    have r1 := (hb1.cell (p := ⟨w.heap.size + 1, 0, none⟩) qz).trans q1
    have r2 := (hb1.cell (p := ⟨w.heap.size + 1, 1, none⟩) qz).trans q2
    have r3 := (hb1.cell (p := ⟨w.heap.size + 1, 2, none⟩) qz).trans q3
    have rz := Nat.lt_of_lt_of_le qz hb1.size
    have HW1 := Lib.hid (HW.out.trans (hb1.mono HW.out.size))
    clear q0 q1 q2 q3 qz hb1 HW
    by_cases hpr : prtE i ps = 0
    · obtain ⟨b1, b2⟩ := badPs_false' hpr
      have HR2 := Lib.hid (HR.out.trans ((if_neg (show ¬ 6 < ps.length by omega)).trans (if_neg (by rw [b2]; decide))))
      have HB2 := Lib.hid b2
      rw [hpr]
      clear hpr b2
      by_cases hz : ps.length = 0
      · have HR3 := Lib.hid (HR2.out.trans (if_pos hz))
        have d0 : ((ps.length : Int) == 0) = true := by rw [hz]; rfl
        rcases (by omega : kd = 5 ∨ kd = 6 ∨ kd = 7 ∨ kd < 5) with rfl | rfl | rfl | hk
        · have HR4 := Lib.hid (HR3.out.trans (if_pos (by decide)))
          clear hz
          go_wp2
          go_ret
          exact ⟨by rw [HR4.out]; rfl, HW1.out⟩
        · have HR4 := Lib.hid (HR3.out.trans (if_pos (by decide)))
          clear hz
          go_wp2
          go_ret
          exact ⟨by rw [HR4.out]; rfl, HW1.out⟩
        · have HR4 := Lib.hid (HR3.out.trans (if_pos (by decide)))
          clear hz
          go_wp2
          go_ret
          exact ⟨by rw [HR4.out]; rfl, HW1.out⟩
        · have HR4 := Lib.hid (HR3.out.trans (if_neg (by omega)))
          clear hz
          have e5 : (kd == 5) = false := by rw [beq_eq_false_iff_ne]; omega
          have e6 : (kd == 6) = false := by rw [beq_eq_false_iff_ne]; omega
          have e7 : (kd == 7) = false := by rw [beq_eq_false_iff_ne]; omega
          go_wp2
          go_ret
          exact ⟨by rw [HR4.out]; rfl, HW1.out⟩
      · have HR3 := Lib.hid (HR2.out.trans (if_neg hz))
        have d0 : ((ps.length : Int) == 0) = false := by rw [beq_eq_false_iff_ne]; omega
        have hall := badPs_false HB2.out
        have hcf := containsFuncP 101 #[.pointer (some ⟨w.heap.size, 0, none⟩)] (fun q => kindOf l q.1 == 0) enter_oil A' ps.length c' ps rfl (by omega) w1 (HP.out.below HW1.out) (oil_any w.heap.size l _ c ps w1 (HL.out.below HW1.out) r0 (by omega) (fun p hp => ⟨(hall p hp).1, by have := (hall p hp).2.1; omega⟩) hl)
        have hsm : SmallP ps := ⟨by omega, fun p hp => by have := hall p hp; omega⟩
        have hsb := sumP_bd (fun p hp => ⟨(hall p hp).2.2.1, (hall p hp).2.2.2⟩)
        have HCF := Lib.hid hcf
        have HSM := Lib.hid hsm
        obtain ⟨S, hS⟩ : ∃ S, S = sumP ps := ⟨_, rfl⟩
        rw [← hS] at HR3 hsb
        have HSS := Lib.hid hS
        obtain ⟨oi, hoi⟩ : ∃ oi, oi = oily l ps := ⟨_, rfl⟩
        rw [← hoi] at HR3
        have HO := Lib.hid hoi
        clear hz hall hcf hsm hS hoi
        go_wp2_with fail
        refine HCF.out.mono ?_
        rintro e w2 ⟨rfl, hb2⟩
        rw [show (ps.any fun q => kindOf l q.1 == 0) = oi from HO.out.symm]
        have s1 := (hb2.cell (p := ⟨w.heap.size + 1, 0, none⟩) rz).trans r1
        have s2 := (hb2.cell (p := ⟨w.heap.size + 1, 1, none⟩) rz).trans r2
        have s3 := (hb2.cell (p := ⟨w.heap.size + 1, 2, none⟩) rz).trans r3
        have sz := Nat.lt_of_lt_of_le rz hb2.size
        have HW2 := Lib.hid (HW1.out.trans (hb2.mono HW1.out.size))
        have HP2 := Lib.hid (HP.out.below HW2.out)
        have htk := fun x => takes_any ⟨kd, ms, ps⟩ A' c' (grow w2 x) (HP2.out.below (below_grow w2 x)) HSM.out
        simp only [← HSS.out] at htk
        have HTK := Lib.hid htk
        clear r0 r1 r2 r3 rz hb2 HW1 htk
        by_cases hms : S < ms
        · have dm : decide (S < ms) = true := decide_eq_true hms
          by_cases h5 : kd = 5
          · subst h5
            cases oi with
            | true =>
              have HR4 := Lib.hid (HR3.out.trans (if_neg (by simp)))
              clear hms
              go_wp2
              refine region_grow (by kernel_rfl) (by kernel_rfl) ?_
              repeat (go_big_quiet_step ((go_at_call 96; exact grow_call (HTK.out _))))
              refine wpQuiet_nil ?_
              rintro w3 ⟨xg, hxg⟩
              have hb3 := below_grow w2 xg
              rw [← hxg] at hb3
              clear hxg xg
              have HW3 := Lib.hid (HW2.out.trans (hb3.mono HW2.out.size))
              clear hb3
              go_wp2
              go_ret
              exact ⟨by rw [HR4.out]; rfl, HW3.out⟩
            | false =>
              have HR4 := Lib.hid (HR3.out.trans (if_pos ⟨hms, by simp⟩))
              clear hms
              go_wp2
              refine region_grow (by kernel_rfl) (by kernel_rfl) ?_
              repeat (go_big_quiet_step ((go_at_call 96; exact grow_call (HTK.out _))))
              refine wpQuiet_nil ?_
              rintro w3 ⟨xg, hxg⟩
              have hb3 := below_grow w2 xg
              rw [← hxg] at hb3
              clear hxg xg
              have HW3 := Lib.hid (HW2.out.trans (hb3.mono HW2.out.size))
              clear hb3
              go_wp2
              go_ret
              exact ⟨by rw [HR4.out]; rfl, HW3.out⟩
          · have HR4 := Lib.hid (HR3.out.trans (if_pos ⟨hms, fun h => h5 h.1⟩))
            have e5 : (kd == 5) = false := by rw [beq_eq_false_iff_ne]; exact h5
            have e6 : (kd != 5) = true := by rw [bne_iff_ne]; exact h5
            clear hms h5
            go_wp2
            refine region_grow (by kernel_rfl) (by kernel_rfl) ?_
            repeat (go_big_quiet_step ((go_at_call 96; exact grow_call (HTK.out _))))
            refine wpQuiet_nil ?_
            rintro w3 ⟨xg, hxg⟩
            have hb3 := below_grow w2 xg
            rw [← hxg] at hb3
            clear hxg xg
            have HW3 := Lib.hid (HW2.out.trans (hb3.mono HW2.out.size))
            clear hb3
            go_wp2
            go_ret
            exact ⟨by rw [HR4.out]; rfl, HW3.out⟩
        · have dm : decide (S < ms) = false := decide_eq_false hms
          have HR4 := Lib.hid (HR3.out.trans (if_neg (fun h => hms h.1)))
          clear hms
          go_wp2
          refine region_grow (by kernel_rfl) (by kernel_rfl) ?_
          repeat (go_big_quiet_step ((go_at_call 96; exact grow_call (HTK.out _))))
          refine wpQuiet_nil ?_
          rintro w3 ⟨xg, hxg⟩
          have hb3 := below_grow w2 xg
          rw [← hxg] at hb3
          clear hxg xg
          have HW3 := Lib.hid (HW2.out.trans (hb3.mono HW2.out.size))
          clear hb3
          go_wp2
          go_ret
          exact ⟨by rw [HR4.out]; rfl, HW3.out⟩
    · have HR2 := Lib.hid (show lotE l i ⟨kd, ms, ps⟩ = prtE i ps by
        rw [HR.out]
        unfold prtE at hpr ⊢
        split
        · rfl
        · split
          · rfl
          · rename_i g1 g2; exact absurd (by rw [if_neg g1, if_neg g2]) hpr)
      obtain ⟨z, hz⟩ : ∃ z, z = prtE i ps := ⟨_, rfl⟩
      rw [← hz] at hpr HR2 ⊢
      have d0 : (z == 0) = false := by rw [beq_eq_false_iff_ne]; exact hpr
      have d1 : (z != 0) = true := by rw [bne_iff_ne]; exact hpr
      clear hz hpr
      go_wp2
      go_ret
      exact ⟨by rw [HR2.out]; rfl, HW1.out⟩
end Go.Proofs.Ytdgmpaijpjkeoaa
