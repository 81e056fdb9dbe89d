/-
  THE REFERENCE: Recall.
-/
import Derived.Test.YtdgmpaijpjkeoaaRclA
import Derived.Test.YtdgmpaijpjkeoaaCmpB
namespace Go.Proofs.Ytdgmpaijpjkeoaa
open Go.RowKit
/-- The world in the loop of Recall. -/
structure RV (w wr : World) (xb : Nat) (rn rd : Int) (v : Value) (zs : List Int) : Prop where
  own : OwnI wr w.heap.size v zs
  bx : Box2 wr xb (.int .i64 rn) (.int .i64 rd)
  b : Below w.heap.size w wr
  sep : ∀ g, v.ownBlock = some g → g ≠ xb
section
variable {w wr w' : World} {xb : Nat} {rn rd : Int} {v : Value} {zs : List Int}
theorem RV.keep (h : RV w wr xb rn rd v zs) (hb : Below wr.heap.size wr w') : RV w w' xb rn rd v zs := ⟨h.own.keep hb, h.bx.keep hb, h.b.trans (hb.mono h.b.size), h.sep⟩
theorem RV.app (h : RV w wr xb rn rd v zs) {v' : Value} {ys : List Int} (ho : OwnI w' w.heap.size v' ys) (hg : wr.grownBy w' v.ownBlock) (hd : v'.ownBlock = v.ownBlock ∨ v'.ownBlock = some (wr.heap.size + 1)) : RV w w' xb rn rd v' ys := by
  refine ⟨ho, h.bx.of_block (hg.block xb h.bx.2.2.2.2 (fun e => h.sep xb e.symm rfl)), h.b.grown hg h.b.size (fun k hk => (h.own.lt' k hk).1), ?_⟩
  intro g hg'
  rcases hd with hd | hd
  · exact h.sep g (hd ▸ hg')
  · rw [hd] at hg'
    have h4 := h.bx.2.2.2.2
    cases hg'
    omega
end
set_option maxRecDepth 100000 in
set_option maxHeartbeats 1000000 in
theorem rrecall_any (l : List LotD) (hl : l.length ≤ 1000) (hps : ∀ x ∈ l, x.parts.length ≤ 1000) (of rn rd : Int) (a : List Int) (z : Int) (hm : rclE l of rn rd = (a, z)) (hof : -9223372036854775808 ≤ of) (kof : of ≤ 9223372036854775807) (hrn : -9223372036854775808 ≤ rn) (krn : rn ≤ 9223372036854775807) (hrd : -9223372036854775808 ≤ rd) (krd : rd ≤ 9223372036854775807) (A : Option Addr) (c : Nat) (w : World) (hL : LotsIn w A l) :
    Calls Try.prog 44 #[.slice A l.length c, .int .i64 of, .agg #[.int .i64 rn, .int .i64 rd]] w (OutI w a z) := by
  have HM := Lib.hid hm
  have HL := Lib.hid hL
  have HPS := Lib.hid hps
  clear hm hL hps
  go_enter Try.func44, Try.ntmps44
  go_wp2_with fail
  obtain ⟨W, hW⟩ : ∃ W, W = w.alloc (.cells #[.int .i64 rn, .int .i64 rd] 28) := ⟨_, rfl⟩
  rw [← hW]
  have hb := Lib.hid (show Below w.heap.size w W by rw [hW]; exact (by repeat' (first | (with_reducible exact Below.refl _ _) | (with_reducible assumption) | (with_reducible refine below_drewN ?_ _) | (with_reducible refine below_step (by assumption) ?_ ?_) | (with_reducible refine Below.alloc ?_ ?_ _) | (with_reducible refine Below.setCell ?_ ?_ _) | (with_reducible refine Below.drew ?_) | go_size | (exact Below.size (by assumption)) | (refine Nat.le_trans (Below.size (by assumption)) ?_))))
  have hx : Box2 W w.heap.size (.int .i64 rn) (.int .i64 rd) := by rw [hW]; exact Box2.new _ _ _ _
  clear hW
  obtain ⟨E, hE⟩ : ∃ E, E = chkE l [of] := ⟨_, rfl⟩
  have HE := Lib.hid hE
  clear hE
  have hnm := named_any l hl HPS.out of of A c W (HL.out.below hb.out)
  rw [chk_one, ← HE.out] at hnm
  refine hnm.mono ?_
  clear hnm
  rintro e w1 ⟨rfl, hb1⟩
  have ib := Lib.hid (hb.out.trans (hb1.mono hb.out.size))
  have ix := hx.keep hb1
  clear hb1 hx hb
  by_cases hz : E = 0
  · subst hz
    have hm2 := HM.out
    unfold rclE at hm2
    rw [if_neg (by rw [← HE.out]; decide)] at hm2
    obtain ⟨hgl, hin⟩ := chk_zero HE.out.symm
    have h1 := hin of (by simp)
    obtain ⟨of, rfl⟩ : ∃ n : Nat, of = n := ⟨of.toNat, by omega⟩
    rw [Int.toNat_natCast] at hm2
    have HM1 := Lib.hid hm2
    have HG := Lib.hid hgl.lot
    have hl24 := hgl.len
    have hof : of < l.length := by omega
    obtain ⟨V, hV⟩ : ∃ V, V = vld rn rd := ⟨_, rfl⟩
    have HV := Lib.hid hV
    clear hm2 hgl hin h1 hV
    obtain ⟨x0, x1, x2, x3, x4⟩ := id ix
    go_wp2_with fail
    refine (rvalid_any rn rd (by omega) (by omega) (by omega) (by omega) w1).mono ?_
    rw [← HV.out]
    rintro e w2 ⟨rfl, hb2⟩
    have jb := Lib.hid (ib.out.trans (hb2.mono ib.out.size))
    have jx := ix.keep hb2
    clear hb2 ix ib x0 x1 x2 x3 x4
    cases V with
    | false =>
      have HM2 := Lib.hid (show (([] : List Int), (1 : Int)) = (a, z) by have := HM1.out; rwa [if_neg (by rw [← HV.out]; simp)] at this)
      go_wp2
      go_ret2
      exact OutI.no HM2.out jb.out
    | true =>
      obtain ⟨x0, x1, x2, x3, x4⟩ := id jx
      by_cases hneg : rn ≤ 0
      · have HM2 := Lib.hid (show (([] : List Int), (1 : Int)) = (a, z) by have := HM1.out; rwa [if_neg (by omega)] at this)
        have d1 : decide (rn ≤ 0) = true := decide_eq_true hneg
        go_wp2
        go_ret2
        exact OutI.no HM2.out jb.out
      · have HM2 := Lib.hid (show (rclT l of rn rd l.length, (0 : Int)) = (a, z) by have := HM1.out; rwa [if_pos ⟨HV.out.symm, by omega⟩] at this)
        have d1 : decide (rn ≤ 0) = false := decide_eq_false hneg
        have R0 := Lib.hid (show RV w w2 w.heap.size rn rd (.slice none 0 0) (rclT l of rn rd 0) from ⟨OwnI.nil _ _, jx, jb.out, fun g hg => (by cases hg)⟩)
        clear HM1 HM
        go_wp2
        clear x0 x1 x2 x3 x4 jx jb
        go_loopw [9, 10] (fun v t wr => ∃ k : Nat, t = .int .i64 k ∧ k ≤ l.length ∧ Hid (RV w wr w.heap.size rn rd v (rclT l of rn rd k))) (fun _ t _ => l.length - (intOf t).toNat)
        case atStart => exact ⟨0, rfl, by omega, R0⟩
        case round =>
          clear R0
          obtain ⟨k, rfl, hk, hr⟩ := hrel
          by_cases hlt : k < l.length
          · go_wp2_with fail
            refine (one_any l hl of hof A c wr).mono ?_
            rintro e w3 ⟨rfl, hrow, hb3⟩
            have hisb := hrow.isB
            rw [oneB_length] at hisb
            have HB := Lib.hid hisb
            have R1 := Lib.hid (hr.out.keep hb3)
            clear hrow hb3 hisb hr
            have hmix := one_mix l hl24 HG.out A c (some ⟨wr.heap.size, 0, none⟩) of hof k hlt hl w3 (HL.out.below R1.out.b) HB.out
            have HMX := Lib.hid hmix
            clear hmix
            go_wp2_with fail
            refine HMX.out.mono ?_
            rintro e w4 ⟨A3, n3, c3, B3, n4, c4, rfl, hw1, hw2, hb4⟩
            have H3 := Lib.hid (show IsW w4 A3 n3 (fN l of k) ∧ IsW w4 B3 n4 (Pr (tN l) 0 (k + 1)) from ⟨hw1, hw2⟩)
            have R2 := Lib.hid (R1.out.keep hb4)
            clear hw1 hw2 hb4 HMX HB R1
            obtain ⟨x0, x1, x2, x3, x4⟩ := R2.out.bx
            have hsz := R2.out.b.size
            have HLL := Lib.hid (show (rclT l of rn rd k).length ≤ 1000000 by have := rclT_length (l := l) (of := of) (rn := rn) (rd := rd) k; omega)
            by_cases hok : of ≤ k
            · have d2 : decide ((of : Int) ≤ (k : Int)) = true := decide_eq_true (by omega)
              obtain ⟨G, hG⟩ : ∃ G, G = agE l of k rn rd := ⟨_, rfl⟩
              have HGG := Lib.hid hG
              clear hG
              go_wp2_with fail
              refine (rcompare_any A3 n3 c3 _ B3 n4 c4 _ rn rd G HGG.out.symm HV.out.symm (fN_le HG.out of k) (Pr_pos (tN_pos HG.out) _ _) (pr_big HG.out hl24 (show k + 1 ≤ l.length by omega)) w4 H3.out.1 H3.out.2).mono ?_
              rintro e w5 ⟨rfl, hb5⟩
              have R3 := Lib.hid (R2.out.keep hb5)
              have hsz5 := R3.out.b.size
              clear hb5 H3 R2 x0 x1 x2 x3 x4
              by_cases hgg : 0 ≤ G
              · have d3 : decide (0 ≤ G) = true := decide_eq_true hgg
                have HT := Lib.hid (rclT_yes (rn := rn) (rd := rd) hok (by rw [← HGG.out]; exact hgg))
                go_wp2_with (at_builtin; refine append_i64 (.tmp 53) (.tmp 55) rfl rfl w.heap.size _ _ k w5 rfl rfl R3.out.own rfl HLL.out hsz5 ?_)
                intro v' w6 ho6 hg6 hd6
                rw [← HT.out] at ho6
                have R4 := Lib.hid (R3.out.app ho6 hg6 hd6)
                clear ho6 hg6 hd6 R3
                go_wp2
                go_roundw
                case rel => exact ⟨k + 1, by go_num, by omega, R4⟩
                case measure => simp [intOf]; omega
              · have d3 : decide (0 ≤ G) = false := decide_eq_false hgg
                have HT := Lib.hid (rclT_no (l := l) (of := of) (k := k) (rn := rn) (rd := rd) (by rw [← HGG.out]; omega))
                rw [← HT.out] at R3
                go_wp2
                go_roundw
                case rel => exact ⟨k + 1, by go_num, by omega, R3⟩
                case measure => simp [intOf]; omega
            · have d2 : decide ((of : Int) ≤ (k : Int)) = false := decide_eq_false (by omega)
              have HT := Lib.hid (rclT_no (l := l) (of := of) (k := k) (rn := rn) (rd := rd) (by omega))
              rw [← HT.out] at R2
              clear x0 x1 x2 x3 x4
              go_wp2
              go_roundw
              case rel => exact ⟨k + 1, by go_num, by omega, R2⟩
              case measure => simp [intOf]; omega
          · obtain rfl : k = l.length := by omega
            obtain ⟨hr1, hr2⟩ := And.intro hr.out.own hr.out.b
            obtain ⟨A', c', rfl, hi⟩ := hr1.isL
            have HI := Lib.hid hi
            have HB := Lib.hid hr2
            clear hr hr1 hr2 hi
            go_wp2
            go_ret2
            obtain ⟨rfl, rfl⟩ := Prod.mk.inj HM2.out
            exact ⟨A', c', rfl, HI.out, HB.out⟩
  · have hm2 := HM.out
    unfold rclE at hm2
    rw [if_pos (by rw [← HE.out]; exact hz), ← HE.out] at hm2
    have HM2 := Lib.hid hm2
    have d1 : (E == 0) = false := by rw [beq_eq_false_iff_ne]; exact hz
    have d2 : (E != 0) = true := by rw [bne_iff_ne]; exact hz
    clear hm2 hz
    go_wp2
    go_ret2
    exact OutI.no HM2.out ib.out
end Go.Proofs.Ytdgmpaijpjkeoaa
