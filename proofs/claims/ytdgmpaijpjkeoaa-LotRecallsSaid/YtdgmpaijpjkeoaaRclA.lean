/-
  Recall (the program's).
-/
import Derived.Test.YtdgmpaijpjkeoaaRclM
import Derived.Test.YtdgmpaijpjkeoaaLotP
namespace Go.Proofs.Ytdgmpaijpjkeoaa
open Go.RowKit
/-- The world in the loop of Recall. -/
structure RW (w w3 wr : World) (xb sb mb : Nat) (l : List LotD) (A : Option Addr) (c of : Nat) (rn rd : Int) (v : Value) (zs : List Int) : Prop where
  own : OwnI wr w.heap.size v zs
  sh : ShIn w3 wr sb mb l A c of
  mp : ∃ K, MapOK wr mb l.length (fN l of) K
  bx : Box2 wr xb (.int .i64 rn) (.int .i64 rd)
  b : Below w.heap.size w wr
  sep : ∀ g, v.ownBlock = some g → g ≠ sb ∧ g ≠ mb ∧ g ≠ xb
  xm : xb ≠ mb
  wm : w.heap.size ≤ mb
section
variable {w w3 wr w' : World} {xb sb mb : Nat} {l : List LotD} {A : Option Addr} {c of : Nat} {rn rd : Int} {v : Value} {zs : List Int}
theorem OwnI.lt' {w : World} {B : Nat} {v : Value} {zs : List Int} (h : OwnI w B v zs) : ∀ g, v.ownBlock = some g → B ≤ g ∧ g < w.heap.size := World.ownsRow.lt h
theorem RW.ag (h : RW w w3 wr xb sb mb l A c of rn rd v zs) (hg : wr.grownBy w' (some mb)) (hm : ∃ K, MapOK w' mb l.length (fN l of) K) : RW w w3 w' xb sb mb l A c of rn rd v zs :=
  ⟨h.own.grown hg (by
    cases hv : v.ownBlock with
    | none => exact .inl rfl
    | some g => exact .inr (fun e => (h.sep g hv).2.1 (Option.some.inj e))), h.sh.grown hg h.sh.ne h.sh.s3, hm, h.bx.grown hg h.xm, below_grown h.b hg h.wm h.b.size, h.sep, h.xm, h.wm⟩
theorem RW.app (h : RW w w3 wr xb sb mb l A c of rn rd v zs) {v' : Value} {ys : List Int} (ho : OwnI w' w.heap.size v' ys) (hg : wr.grownBy w' v.ownBlock) (hd : v'.ownBlock = v.ownBlock ∨ v'.ownBlock = some (wr.heap.size + 1))
    (hge : ∀ g, v.ownBlock = some g → w3.heap.size ≤ g) : RW w w3 w' xb sb mb l A c of rn rd v' ys := by
  obtain ⟨K, hK⟩ := h.mp
  have hne : ∀ g, g ≠ sb ∧ g ≠ mb ∧ g ≠ xb → True := fun _ _ => trivial
  have hlt := h.own.lt'
  have hsh : ShIn w3 w' sb mb l A c of := by
    cases hv : v.ownBlock with
    | none => rw [hv] at hg; exact h.sh.keep ⟨hg.os, hg.tape, hg.output, hg.size, fun k hk => hg.block k hk (by simp)⟩
    | some g => rw [hv] at hg; exact h.sh.grown hg (fun e => (h.sep g hv).1 e.symm) (hge g hv)
  have hbx : Box2 w' xb (.int .i64 rn) (.int .i64 rd) := h.bx.of_block (hg.block xb h.bx.2.2.2.2 (fun e => (h.sep xb e.symm).2.2 rfl))
  refine ⟨ho, hsh, ⟨K, hK.kept hg (fun e => (h.sep mb e.symm).2.1 rfl)⟩, hbx, h.b.grown hg h.b.size (fun k hk => (hlt k hk).1), ?_, h.xm, h.wm⟩
  intro g hg'
  rcases hd with hd | hd
  · exact h.sep g (hd ▸ hg')
  · rw [hd] at hg'
    have h1 := h.sh.s1
    have h2 := hK.lt
    have h4 := h.bx.2.2.2.2
    cases hg'
    omega
end
set_option maxRecDepth 100000 in
set_option maxHeartbeats 1000000 in
theorem recall_any (l : List LotD) (hl : l.length ≤ 1000) (hps : ∀ x ∈ l, x.parts.length ≤ 1000) (of rn rd : Int) (a : List Int) (z : Int) (hm : rclE l of rn rd = (a, z)) (hof : -9223372036854775808 ≤ of) (kof : of ≤ 9223372036854775807) (hrn : -9223372036854775808 ≤ rn) (krn : rn ≤ 9223372036854775807) (hrd : -9223372036854775808 ≤ rd) (krd : rd ≤ 9223372036854775807) (A : Option Addr) (c : Nat) (w : World) (hL : LotsIn w A l) :
    Calls Try.prog 43 #[.slice A l.length c, .int .i64 of, .agg #[.int .i64 rn, .int .i64 rd]] w (OutI w a z) := by
  have HM := Lib.hid hm
  have HL := Lib.hid hL
  have HPS := Lib.hid hps
  clear hm hL hps
  go_enter Try.func43, Try.ntmps43
  go_wp2_with fail
  obtain ⟨W, hW⟩ : ∃ W, W = (w.alloc (.cells #[.int .i64 rn, .int .i64 rd] 28)).alloc (.cells #[.int .i64 of] 3) := ⟨_, rfl⟩
  rw [← hW]
  have hb := Lib.hid (show Below w.heap.size w W by rw [hW]; exact (by repeat' (first | (with_reducible exact Below.refl _ _) | (with_reducible assumption) | (with_reducible refine below_drewN ?_ _) | (with_reducible refine below_step (by assumption) ?_ ?_) | (with_reducible refine Below.alloc ?_ ?_ _) | (with_reducible refine Below.setCell ?_ ?_ _) | (with_reducible refine Below.drew ?_) | go_size | (exact Below.size (by assumption)) | (refine Nat.le_trans (Below.size (by assumption)) ?_))))
  have hx : Box2 W w.heap.size (.int .i64 rn) (.int .i64 rd) := by rw [hW]; exact (Box2.new _ _ _ _).alloc _
  have hI := Lib.hid (show IsL W (some ⟨w.heap.size + 1, 0, none⟩) 1 [of] by
    rw [hW]
    have := isL_one (w.alloc (.cells #[.int .i64 rn, .int .i64 rd] 28)) of 3
    rwa [World.size_alloc] at this)
  clear hW
  obtain ⟨E, hE⟩ : ∃ E, E = chkE l [of] := ⟨_, rfl⟩
  have HE := Lib.hid hE
  clear hE
  refine (check_any l hl HPS.out A c _ 1 1 [of] W (HL.out.below hb.out) hI.out (by omega) (fun x hx => by simp at hx; subst hx; exact ⟨by omega, by omega⟩)).mono ?_
  rw [← HE.out]
  rintro e w1 ⟨rfl, hb1⟩
  have ib := Lib.hid (hb.out.trans (hb1.mono hb.out.size))
  have ix := hx.keep hb1
  clear hb1 hx hI hb
  by_cases hz : E = 0
  · subst hz
    have hm2 := HM.out
    unfold rclE at hm2
    rw [if_neg (by rw [← HE.out]; decide)] at hm2
    obtain ⟨hgl, hin⟩ := chk_zero HE.out.symm
    have h1 := hin of (by simp)
    obtain ⟨of, rfl⟩ : ∃ n : Nat, of = n := ⟨of.toNat, by omega⟩
    rw [Int.toNat_natCast] at hm2
    have HM1 := Lib.hid hm2
    have HG := Lib.hid hgl.lot
    have hl24 := hgl.len
    have hof : of < l.length := by omega
    obtain ⟨V, hV⟩ : ∃ V, V = vld rn rd := ⟨_, rfl⟩
    have HV := Lib.hid hV
    clear hm2 hgl hin h1 hV
    obtain ⟨x0, x1, x2, x3, x4⟩ := id ix
    go_wp2_with fail
    refine (valid_any rn rd (by omega) (by omega) (by omega) (by omega) w1).mono ?_
    rw [← HV.out]
    rintro e w2 ⟨rfl, hb2⟩
    have jb := Lib.hid (ib.out.trans (hb2.mono ib.out.size))
    have jx := ix.keep hb2
    have jz : w.heap.size < w2.heap.size := jx.2.2.2.2
    clear hb2 ix ib x0 x1 x2 x3 x4
    cases V with
    | false =>
      have HM2 := Lib.hid (show (([] : List Int), (1 : Int)) = (a, z) by have := HM1.out; rwa [if_neg (by rw [← HV.out]; simp)] at this)
      go_wp2
      go_ret2
      exact OutI.no HM2.out jb.out
    | true =>
      obtain ⟨x0, x1, x2, x3, x4⟩ := id jx
      by_cases hneg : rn ≤ 0
      · have HM2 := Lib.hid (show (([] : List Int), (1 : Int)) = (a, z) by have := HM1.out; rwa [if_neg (by omega)] at this)
        have d1 : decide (rn ≤ 0) = true := decide_eq_true hneg
        go_wp2
        go_ret2
        exact OutI.no HM2.out jb.out
      · have HM2 := Lib.hid (show (rclT l of rn rd l.length, (0 : Int)) = (a, z) by have := HM1.out; rwa [if_pos ⟨HV.out.symm, by omega⟩] at this)
        have d1 : decide (rn ≤ 0) = false := decide_eq_false hneg
        clear HM1 HM
        go_wp2_with fail
        refine (sharesOf_any l A c of w2 (HL.out.below jb.out)).mono ?_
        rintro e w4 ⟨sb, mb, rfl, hS, hM⟩
        have hzz := jb.out.size
        have R0 := Lib.hid (show RW w w2 w4 w.heap.size sb mb l A c of rn rd (.slice none 0 0) (rclT l of rn rd of) from
          ⟨by rw [rclT_low of (Nat.le_refl _)]; exact OwnI.nil _ _, hS, ⟨_, hM⟩, jx.keep hS.b, jb.out.trans (hS.b.mono jb.out.size), fun g hg => (by cases hg), by have := hS.s3; omega, by have := hS.s3; omega⟩)
        clear hS hM x0 x1 x2 x3 x4 jx jb
        go_wp2
        go_loopw [9, 11] (fun v t wr => ∃ k : Nat, t = .int .i64 k ∧ of ≤ k ∧ k ≤ l.length ∧ Hid (RW w w2 wr w.heap.size sb mb l A c of rn rd v (rclT l of rn rd k)) ∧ Hid (∀ g, v.ownBlock = some g → w2.heap.size ≤ g)) (fun _ t _ => l.length - (intOf t).toNat)
        case atStart => exact ⟨of, rfl, Nat.le_refl _, by omega, R0, Lib.hid (fun g hg => (by cases hg))⟩
        case round =>
          clear R0
          obtain ⟨k, rfl, hk0, hk, hr, hge⟩ := hrel
          by_cases hlt : k < l.length
          · obtain ⟨x0, x1, x2, x3, x4⟩ := hr.out.bx
            obtain ⟨K, hK⟩ := hr.out.mp
            have hcall := against_any l hl24 HG.out A c sb mb of w2 k hlt rn rd HV.out.symm wr K hr.out.sh hK
            obtain ⟨G, hG⟩ : ∃ G, G = agE l of k rn rd := ⟨_, rfl⟩
            rw [← hG] at hcall
            have HC := Lib.hid hcall
            have HGG := Lib.hid hG
            have hsw := hr.out.b.size
            have hw2 := hr.out.sh.b.size
            have HLL := Lib.hid (show (rclT l of rn rd k).length ≤ 1000000 by have := rclT_length (l := l) (of := of) (rn := rn) (rd := rd) k; omega)
            clear hcall hG hK
            go_wp2_with fail
            refine HC.out.mono ?_
            rintro e w5 ⟨rfl, hg5, K', hK', -⟩
            have R1 := Lib.hid (hr.out.ag hg5 ⟨K', hK'⟩)
            have hz5 := R1.out.b.size
            have hw5 := R1.out.sh.b.size
            clear hr hg5 hK' HC x0 x1 x2 x3 x4
            by_cases hgg : 0 ≤ G
            · have d2 : decide (0 ≤ G) = true := decide_eq_true hgg
              have HT := Lib.hid (rclT_yes (rn := rn) (rd := rd) hk0 (by rw [← HGG.out]; exact hgg))
              go_wp2_with (at_builtin; refine append_i64 (.tmp 42) (.tmp 44) rfl rfl w.heap.size _ _ k w5 rfl rfl R1.out.own rfl HLL.out hz5 ?_)
              intro v' w6 ho6 hg6 hd6
              rw [← HT.out] at ho6
              have R2 := Lib.hid (R1.out.app ho6 hg6 hd6 hge.out)
              have hge2 := Lib.hid (show ∀ g, v'.ownBlock = some g → w2.heap.size ≤ g by
                intro g hg
                rcases hd6 with h | h
                · exact hge.out g (h ▸ hg)
                · rw [h] at hg; cases hg; omega)
              clear ho6 hg6 hd6 R1 hge
              go_wp2
              go_roundw
              case rel => exact ⟨k + 1, by go_num, by omega, by omega, R2, hge2⟩
              case measure => simp [intOf]; omega
            · have d2 : decide (0 ≤ G) = false := decide_eq_false hgg
              have HT := Lib.hid (rclT_no (l := l) (of := of) (k := k) (rn := rn) (rd := rd) (by rw [← HGG.out]; omega))
              rw [← HT.out] at R1
              go_wp2
              go_roundw
              case rel => exact ⟨k + 1, by go_num, by omega, by omega, R1, hge⟩
              case measure => simp [intOf]; omega
          · obtain rfl : k = l.length := by omega
            obtain ⟨hr1, hr2⟩ := And.intro hr.out.own hr.out.b
            obtain ⟨A', c', rfl, hi⟩ := hr1.isL
            have HI := Lib.hid hi
            have HB := Lib.hid hr2
            clear hr hr1 hr2 hi hge
            go_wp2
            go_ret2
            obtain ⟨rfl, rfl⟩ := Prod.mk.inj HM2.out
            exact ⟨A', c', rfl, HI.out, HB.out⟩
  · have hm2 := HM.out
    unfold rclE at hm2
    rw [if_pos (by rw [← HE.out]; exact hz), ← HE.out] at hm2
    have HM2 := Lib.hid hm2
    have d1 : (E == 0) = false := by rw [beq_eq_false_iff_ne]; exact hz
    have d2 : (E != 0) = true := by rw [bne_iff_ne]; exact hz
    clear hm2 hz
    go_wp2
    go_ret2
    exact OutI.no HM2.out ib.out
end Go.Proofs.Ytdgmpaijpjkeoaa
