/-
  Sources, Descend (the program's).
-/
import Derived.Test.YtdgmpaijpjkeoaaSetB
import Derived.Test.YtdgmpaijpjkeoaaRclM
import Derived.Test.YtdgmpaijpjkeoaaLotP
namespace Go.Proofs.Ytdgmpaijpjkeoaa
open Go.RowKit
theorem OwnI.blk {w : World} {B : Nat} {v : Value} {zs : List Int} (h : OwnI w B v zs) : ∀ g, v.ownBlock = some g → B ≤ g ∧ g < w.heap.size := World.ownsRow.lt h
theorem rowB_old1 {l : List LotD} {n : Nat} (j : Nat) : oldB l [(n : Int)] j = elB l j n := by simp [oldB]
set_option maxRecDepth 100000 in
set_option maxHeartbeats 1000000 in
theorem sources_any (l : List LotD) (hl : l.length ≤ 1000) (hps : ∀ x ∈ l, x.parts.length ≤ 1000) (n : Int) (a : List Int) (z : Int) (hm : srcE l n = (a, z)) (hn : -9223372036854775808 ≤ n) (kn : n ≤ 9223372036854775807) (A : Option Addr) (c : Nat) (w : World) (hL : LotsIn w A l) :
    Calls Try.prog 52 #[.slice A l.length c, .int .i64 n] w (OutI w a z) := by
  have HM := Lib.hid hm
  have HL := Lib.hid hL
  have HPS := Lib.hid hps
  clear hm hL hps
  go_enter Try.func52, Try.ntmps52
  go_wp2_with fail
  obtain ⟨W, hW⟩ : ∃ W, W = w.alloc (.cells #[.int .i64 n] 3) := ⟨_, rfl⟩
  rw [← hW]
  have hb := Lib.hid (show Below w.heap.size w W by rw [hW]; exact (by repeat' (first | (with_reducible exact Below.refl _ _) | (with_reducible assumption) | (with_reducible refine below_drewN ?_ _) | (with_reducible refine below_step (by assumption) ?_ ?_) | (with_reducible refine Below.alloc ?_ ?_ _) | (with_reducible refine Below.setCell ?_ ?_ _) | (with_reducible refine Below.drew ?_) | go_size | (exact Below.size (by assumption)) | (refine Nat.le_trans (Below.size (by assumption)) ?_))))
  have hI := Lib.hid (show IsL W (some ⟨w.heap.size, 0, none⟩) 1 [n] by rw [hW]; exact isL_one w n _)
  clear hW
  obtain ⟨E, hE⟩ : ∃ E, E = chkE l [n] := ⟨_, rfl⟩
  have HE := Lib.hid hE
  clear hE
  refine (check_any l hl HPS.out A c _ 1 1 [n] W (HL.out.below hb.out) hI.out (by omega) (fun x hx => by simp at hx; subst hx; exact ⟨by omega, by omega⟩)).mono ?_
  rw [← HE.out]
  rintro e w1 ⟨rfl, hb1⟩
  have ib := Lib.hid (hb.out.trans (hb1.mono hb.out.size))
  clear hb1 hI hb
  by_cases hz : E = 0
  · subst hz
    have hm2 := HM.out
    unfold srcE at hm2
    rw [if_neg (by rw [← HE.out]; decide)] at hm2
    obtain ⟨hgl, hin⟩ := chk_zero HE.out.symm
    have h1 := hin n (by simp)
    obtain ⟨n, rfl⟩ : ∃ k : Nat, n = k := ⟨n.toNat, by omega⟩
    rw [Int.toNat_natCast] at hm2
    have HM2 := Lib.hid hm2
    have HG := Lib.hid hgl.lot
    have hl24 := hgl.len
    have hn : n < l.length := by omega
    clear hm2 hgl hin h1 HM
    go_wp2_with fail
    obtain ⟨W2, hW2⟩ : ∃ W2, W2 = w1.alloc (.cells #[.int .i64 n] 3) := ⟨_, rfl⟩
    rw [← hW2]
    have jb := Lib.hid (show Below w.heap.size w W2 by rw [hW2]; exact ib.out.alloc ib.out.size _)
    have hI2 := Lib.hid (show IsL W2 (some ⟨w1.heap.size, 0, none⟩) 1 [(n : Int)] by rw [hW2]; exact isL_one w1 n _)
    clear hW2 ib
    refine (elders_any l hl24 HG.out A c _ 1 1 [(n : Int)] W2 (HL.out.below jb.out) hI2.out (by omega) (fun x hx => by simp at hx; subst hx; exact ⟨by omega, by omega⟩)).mono ?_
    rintro e w3 ⟨rb, rfl, hrow, hb3, hrb⟩
    have H3 := Lib.hid (And.intro hrow (jb.out.trans (hb3.mono jb.out.size)))
    have R0 := Lib.hid (show OwnI w3 w3.heap.size (.slice none 0 0) (selL (srcP l n) 0) ∧ Below w3.heap.size w3 w3 from ⟨OwnI.nil _ _, Below.refl _ _⟩)
    clear hrow hb3 hrb hI2 jb
    go_wp2
    go_loopw [7, 22] (fun v t wr => ∃ k : Nat, t = .int .i64 k ∧ k ≤ l.length ∧ Hid (OwnI wr w3.heap.size v (selL (srcP l n) k) ∧ Below w3.heap.size w3 wr)) (fun _ t _ => l.length - (intOf t).toNat)
    case atStart => exact ⟨0, rfl, by omega, R0⟩
    case round =>
      clear R0
      obtain ⟨k, rfl, hk, hr⟩ := hrel
      by_cases hlt : k < l.length
      · have hrw := Row.below hr.out.2 (Row.lt H3.out.1) H3.out.1
        have r1 := RowB.at (show RowB wr rb (rowB l.length (oldB l [(n : Int)])) from hrw) k (by rw [rowB_length]; exact hlt)
        rw [rowB_get hlt, rowB_old1] at r1
        have r3 := Row.lt hrw
        obtain ⟨b, o, rfl, hc⟩ := (HL.out.below (H3.out.2.trans (hr.out.2.mono H3.out.2.size))) (by omega)
        obtain ⟨e1, e2, e3, e4, e5, A', c', e6, e8, e7⟩ := hc k hlt
        have hyd : l.getD k default = l[k] := getD_at' hlt
        have hsel : srcP l n k = (elB l k n && decide (l[k].parts.length = 0)) := by rw [srcP, hyd]
        obtain ⟨x, hx⟩ : ∃ x, x = elB l k n := ⟨_, rfl⟩
        obtain ⟨m, hm⟩ : ∃ m, m = l[k].parts.length := ⟨_, rfl⟩
        rw [← hx, ← hm] at hsel
        rw [← hx] at r1
        rw [← hm] at e6
        have hsz := hr.out.2.size
        have HLM := Lib.hid (show (selL (srcP l n) k).length ≤ 1000000 by have := selL_length (srcP l n) k; omega)
        clear hc e1 e2 e4 e5 e7 e8 hyd hx hm hrw
        cases x with
        | false =>
          have hs := selL_no (P := srcP l n) (k := k) (by rw [hsel]; rfl)
          rw [← hs] at hr
          clear hs hsel
          go_wp2
          go_roundw
          case rel => exact ⟨k + 1, by go_num, by omega, hr⟩
          case measure => simp [intOf]; omega
        | true =>
          by_cases h0 : m = 0
          · have d1 : ((m : Int) == 0) = true := by rw [beq_iff_eq]; omega
            have HS := Lib.hid (selL_yes (P := srcP l n) (k := k) (by rw [hsel, decide_eq_true h0]; rfl))
            clear hsel
            go_wp2_with (at_builtin; refine append_i64 (.tmp 37) (.tmp 39) rfl rfl w3.heap.size _ _ k wr rfl rfl hr.out.1 rfl HLM.out hsz ?_)
            intro v' w6 ho6 hg6 hd6
            rw [← HS.out] at ho6
            have R2 := Lib.hid (And.intro ho6 (hr.out.2.grown hg6 hsz (fun g hg => (hr.out.1.blk g hg).1)))
            clear ho6 hg6 hd6 hr
            go_wp2
            go_roundw
            case rel => exact ⟨k + 1, by go_num, by omega, R2⟩
            case measure => simp [intOf]; omega
          · have d1 : ((m : Int) == 0) = false := by rw [beq_eq_false_iff_ne]; omega
            have hs := selL_no (P := srcP l n) (k := k) (by rw [hsel, decide_eq_false h0]; rfl)
            rw [← hs] at hr
            clear hs hsel
            go_wp2
            go_roundw
            case rel => exact ⟨k + 1, by go_num, by omega, hr⟩
            case measure => simp [intOf]; omega
      · obtain rfl : k = l.length := by omega
        obtain ⟨A', c', rfl, hi⟩ := hr.out.1.isL
        have HI := Lib.hid hi
        have HB := Lib.hid (H3.out.2.trans (hr.out.2.mono H3.out.2.size))
        clear hr hi H3
        go_wp2
        go_ret2
        obtain ⟨rfl, rfl⟩ := Prod.mk.inj HM2.out
        exact ⟨A', c', rfl, HI.out, HB.out⟩
  · have hm2 := HM.out
    unfold srcE at hm2
    rw [if_pos (by rw [← HE.out]; exact hz), ← HE.out] at hm2
    have HM2 := Lib.hid hm2
    have d1 : (E == 0) = false := by rw [beq_eq_false_iff_ne]; exact hz
    have d2 : (E != 0) = true := by rw [bne_iff_ne]; exact hz
    clear hm2 hz
    go_wp2
    go_ret2
    exact OutI.no HM2.out ib.out
set_option maxRecDepth 100000 in
set_option maxHeartbeats 1000000 in
theorem descend_any (l : List LotD) (hl : l.length ≤ 1000) (hps : ∀ x ∈ l, x.parts.length ≤ 1000) (n : Int) (a : List Int) (z : Int) (hm : desE l n = (a, z)) (hn : -9223372036854775808 ≤ n) (kn : n ≤ 9223372036854775807) (A : Option Addr) (c : Nat) (w : World) (hL : LotsIn w A l) :
    Calls Try.prog 54 #[.slice A l.length c, .int .i64 n] w (OutI w a z) := by
  have HM := Lib.hid hm
  have HL := Lib.hid hL
  have HPS := Lib.hid hps
  clear hm hL hps
  go_enter Try.func54, Try.ntmps54
  go_wp2_with fail
  obtain ⟨W, hW⟩ : ∃ W, W = w.alloc (.cells #[.int .i64 n] 3) := ⟨_, rfl⟩
  rw [← hW]
  have hb := Lib.hid (show Below w.heap.size w W by rw [hW]; exact (by repeat' (first | (with_reducible exact Below.refl _ _) | (with_reducible assumption) | (with_reducible refine below_drewN ?_ _) | (with_reducible refine below_step (by assumption) ?_ ?_) | (with_reducible refine Below.alloc ?_ ?_ _) | (with_reducible refine Below.setCell ?_ ?_ _) | (with_reducible refine Below.drew ?_) | go_size | (exact Below.size (by assumption)) | (refine Nat.le_trans (Below.size (by assumption)) ?_))))
  have hI := Lib.hid (show IsL W (some ⟨w.heap.size, 0, none⟩) 1 [n] by rw [hW]; exact isL_one w n _)
  clear hW
  obtain ⟨E, hE⟩ : ∃ E, E = chkE l [n] := ⟨_, rfl⟩
  have HE := Lib.hid hE
  clear hE
  refine (check_any l hl HPS.out A c _ 1 1 [n] W (HL.out.below hb.out) hI.out (by omega) (fun x hx => by simp at hx; subst hx; exact ⟨by omega, by omega⟩)).mono ?_
  rw [← HE.out]
  rintro e w1 ⟨rfl, hb1⟩
  have ib := Lib.hid (hb.out.trans (hb1.mono hb.out.size))
  clear hb1 hI hb
  by_cases hz : E = 0
  · subst hz
    have hm2 := HM.out
    unfold desE at hm2
    rw [if_neg (by rw [← HE.out]; decide)] at hm2
    obtain ⟨hgl, hin⟩ := chk_zero HE.out.symm
    have h1 := hin n (by simp)
    obtain ⟨n, rfl⟩ : ∃ k : Nat, n = k := ⟨n.toNat, by omega⟩
    rw [Int.toNat_natCast] at hm2
    have HM2 := Lib.hid hm2
    have HG := Lib.hid hgl.lot
    have hl24 := hgl.len
    have hn : n < l.length := by omega
    clear hm2 hgl hin h1 HM
    have R0 := Lib.hid (show OwnI w1 w.heap.size (.slice none 0 0) (selL (desP l n) (n + 1)) ∧ Below w.heap.size w w1 from ⟨by rw [selL_none (fun j hj => by simp [desP]; omega)]; exact OwnI.nil _ _, ib.out⟩)
    clear ib
    go_wp2
    go_loopw [7, 8] (fun v t wr => ∃ k : Nat, t = .int .i64 k ∧ n < k ∧ k ≤ l.length ∧ Hid (OwnI wr w.heap.size v (selL (desP l n) k) ∧ Below w.heap.size w wr)) (fun _ t _ => l.length - (intOf t).toNat)
    case atStart => exact ⟨n + 1, by go_num, by omega, by omega, R0⟩
    case round =>
      clear R0
      obtain ⟨k, rfl, hnk, hk, hr⟩ := hrel
      by_cases hlt : k < l.length
      · go_wp2_with fail
        obtain ⟨W2, hW2⟩ : ∃ W2, W2 = wr.alloc (.cells #[.int .i64 k] 3) := ⟨_, rfl⟩
        rw [← hW2]
        have hb2 : Below wr.heap.size wr W2 := by rw [hW2]; exact (Below.refl _ _).alloc (Nat.le_refl _) _
        have hI2 := Lib.hid (show IsL W2 (some ⟨wr.heap.size, 0, none⟩) 1 [(k : Int)] by rw [hW2]; exact isL_one wr k _)
        have R1 := Lib.hid (And.intro (hr.out.1.keep hb2) (hr.out.2.trans (hb2.mono hr.out.2.size)))
        clear hW2 hb2 hr
        refine (elders_any l hl24 HG.out A c _ 1 1 [(k : Int)] W2 (HL.out.below R1.out.2) hI2.out (by omega) (fun x hx => by simp at hx; subst hx; exact ⟨by omega, by omega⟩)).mono ?_
        rintro e w3 ⟨rb, rfl, hrow, hb3, hrb⟩
        have R2 := Lib.hid (And.intro (R1.out.1.keep hb3) (R1.out.2.trans (hb3.mono R1.out.2.size)))
        have r1 := RowB.at hrow n (by rw [rowB_length]; exact hn)
        rw [rowB_get hn, rowB_old1] at r1
        have r3 := Row.lt hrow
        have hsel : desP l n k = elB l n k := by rw [desP, decide_eq_true hnk]; rfl
        obtain ⟨x, hx⟩ : ∃ x, x = elB l n k := ⟨_, rfl⟩
        rw [← hx] at hsel r1
        have hsz := R2.out.2.size
        have HLM := Lib.hid (show (selL (desP l n) k).length ≤ 1000000 by have := selL_length (desP l n) k; omega)
        clear hx hrow hb3 hrb hI2 R1
        cases x with
        | false =>
          have hs := selL_no (P := desP l n) (k := k) hsel
          rw [← hs] at R2
          clear hs hsel
          go_wp2
          go_roundw
          case rel => exact ⟨k + 1, by go_num, by omega, by omega, R2⟩
          case measure => simp [intOf]; omega
        | true =>
          have HS := Lib.hid (selL_yes (P := desP l n) (k := k) hsel)
          clear hsel
          go_wp2_with (at_builtin; refine append_i64 (.tmp 31) (.tmp 33) rfl rfl w.heap.size _ _ k w3 rfl rfl R2.out.1 rfl HLM.out hsz ?_)
          intro v' w6 ho6 hg6 hd6
          rw [← HS.out] at ho6
          have R3 := Lib.hid (And.intro ho6 (R2.out.2.grown hg6 hsz (fun g hg => (R2.out.1.blk g hg).1)))
          clear ho6 hg6 hd6 R2
          go_wp2
          go_roundw
          case rel => exact ⟨k + 1, by go_num, by omega, by omega, R3⟩
          case measure => simp [intOf]; omega
      · obtain rfl : k = l.length := by omega
        obtain ⟨A', c', rfl, hi⟩ := hr.out.1.isL
        have HI := Lib.hid hi
        have HB := Lib.hid hr.out.2
        clear hr hi
        go_wp2
        go_ret2
        obtain ⟨rfl, rfl⟩ := Prod.mk.inj HM2.out
        exact ⟨A', c', rfl, HI.out, HB.out⟩
  · have hm2 := HM.out
    unfold desE at hm2
    rw [if_pos (by rw [← HE.out]; exact hz), ← HE.out] at hm2
    have HM2 := Lib.hid hm2
    have d1 : (E == 0) = false := by rw [beq_eq_false_iff_ne]; exact hz
    have d2 : (E != 0) = true := by rw [bne_iff_ne]; exact hz
    clear hm2 hz
    go_wp2
    go_ret2
    exact OutI.no HM2.out ib.out
end Go.Proofs.Ytdgmpaijpjkeoaa
