/-
  WHOLE NUMBERS: Compare, even.
-/
import Derived.Test.YtdgmpaijpjkeoaaWhoC
namespace Go.Proofs.Ytdgmpaijpjkeoaa
open Go.RowKit
theorem wcmp_lt {zs ys : List Nat} {a b k : Nat} (hz : WN zs a) (hy : WN ys b) (h1 : k < zs.length) (h2 : k < ys.length) (he : vlW (zs.drop (k + 1)) = vlW (ys.drop (k + 1))) (hd : zs[k] < ys[k]) : a < b := by
  have := cmp_digit hz.dg hy.dg h1 h2 he hd
  rw [hz.vl, hy.vl] at this
  exact this
set_option maxRecDepth 100000 in
set_option maxHeartbeats 1000000 in
theorem wcompare_any (A : Option Addr) (n c a : Nat) (B : Option Addr) (n' c' b : Nat) (hn : n ≤ 1000) (hn' : n' ≤ 1000) (w : World) (hW : IsW w A n a) (hX : IsW w B n' b) :
    Calls Try.prog 107 #[.slice A n c, .slice B n' c'] w fun e w' => e = .returned (.int .i64 (cmpN a b)) ∧ Below w.heap.size w w' := by
  obtain ⟨zs, hwn, rfl, hL⟩ := hW
  obtain ⟨ys, hyn, rfl, hM⟩ := hX
  have HZ := Lib.hid hwn
  have HY := Lib.hid hyn
  have HL := Lib.hid hL
  have HM := Lib.hid hM
  rcases Nat.lt_trichotomy zs.length ys.length with h | h | h
  · have hlt := cmp_len hwn hyn h
    have HR := Lib.hid (show cmpN a b = -1 by rw [cmpN, if_pos hlt])
    have d0 : ((zs.length : Int) != ys.length) = true := by rw [bne_iff_ne]; omega
    have d1 : ((zs.length : Int) == ys.length) = false := by rw [beq_eq_false_iff_ne]; omega
    clear hwn hL hyn hM hlt
    go_enter Try.func107, Try.ntmps107
    go_wp2
    go_ret
    exact ⟨by rw [HR.out]; rfl, Below.refl _ _⟩
  · have d0 : ((zs.length : Int) != ys.length) = false := by rw [h]; simp
    have d1 : ((zs.length : Int) == ys.length) = true := by rw [h]; simp
    have HH := Lib.hid h
    have hle : zs.length ≤ ys.length := by omega
    have hle2 : ys.length ≤ zs.length := by omega
    clear hwn hL hyn hM h
    go_enter Try.func107, Try.ntmps107
    go_wp2
    go_loopw [5] (fun i wr => ∃ k nd : Nat, i = .int .i64 ((k : Int) - 1) ∧ k ≤ zs.length ∧ Hid (vlW (zs.drop k) = vlW (ys.drop k)) ∧ wr = w.drewN nd) (fun i _ => (intOf i + 1).toNat)
    case atStart => exact ⟨zs.length, 0, rfl, by omega, Lib.hid (by rw [List.drop_length, HH.out, List.drop_length]), rfl⟩
    case round =>
      obtain ⟨k, nd, rfl, hk, hu, rfl⟩ := hrel
      cases k with
      | zero =>
        have hab : a = b := by
          have := hu.out
          rw [List.drop_zero, List.drop_zero, HZ.out.vl, HY.out.vl] at this
          exact this
        have HAB := Lib.hid (show cmpN a b = 0 by rw [hab, cmpN, if_neg (by omega), if_neg (by omega)])
        clear hab
        go_wp2
        go_ret
        exact ⟨by rw [HAB.out]; rfl, (by repeat' (first | (with_reducible exact Below.refl _ _) | (with_reducible assumption) | (with_reducible refine below_drewN ?_ _) | (with_reducible refine below_step (by assumption) ?_ ?_) | (with_reducible refine Below.alloc ?_ ?_ _) | (with_reducible refine Below.setCell ?_ ?_ _) | (with_reducible refine Below.drew ?_) | go_size | (exact Below.size (by assumption)) | (refine Nat.le_trans (Below.size (by assumption)) ?_)))⟩
      | succ k =>
        rw [show ((k + 1 : Nat) : Int) - 1 = (k : Int) by omega]
        have h1 : k < zs.length := by omega
        have h2 : k < ys.length := by omega
        obtain ⟨p, o, rfl, hp, hc⟩ := HL.out.digit h1 rfl
        obtain ⟨p', o', rfl, hp', hc'⟩ := HM.out.digit h2 rfl
        have hlt := fun hd => wcmp_lt HZ.out HY.out h1 h2 hu.out hd
        have hgt := fun hd => wcmp_lt HY.out HZ.out h2 h1 hu.out.symm hd
        have hsm := fun hd => cmp_same h1 h2 hu.out hd
        obtain ⟨z, hz⟩ : ∃ z, z = zs[k] := ⟨_, rfl⟩
        obtain ⟨y, hy⟩ : ∃ y, y = ys[k] := ⟨_, rfl⟩
        rw [← hz] at hc hlt hgt hsm
        rw [← hy] at hc' hlt hgt hsm
        have HLT := Lib.hid hlt
        have HGT := Lib.hid hgt
        have HSM := Lib.hid hsm
        clear hz hy hlt hgt hsm
        rcases Nat.lt_trichotomy z y with h | h | h
        · have HAB := Lib.hid (show cmpN a b = -1 by rw [cmpN, if_pos (HLT.out h)])
          have e1 : decide ((z : Int) < (y : Int)) = true := decide_eq_true (by omega)
          go_wp2
          go_quiet (fail)
          go_wp2
          go_ret
          exact ⟨by rw [HAB.out]; rfl, (by repeat' (first | (with_reducible exact Below.refl _ _) | (with_reducible assumption) | (with_reducible refine below_drewN ?_ _) | (with_reducible refine below_step (by assumption) ?_ ?_) | (with_reducible refine Below.alloc ?_ ?_ _) | (with_reducible refine Below.setCell ?_ ?_ _) | (with_reducible refine Below.drew ?_) | go_size | (exact Below.size (by assumption)) | (refine Nat.le_trans (Below.size (by assumption)) ?_)))⟩
        · subst h
          have HU := Lib.hid (HSM.out rfl)
          go_wp2
          go_quiet (fail)
          go_wp2
          go_quiet (fail)
          go_wp2
          go_roundw
          case rel => exact ⟨k, _, by go_num, by omega, HU, rfl⟩
          case measure => simp [intOf]
        · have hgt := HGT.out h
          have HAB := Lib.hid (show cmpN a b = 1 by rw [cmpN, if_neg (by omega), if_pos hgt])
          clear hgt
          have e1 : decide ((z : Int) < (y : Int)) = false := decide_eq_false (by omega)
          go_wp2
          go_quiet (fail)
          go_wp2
          go_quiet (fail)
          go_wp2
          go_ret
          exact ⟨by rw [HAB.out]; rfl, (by repeat' (first | (with_reducible exact Below.refl _ _) | (with_reducible assumption) | (with_reducible refine below_drewN ?_ _) | (with_reducible refine below_step (by assumption) ?_ ?_) | (with_reducible refine Below.alloc ?_ ?_ _) | (with_reducible refine Below.setCell ?_ ?_ _) | (with_reducible refine Below.drew ?_) | go_size | (exact Below.size (by assumption)) | (refine Nat.le_trans (Below.size (by assumption)) ?_)))⟩
  · have hlt := cmp_len hyn hwn h
    have HR := Lib.hid (show cmpN a b = 1 by rw [cmpN, if_neg (by omega), if_pos hlt])
    have d0 : ((zs.length : Int) != ys.length) = true := by rw [bne_iff_ne]; omega
    have d1 : ((zs.length : Int) == ys.length) = false := by rw [beq_eq_false_iff_ne]; omega
    have d2 : decide (zs.length < ys.length) = false := decide_eq_false (by omega)
    clear hwn hL hyn hM hlt
    go_enter Try.func107, Try.ntmps107
    go_wp2
    go_ret
    exact ⟨by rw [HR.out]; rfl, Below.refl _ _⟩
theorem even_digit {z : Nat} {r : List Nat} {a : Nat} (h : WN (z :: r) a) : a % 2 = z % 2 := by
  have := h.vl
  simp only [vlW] at this
  omega
set_option maxRecDepth 100000 in
theorem weven_any (A : Option Addr) (n c a : Nat) (r : Bool) (hr : (a % 2 == 0) = r) (w : World) (hW : IsW w A n a) (hn : n ≤ 1000) :
    Calls Try.prog 114 #[.slice A n c] w fun e w' => e = .returned (.bool r) ∧ w = w' := by
  obtain ⟨zs, hwn, rfl, hL⟩ := hW
  cases zs with
  | nil =>
    have ha : a = 0 := hwn.vl.symm
    subst ha
    have HR := Lib.hid (show true = r by rw [← hr]; rfl)
    clear hr hwn hL
    go_enter Try.func114, Try.ntmps114
    go_wp2
    go_ret
    exact ⟨by rw [← HR.out]; rfl, rfl⟩
  | cons z t =>
    have he := even_digit hwn
    have hz := hwn.dg z (by simp)
    obtain ⟨p, o, rfl, hp, hc⟩ := hL.digit (k := 0) (by simp) rfl
    simp only [List.getElem_cons_zero] at hc
    have d0 : ((((z :: t).length : Nat) : Int) == 0) = false := by rw [beq_eq_false_iff_ne, List.length_cons]; omega
    obtain ⟨L, hL2⟩ : ∃ L, L = (z :: t).length := ⟨_, rfl⟩
    have hL0 : 0 < L := by rw [hL2]; simp
    rw [← hL2] at d0 hn ⊢
    have HR := Lib.hid (show ((z : Int) % 2 == 0) = r by rw [← hr, he]; rw [Bool.eq_iff_iff]; simp; omega)
    clear hr hwn hL he hL2
    rw [Nat.add_zero] at hc
    go_enter Try.func114, Try.ntmps114
    go_wp2
    go_ret
    exact ⟨by rw [← HR.out]; rfl, rfl⟩
end Go.Proofs.Ytdgmpaijpjkeoaa
