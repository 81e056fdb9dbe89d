/-
  WHOLE NUMBERS: the greatest common divisor.
-/
import Derived.Test.YtdgmpaijpjkeoaaWhoG
import Derived.Test.YtdgmpaijpjkeoaaNatG
import Derived.Deep.DeepCutAuto
import Derived.Deep.CutBlock
namespace Go.Proofs.Ytdgmpaijpjkeoaa
open Go.RowKit
theorem IsW.len {w : World} {A : Option Addr} {n a : Nat} (h : IsW w A n a) (ha : a < topW) : n ≤ 100 := by
  obtain ⟨zs, h1, rfl, -⟩ := h
  exact h1.len100 ha
theorem IsW.zero_iff {w : World} {A : Option Addr} {n a : Nat} (h : IsW w A n a) : n = 0 ↔ a = 0 := by
  obtain ⟨zs, h1, rfl, -⟩ := h
  exact h1.zero_iff
/-- The number in a slice, read off its digits. -/
def digS (w : World) (b o : Nat) : Nat → Nat
  | 0 => 0
  | k + 1 => digS w b o k + 16777216 ^ k * (match w.cell? ⟨b, o + k, none⟩ with | some (.int _ z) => z.toNat | _ => 0)
def valS (w : World) (v : Value) : Nat := match v with | .slice (some ⟨b, o, none⟩) n _ => digS w b o n | _ => 0
theorem IsW.val {w : World} {A : Option Addr} {n a c : Nat} (h : IsW w A n a) : valS w (.slice A n c) = a := by
  obtain ⟨zs, h1, rfl, h3⟩ := h
  rcases Nat.eq_zero_or_pos zs.length with e | e
  · have ha := h1.zero_iff.1 e
    rw [e, ha]
    rcases A with _ | ⟨b, o, _ | _⟩ <;> rfl
  · obtain ⟨b, o, rfl, hb, hc⟩ := h3.2 e
    have key : ∀ k, k ≤ zs.length → digS w b o k = vlW (zs.take k) := by
      intro k
      induction k with
      | zero => intro _; rfl
      | succ k ih =>
        intro hk
        rw [digS, ih (by omega), hc k (by omega), vlW_take (show k < zs.length by omega), casts_getD (show k < zs.length by omega)]
        simp
    show digS w b o zs.length = a
    rw [key _ (Nat.le_refl _), List.take_length, h1.vl]
theorem pow_le100 {k x a : Nat} (h : 2 ^ k * x = a) (hx : 0 < x) (ha : a < topW) : k ≤ 2400 ∧ x ≤ a := by
  have h1 : 2 ^ k * 1 ≤ 2 ^ k * x := Nat.mul_le_mul_left _ hx
  have h2 : 1 * x ≤ 2 ^ k * x := Nat.mul_le_mul_right _ (Nat.pow_pos (by decide))
  obtain ⟨p, hp⟩ : ∃ p, p = 24 * 100 := ⟨_, rfl⟩
  have ht : topW = 2 ^ p := by
    unfold topW
    rw [show (16777216 : Nat) = 2 ^ 24 by decide, ← Nat.pow_mul, hp]
  refine ⟨?_, by omega⟩
  have : 2 ^ k < 2 ^ p := by omega
  have := (Nat.pow_lt_pow_iff_right (show 1 < 2 by decide)).1 this
  omega
set_option maxRecDepth 100000 in
set_option maxHeartbeats 1000000 in
theorem wcommon_any (A : Option Addr) (n c a : Nat) (B : Option Addr) (n' c' b : Nat) (ha : a < topW) (hb : b < topW) (ha0 : 0 < a) (hb0 : 0 < b) (w : World) (hW : IsW w A n a) (hX : IsW w B n' b) :
    Calls Try.prog 94 #[.slice A n c, .slice B n' c'] w (RetC w (Nat.gcd a b)) := by
  have HA := Lib.hid ha
  have HB := Lib.hid hb
  have HA0 := Lib.hid ha0
  have HB0 := Lib.hid hb0
  have h0 := Lib.hid (show IsW w A n a ∧ IsW w B n' b ∧ Below w.heap.size w w from ⟨hW, hX, Below.refl _ _⟩)
  clear ha hb ha0 hb0 hW hX
  go_enter Try.func94, Try.ntmps94
  go_wp2
  go_loopw [0, 1, 5] (fun v u t wr => ∃ (A : Option Addr) (n c : Nat) (B : Option Addr) (n' c' k x y : Nat), v = .slice A n c ∧ u = .slice B n' c' ∧ t = .int .i64 k ∧ k ≤ 2400 ∧ Hid (2 ^ k * x = a ∧ 2 ^ k * y = b ∧ IsW wr A n x ∧ IsW wr B n' y ∧ Below w.heap.size w wr)) (fun v _ _ wr => valS wr v)
  case atStart => exact ⟨A, n, c, B, n', c', 0, a, b, rfl, rfl, rfl, by omega, by rw [Nat.pow_zero, Nat.one_mul, Nat.one_mul]; exact ⟨rfl, rfl, h0.out⟩⟩
  case round =>
    clear h0
    obtain ⟨A, n, c, B, n', c', k, x, y, rfl, rfl, rfl, hk, hr⟩ := hrel
    have hx0 : 0 < x := by
      have h1 := hr.out.1
      have h2 := HA0.out
      rcases Nat.eq_zero_or_pos x with h | h
      · rw [h] at h1; simp at h1; omega
      · exact h
    have hy0 : 0 < y := by
      have h1 := hr.out.2.1
      have h2 := HB0.out
      rcases Nat.eq_zero_or_pos y with h | h
      · rw [h] at h1; simp at h1; omega
      · exact h
    have hxa := pow_le100 hr.out.1 hx0 HA.out
    have hyb := pow_le100 hr.out.2.1 hy0 HB.out
    have XT := Lib.hid (Nat.lt_of_le_of_lt hxa.2 HA.out)
    have YT := Lib.hid (Nat.lt_of_le_of_lt hyb.2 HB.out)
    have hn := hr.out.2.2.1.len XT.out
    have hn' := hr.out.2.2.2.1.len YT.out
    have X0 := Lib.hid hx0
    have Y0 := Lib.hid hy0
    clear hx0 hy0 hxa hyb
    go_upto_region 2 with fail
    go_cut [11] (fun s wx => ∃ e : Bool, s = .bool e ∧ Hid (e = true ↔ x % 2 = 0 ∧ y % 2 = 0) ∧ wr = wx)
    case first =>
      by_cases hx : x % 2 = 0
      · by_cases hy : y % 2 = 0
        · have HP := Lib.hid (show x % 2 = 0 ∧ y % 2 = 0 from ⟨hx, hy⟩)
          have e1 := Lib.hid (show (x % 2 == 0) = true by rw [beq_iff_eq]; exact hx)
          have e2 := Lib.hid (show (y % 2 == 0) = true by rw [beq_iff_eq]; exact hy)
          clear hx hy
          go_wp2_with fail
          refine (weven_any A n c x true e1.out _ hr.out.2.2.1 (by omega)).mono ?_
          rintro e w' ⟨rfl, rfl⟩
          go_wp2_with fail
          refine (weven_any B n' c' y true e2.out _ hr.out.2.2.2.1 (by omega)).mono ?_
          rintro e w' ⟨rfl, rfl⟩
          go_wp2_with fail
          go_meet
          exact ⟨true, rfl, Lib.hid ⟨fun _ => HP.out, fun _ => rfl⟩, rfl⟩
        · have HP := Lib.hid (show ¬ (x % 2 = 0 ∧ y % 2 = 0) from fun h => hy h.2)
          have e1 := Lib.hid (show (x % 2 == 0) = true by rw [beq_iff_eq]; exact hx)
          have e2 := Lib.hid (show (y % 2 == 0) = false by rw [beq_eq_false_iff_ne]; exact hy)
          clear hx hy
          go_wp2_with fail
          refine (weven_any A n c x true e1.out _ hr.out.2.2.1 (by omega)).mono ?_
          rintro e w' ⟨rfl, rfl⟩
          go_wp2_with fail
          refine (weven_any B n' c' y false e2.out _ hr.out.2.2.2.1 (by omega)).mono ?_
          rintro e w' ⟨rfl, rfl⟩
          go_wp2_with fail
          go_meet
          exact ⟨false, rfl, Lib.hid ⟨(fun h => by cases h), fun h => absurd h HP.out⟩, rfl⟩
      · have HP := Lib.hid (show ¬ (x % 2 = 0 ∧ y % 2 = 0) from fun h => hx h.1)
        have e1 := Lib.hid (show (x % 2 == 0) = false by rw [beq_eq_false_iff_ne]; exact hx)
        clear hx
        go_wp2_with fail
        refine (weven_any A n c x false e1.out _ hr.out.2.2.1 (by omega)).mono ?_
        rintro e w' ⟨rfl, rfl⟩
        go_wp2_with fail
        go_meet
        exact ⟨false, rfl, Lib.hid ⟨(fun h => by cases h), fun h => absurd h HP.out⟩, rfl⟩
    case rest =>
    obtain ⟨e, rfl, he, rfl⟩ := hcut
    cases e with
    | true =>
      have hev := he.out.1 rfl
      have e1 : 2 ^ (k + 1) * (x / 2) = a := by rw [Nat.pow_succ, Nat.mul_assoc, Nat.mul_comm 2, show x / 2 * 2 = x by omega]; exact hr.out.1
      have e2 : 2 ^ (k + 1) * (y / 2) = b := by rw [Nat.pow_succ, Nat.mul_assoc, Nat.mul_comm 2, show y / 2 * 2 = y by omega]; exact hr.out.2.1
      have hk2 := (pow_le100 e1 (by have := X0.out; omega) HA.out).1
      have E1 := Lib.hid e1
      have E2 := Lib.hid e2
      clear e1 e2 hev he
      go_wp2_with fail
      refine (wby_any A n c x 2 (by omega) (by omega) (by omega) _ hr.out.2.2.1).mono ?_
      rintro e w1 ⟨A1, n1, c1, rfl, hw1, hb1, -⟩
      have H1 := Lib.hid (show IsW w1 A1 n1 (x / 2) ∧ IsW w1 B n' y ∧ Below w.heap.size w w1 from ⟨hw1, hr.out.2.2.2.1.below hb1, hr.out.2.2.2.2.trans (hb1.mono hr.out.2.2.2.2.size)⟩)
      clear hw1 hb1
      go_wp2_with fail
      refine (wby_any B n' c' y 2 (by omega) (by omega) (by omega) _ H1.out.2.1).mono ?_
      rintro e w2 ⟨A2, n2, c2, rfl, hw2, hb2, -⟩
      have H2 := Lib.hid (show IsW w2 A1 n1 (x / 2) ∧ IsW w2 A2 n2 (y / 2) ∧ Below w.heap.size w w2 from ⟨H1.out.1.below hb2, hw2, H1.out.2.2.trans (hb2.mono H1.out.2.2.size)⟩)
      clear hw2 hb2 H1
      go_wp2
      go_roundw
      case rel => exact ⟨A1, n1, c1, A2, n2, c2, k + 1, x / 2, y / 2, rfl, rfl, by go_num, hk2, E1.out, E2.out, H2.out⟩
      case measure =>
        rw [H2.out.1.val, hr.out.2.2.1.val]
        have := X0.out
        omega
    | false =>
      have HO := Lib.hid (gcd_odd (a := x) (b := y) (fun h => by have := he.out.2 h; cases this))
      have HG := Lib.hid (show 2 ^ k * Nat.gcd x y = Nat.gcd a b by rw [← Nat.gcd_mul_left, hr.out.1, hr.out.2.1])
      obtain ⟨g, hg⟩ : ∃ g, g = Nat.gcd x y := ⟨_, rfl⟩
      rw [← hg] at HG HO
      have h1 := Lib.hid (show Nat.gcd x y = g ∧ x < topW ∧ y < topW ∧ IsW wr A n x ∧ IsW wr B n' y ∧ Below w.heap.size w wr from ⟨hg.symm, XT.out, YT.out, hr.out.2.2⟩)
      clear hg he hr XT YT X0 Y0 hn hn'
      go_upto_block 2 with fail
      go_cut [0, 1] (fun v u wx => ∃ (A : Option Addr) (n c : Nat) (B : Option Addr) (n' c' x y : Nat), v = .slice A n c ∧ u = .slice B n' c' ∧ Hid ((x = 0 ∧ y = g ∨ x = g ∧ y = 0) ∧ IsW wx A n x ∧ IsW wx B n' y ∧ Below w.heap.size w wx))
      case first =>
        as_aux_lemma =>
          go_wp2
          go_loopw [0, 1] (fun v u wr => ∃ (A : Option Addr) (n c : Nat) (B : Option Addr) (n' c' x y : Nat), v = .slice A n c ∧ u = .slice B n' c' ∧ Hid (Nat.gcd x y = g ∧ x < topW ∧ y < topW ∧ IsW wr A n x ∧ IsW wr B n' y ∧ Below w.heap.size w wr)) (fun v u wr => valS wr v + valS wr u)
          case atStart => exact ⟨A, n, c, B, n', c', x, y, rfl, rfl, h1⟩
          case round =>
            clear h1 HG
            obtain ⟨A, n, c, B, n', c', x, y, rfl, rfl, hr⟩ := hrel
            have hn := hr.out.2.2.2.1.len hr.out.2.1
            have hn' := hr.out.2.2.2.2.1.len hr.out.2.2.1
            by_cases hx : n = 0
            · have HX := Lib.hid (hr.out.2.2.2.1.zero_iff.1 hx)
              subst hx
              go_wp2
              go_meet
              exact ⟨A, 0, c, B, n', c', x, y, rfl, rfl, Lib.hid ⟨.inl ⟨HX.out, by rw [← hr.out.1, HX.out, Nat.gcd_zero_left]⟩, hr.out.2.2.2⟩⟩
            · have hnp : 0 < n := by omega
              by_cases hy : n' = 0
              · have HY := Lib.hid (hr.out.2.2.2.2.1.zero_iff.1 hy)
                subst hy
                clear hx
                go_wp2
                go_meet
                exact ⟨A, n, c, B, 0, c', x, y, rfl, rfl, Lib.hid ⟨.inr ⟨by rw [← hr.out.1, HY.out, Nat.gcd_zero_right], HY.out⟩, hr.out.2.2.2⟩⟩
              · have hnp' : 0 < n' := by omega
                have X0 := Lib.hid (Nat.pos_of_ne_zero (fun e => hx (hr.out.2.2.2.1.zero_iff.2 e)))
                have Y0 := Lib.hid (Nat.pos_of_ne_zero (fun e => hy (hr.out.2.2.2.2.1.zero_iff.2 e)))
                clear hx hy
                go_wp2
                go_loopw [0] (fun v wq => ∃ (A : Option Addr) (n c x' : Nat), v = .slice A n c ∧ Hid (Nat.gcd x' y = g ∧ 0 < x' ∧ x' ≤ x ∧ IsW wq A n x' ∧ IsW wq B n' y ∧ Below w.heap.size w wq)) (fun v wq => valS wq v)
                case atStart => exact ⟨A, n, c, x, rfl, Lib.hid ⟨hr.out.1, X0.out, Nat.le_refl _, hr.out.2.2.2⟩⟩
                case round =>
                  clear hn hnp
                  obtain ⟨A1, n1, c1, x1, rfl, h1⟩ := hrel
                  have XT := Lib.hid (Nat.lt_of_le_of_lt h1.out.2.2.1 hr.out.2.1)
                  have hn1 := h1.out.2.2.2.1.len XT.out
                  by_cases hx : x1 % 2 = 0
                  · have e1 := Lib.hid (show (x1 % 2 == 0) = true by rw [beq_iff_eq]; exact hx)
                    have HX := Lib.hid hx
                    clear hx
                    go_wp2_with fail
                    refine (weven_any A1 n1 c1 x1 true e1.out _ h1.out.2.2.2.1 (by omega)).mono ?_
                    rintro e w' ⟨rfl, rfl⟩
                    go_wp2_with fail
                    refine (wby_any A1 n1 c1 x1 2 (by omega) (by omega) (by omega) _ h1.out.2.2.2.1).mono ?_
                    rintro e w1 ⟨A2, n2, c2, rfl, hw2, hb2, -⟩
                    have H2 := Lib.hid (show IsW w1 A2 n2 (x1 / 2) ∧ IsW w1 B n' y ∧ Below w.heap.size w w1 from ⟨hw2, h1.out.2.2.2.2.1.below hb2, h1.out.2.2.2.2.2.trans (hb2.mono h1.out.2.2.2.2.2.size)⟩)
                    clear hw2 hb2
                    go_wp2
                    go_roundw
                    case rel => exact ⟨A2, n2, c2, x1 / 2, rfl, Lib.hid ⟨by rw [gcd_half_left HX.out (by rw [h1.out.1]; exact HO.out)]; exact h1.out.1, by have := h1.out.2.1; have := HX.out; omega, by have := h1.out.2.2.1; omega, H2.out⟩⟩
                    case measure =>
                      rw [H2.out.1.val, h1.out.2.2.2.1.val]
                      have := h1.out.2.1
                      omega
                  · have e1 := Lib.hid (show (x1 % 2 == 0) = false by rw [beq_eq_false_iff_ne]; exact hx)
                    clear hx
                    go_wp2_with fail
                    refine (weven_any A1 n1 c1 x1 false e1.out _ h1.out.2.2.2.1 (by omega)).mono ?_
                    rintro e w' ⟨rfl, rfl⟩
                    go_wp2
                    go_loopw [1] (fun v wq => ∃ (A : Option Addr) (n c y' : Nat), v = .slice A n c ∧ Hid (Nat.gcd x1 y' = g ∧ 0 < y' ∧ y' ≤ y ∧ IsW wq A n y' ∧ IsW wq A1 n1 x1 ∧ Below w.heap.size w wq)) (fun v wq => valS wq v)
                    case atStart => exact ⟨B, n', c', y, rfl, Lib.hid ⟨h1.out.1, Y0.out, Nat.le_refl _, h1.out.2.2.2.2.1, h1.out.2.2.2.1, h1.out.2.2.2.2.2⟩⟩
                    case round =>
                      clear hn' hnp'
                      obtain ⟨B1, n2, c2, y1, rfl, h2⟩ := hrel
                      have YT := Lib.hid (Nat.lt_of_le_of_lt h2.out.2.2.1 hr.out.2.2.1)
                      have hn2 := h2.out.2.2.2.1.len YT.out
                      by_cases hy : y1 % 2 = 0
                      · have e2 := Lib.hid (show (y1 % 2 == 0) = true by rw [beq_iff_eq]; exact hy)
                        have HY := Lib.hid hy
                        clear hy
                        go_wp2_with fail
                        refine (weven_any B1 n2 c2 y1 true e2.out _ h2.out.2.2.2.1 (by omega)).mono ?_
                        rintro e w' ⟨rfl, rfl⟩
                        go_wp2_with fail
                        refine (wby_any B1 n2 c2 y1 2 (by omega) (by omega) (by omega) _ h2.out.2.2.2.1).mono ?_
                        rintro e w1 ⟨A2, n3, c3, rfl, hw2, hb2, -⟩
                        have H2 := Lib.hid (show IsW w1 A2 n3 (y1 / 2) ∧ IsW w1 A1 n1 x1 ∧ Below w.heap.size w w1 from ⟨hw2, h2.out.2.2.2.2.1.below hb2, h2.out.2.2.2.2.2.trans (hb2.mono h2.out.2.2.2.2.2.size)⟩)
                        clear hw2 hb2
                        go_wp2
                        go_roundw
                        case rel => exact ⟨A2, n3, c3, y1 / 2, rfl, Lib.hid ⟨by rw [gcd_half_right HY.out (by rw [h2.out.1]; exact HO.out)]; exact h2.out.1, by have := h2.out.2.1; have := HY.out; omega, by have := h2.out.2.2.1; omega, H2.out⟩⟩
                        case measure =>
                          rw [H2.out.1.val, h2.out.2.2.2.1.val]
                          have := h2.out.2.1
                          omega
                      · have e2 := Lib.hid (show (y1 % 2 == 0) = false by rw [beq_eq_false_iff_ne]; exact hy)
                        clear hy
                        go_wp2_with fail
                        refine (weven_any B1 n2 c2 y1 false e2.out _ h2.out.2.2.2.1 (by omega)).mono ?_
                        rintro e w' ⟨rfl, rfl⟩
                        by_cases hle : y1 ≤ x1
                        · have hc1 : 0 ≤ cmpN x1 y1 := by rw [cmpN, if_neg (by omega)]; split <;> simp
                          obtain ⟨cc, hcc⟩ : ∃ cc, cc = cmpN x1 y1 := ⟨_, rfl⟩
                          rw [← hcc] at hc1
                          have HC1 := Lib.hid hcc
                          have HLE := Lib.hid hle
                          clear hcc hle
                          go_wp2_with fail
                          refine (wcompare_any A1 n1 c1 x1 B1 n2 c2 y1 (by omega) (by omega) _ h2.out.2.2.2.2.1 h2.out.2.2.2.1).mono ?_
                          rw [← HC1.out]
                          rintro e w1 ⟨rfl, hb1⟩
                          have H1 := Lib.hid (show IsW w1 A1 n1 x1 ∧ IsW w1 B1 n2 y1 ∧ Below w.heap.size w w1 from ⟨h2.out.2.2.2.2.1.below hb1, h2.out.2.2.2.1.below hb1, h2.out.2.2.2.2.2.trans (hb1.mono h2.out.2.2.2.2.2.size)⟩)
                          clear hb1
                          go_wp2_with fail
                          refine (wminus_any A1 n1 c1 x1 B1 n2 c2 y1 (by omega) h1.out.2.1 HLE.out _ H1.out.1 H1.out.2.1).mono ?_
                          rintro e w3 ⟨A3, n3, c3, rfl, hw3, hb3, -⟩
                          have H3 := Lib.hid (show IsW w3 A3 n3 (x1 - y1) ∧ IsW w3 B1 n2 y1 ∧ Below w.heap.size w w3 from ⟨hw3, H1.out.2.1.below hb3, H1.out.2.2.trans (hb3.mono H1.out.2.2.size)⟩)
                          clear hw3 hb3 H1
                          go_wp2
                          go_roundw
                          case rel => exact ⟨A3, n3, c3, B1, n2, c2, x1 - y1, y1, rfl, rfl, Lib.hid ⟨by rw [gcd_minus HLE.out]; exact h2.out.1, by have := XT.out; omega, YT.out, H3.out⟩⟩
                          case measure =>
                            rw [H3.out.1.val, H3.out.2.1.val, hr.out.2.2.2.1.val, hr.out.2.2.2.2.1.val]
                            have := h1.out.2.2.1
                            have := h2.out.2.1
                            have := h2.out.2.2.1
                            have := HLE.out
                            omega
                        · have hlt : x1 < y1 := by omega
                          have hc1 : cmpN x1 y1 = -1 := by rw [cmpN, if_pos hlt]
                          have HC1 := Lib.hid hc1
                          have HLE := Lib.hid (Nat.le_of_lt hlt)
                          have HLT := Lib.hid hlt
                          clear hc1 hlt hle
                          go_wp2_with fail
                          refine (wcompare_any A1 n1 c1 x1 B1 n2 c2 y1 (by omega) (by omega) _ h2.out.2.2.2.2.1 h2.out.2.2.2.1).mono ?_
                          rw [HC1.out]
                          rintro e w1 ⟨rfl, hb1⟩
                          have H1 := Lib.hid (show IsW w1 A1 n1 x1 ∧ IsW w1 B1 n2 y1 ∧ Below w.heap.size w w1 from ⟨h2.out.2.2.2.2.1.below hb1, h2.out.2.2.2.1.below hb1, h2.out.2.2.2.2.2.trans (hb1.mono h2.out.2.2.2.2.2.size)⟩)
                          clear hb1
                          go_wp2_with fail
                          refine (wminus_any B1 n2 c2 y1 A1 n1 c1 x1 (by omega) h2.out.2.1 HLE.out _ H1.out.2.1 H1.out.1).mono ?_
                          rintro e w3 ⟨A3, n3, c3, rfl, hw3, hb3, -⟩
                          have H3 := Lib.hid (show IsW w3 A1 n1 x1 ∧ IsW w3 A3 n3 (y1 - x1) ∧ Below w.heap.size w w3 from ⟨H1.out.1.below hb3, hw3, H1.out.2.2.trans (hb3.mono H1.out.2.2.size)⟩)
                          clear hw3 hb3 H1
                          go_wp2
                          go_roundw
                          case rel => exact ⟨A1, n1, c1, A3, n3, c3, x1, y1 - x1, rfl, rfl, Lib.hid ⟨by rw [Nat.gcd_comm, gcd_minus HLE.out, Nat.gcd_comm]; exact h2.out.1, XT.out, by have := YT.out; omega, H3.out⟩⟩
                          case measure =>
                            rw [H3.out.1.val, H3.out.2.1.val, hr.out.2.2.2.1.val, hr.out.2.2.2.2.1.val]
                            have := h1.out.2.1
                            have := h1.out.2.2.1
                            have := h2.out.2.2.1
                            have := HLT.out
                            omega
      case rest =>
        obtain ⟨A1, n1, c1, B1, n2, c2, x1, y1, rfl, rfl, hq⟩ := hcut
        have HG0 := Lib.hid (show 0 < g by
          have := Nat.gcd_pos_of_pos_left b HA0.out
          rcases Nat.eq_zero_or_pos g with e | e
          · rw [← HG.out, e] at this; simp at this
          · exact e)
        have HGT := Lib.hid (show Nat.gcd a b < topW from Nat.lt_of_le_of_lt (Nat.gcd_le_left _ HA0.out) HA.out)
        clear h1
        go_upto_if 46 with fail
        go_cut [0] (fun v wx => ∃ (A : Option Addr) (n c : Nat), v = .slice A n c ∧ Hid (IsW wx A n g ∧ Below w.heap.size w wx))
        case first =>
          rcases hq.out.1 with h | h
          · have hn1 : n1 = 0 := hq.out.2.1.zero_iff.2 h.1
            subst hn1
            have HY := Lib.hid h.2
            clear h
            go_wp2_with fail
            go_meet
            exact ⟨B1, n2, c2, rfl, Lib.hid ⟨HY.out ▸ hq.out.2.2.1, hq.out.2.2.2⟩⟩
          · have hn1 : 0 < n1 := Nat.pos_of_ne_zero (fun e => by have := hq.out.2.1.zero_iff.1 e; have := HG0.out; omega)
            have d0 : ((n1 : Int) == 0) = false := by rw [beq_eq_false_iff_ne]; omega
            have HX := Lib.hid h.1
            clear h
            go_wp2_with fail
            go_meet
            exact ⟨A1, n1, c1, rfl, Lib.hid ⟨HX.out ▸ hq.out.2.1, hq.out.2.2.2⟩⟩
        case rest =>
          clear hq
          obtain ⟨A2, n3, c3, rfl, hq⟩ := hcut
          go_wp2
          go_loopw [0, 5] (fun v t wr => ∃ (A : Option Addr) (n c j z : Nat), v = .slice A n c ∧ t = .int .i64 j ∧ j ≤ 2400 ∧ Hid (2 ^ j * z = Nat.gcd a b ∧ IsW wr A n z ∧ Below w.heap.size w wr)) (fun _ t _ => (intOf t).toNat)
          case atStart => exact ⟨A2, n3, c3, k, g, rfl, rfl, hk, Lib.hid ⟨HG.out, hq.out⟩⟩
          case round =>
            clear hq
            obtain ⟨A, n, c, j, z, rfl, rfl, hj, hr⟩ := hrel
            by_cases hz : j = 0
            · subst hz
              have hzz := hr.out.1
              rw [Nat.pow_zero, Nat.one_mul] at hzz
              have HZ := Lib.hid hzz
              clear hzz
              go_wp2
              go_ret
              exact ⟨A, n, c, rfl, HZ.out ▸ hr.out.2.1, hr.out.2.2⟩
            · obtain ⟨j', hj'⟩ : ∃ j', j = j' + 1 := ⟨j - 1, by omega⟩
              have he : (j : Int) - 1 = (j' : Int) := by omega
              have hjp : 0 < j := by omega
              have hjl : j' < j := by omega
              have hzt : z < topW := by
                have h1 := hr.out.1
                have h2 := HGT.out
                have : 1 * z ≤ 2 ^ j * z := Nat.mul_le_mul_right _ (Nat.pow_pos (by decide))
                omega
              have ZT := Lib.hid hzt
              have HE := Lib.hid (show 2 ^ j' * (z * 2) = Nat.gcd a b by rw [← hr.out.1, hj', Nat.pow_succ, Nat.mul_assoc, Nat.mul_comm z])
              clear hz hj' hzt
              go_wp2_with fail
              refine (wtimes_any A n c z 2 (by omega) ZT.out _ hr.out.2.1).mono ?_
              rintro e w1 ⟨A3, n4, c4, rfl, hw1, hb1, -⟩
              have H1 := Lib.hid (show IsW w1 A3 n4 (z * 2) ∧ Below w.heap.size w w1 from ⟨hw1, hr.out.2.2.trans (hb1.mono hr.out.2.2.size)⟩)
              clear hw1 hb1
              go_wp2
              go_roundw
              case rel => exact ⟨A3, n4, c4, j', z * 2, rfl, rfl, by omega, Lib.hid ⟨HE.out, H1.out⟩⟩
              case measure => simp [intOf]; omega
end Go.Proofs.Ytdgmpaijpjkeoaa
