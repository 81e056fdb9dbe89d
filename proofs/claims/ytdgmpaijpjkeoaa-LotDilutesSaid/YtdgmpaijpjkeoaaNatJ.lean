/-
  NATURALS OF TWENTY WORDS: division.
-/
import Derived.Test.YtdgmpaijpjkeoaaNatI
namespace Go.Proofs.Ytdgmpaijpjkeoaa
open Go.RowKit
attribute [local go_sem] grow_cell grow_frozen
/-- The number of bits. -/
def bitsN (a : Nat) : Nat := if a = 0 then 0 else a.log2 + 1
theorem bitsN_bits (a : Nat) : Bits a (bitsN a) := by
  unfold bitsN
  split
  · rename_i h; subst h; exact ⟨by decide, fun h => absurd h (by decide)⟩
  · rename_i h
    exact ⟨Nat.lt_log2_self, fun _ => by rw [Nat.add_sub_cancel]; exact Nat.log2_self_le h⟩
theorem nat_length' (a L : Nat) (hL : L = bitsN a) (ha : a < 4294967296 ^ 20) (w : World) :
    Calls Try.prog 113 #[natV a] w fun e w' => e = .returned (.int .i64 L) ∧ Below w.heap.size w w' :=
  (nat_length a ha w).mono fun e w' ⟨⟨M, he, hM, _⟩, hb⟩ => ⟨by rw [he, hM.unique (bitsN_bits a), hL], hb⟩
theorem bitsN_le {a : Nat} (ha : a < 4294967296 ^ 20) : bitsN a ≤ 640 := len_bd (bitsN_bits a) ha
/-- What over returns. -/
def ovq (a b : Nat) : Int := if bitsN b + 60 < bitsN a then 0 else ((a / b : Nat) : Int)
def ovf (a b : Nat) : Bool := !decide (bitsN b + 60 < bitsN a)
/-- The blocks of over. -/
structure G2 (w W : World) (x y : Nat) : Prop where
  a : NatB W w.heap.size x
  b : NatB W (w.heap.size + 1) y
  h : Below w.heap.size w W
theorem G2.keep {w W W' : World} {x y : Nat} (h : G2 w W x y) (hb : Below W.heap.size W W') : G2 w W' x y := ⟨h.a.keep hb, h.b.keep hb, h.h.trans (hb.mono h.h.size)⟩
theorem G2.setA {w W W' : World} {x y x' : Nat} (h : G2 w W x y) (hn : NatB W' w.heap.size x') (hg : W.grownBy W' (some w.heap.size)) : G2 w W' x' y := ⟨hn, h.b.grown hg (by simp), below_grown h.h hg (by omega) h.h.size⟩
theorem G2.other {w W W' : World} {x y b : Nat} (h : G2 w W x y) (hb : w.heap.size + 1 < b) (hg : W.grownBy W' (some b)) : G2 w W' x y := ⟨h.a.grown hg (by simp; omega), h.b.grown hg (by simp; omega), below_grown h.h hg (by omega) h.h.size⟩
theorem over_q {A b q x c S : Nat} (h : A = q * (2 ^ c * b) + x) (hA : A < 2 ^ (S + 1) * b) (_hc : c ≤ S + 1) (hS : S ≤ 60) : (q : Int) ≤ 2305843009213693952 := by
  have h1 : q * 2 ^ c * b ≤ A := by rw [h, Nat.mul_assoc]; omega
  have h2 : q * 2 ^ c < 2 ^ (S + 1) := by
    rcases Nat.lt_or_ge (q * 2 ^ c) (2 ^ (S + 1)) with g | g
    · exact g
    · have := Nat.mul_le_mul_right b g; omega
  have h3 : q * 1 ≤ q * 2 ^ c := Nat.mul_le_mul_left _ (Nat.pow_pos (by decide))
  have h4 : 2 ^ (S + 1) ≤ 2 ^ 61 := Nat.pow_le_pow_right (by decide) (by omega)
  have h5 : (2 : Nat) ^ 61 = 2305843009213693952 := by decide
  omega
set_option maxRecDepth 100000 in
set_option maxHeartbeats 1000000 in
theorem nat_over (a b : Nat) (ha : a < 4294967296 ^ 20) (hb : b < 4294967296 ^ 20) (hb0 : 0 < b) (hab : b ≤ a) (w : World) :
    Calls Try.prog 86 #[natV a, natV b] w fun e w' => e = .returned (.tuple #[.int .i64 (ovq a b), .bool (ovf a b)]) ∧ Below w.heap.size w w' := by
  have hl1 := bitsN_le ha
  have hl2 := (bitsN_bits b).mono (bitsN_bits a) hab
  have HA := Lib.hid ha
  have HB := Lib.hid hb
  have HB0 := Lib.hid hb0
  clear ha hb hb0 hab
  obtain ⟨L, hL⟩ : ∃ L, L = bitsN a := ⟨_, rfl⟩
  obtain ⟨M, hM⟩ : ∃ M, M = bitsN b := ⟨_, rfl⟩
  rw [← hL] at hl1 hl2
  rw [← hM] at hl2
  have HL := Lib.hid hL
  have HM := Lib.hid hM
  have hq : ovq a b = if M + 60 < L then 0 else ((a / b : Nat) : Int) := by unfold ovq; rw [hL, hM]
  have hf : ovf a b = !decide (M + 60 < L) := by unfold ovf; rw [hL, hM]
  have HQ := Lib.hid hq
  have HF := Lib.hid hf
  clear hL hM hq hf
  unfold natV
  obtain ⟨c, hc⟩ : ∃ c, c = natC a := ⟨_, rfl⟩
  obtain ⟨f, hf⟩ : ∃ f, f = natC b := ⟨_, rfl⟩
  rw [← hc, ← hf]
  have HC := Lib.hid hc
  have HFF := Lib.hid hf
  clear hc hf
  go_enter Try.func86, Try.ntmps86
  go_wp2
  rw [HC.out, HFF.out]
  obtain ⟨W, hW⟩ : ∃ W, W = (w.alloc (.cells (natC a) 77)).alloc (.cells (natC b) 77) := ⟨_, rfl⟩
  rw [← hW]
  have h0 : Hid (G2 w W a b) := by rw [hW]; exact ⟨hp1 _ _ _, hp11 _ _ _, (by repeat' (first | (with_reducible exact Below.refl _ _) | (with_reducible assumption) | (with_reducible refine below_drewN ?_ _) | (with_reducible refine below_step (by assumption) ?_ ?_) | (with_reducible refine Below.alloc ?_ ?_ _) | (with_reducible refine Below.setCell ?_ ?_ _) | (with_reducible refine Below.drew ?_) | go_size | (exact Below.size (by assumption)) | (refine Nat.le_trans (Below.size (by assumption)) ?_)))⟩
  clear hW
  refine region_grow (by kernel_rfl) (by kernel_rfl) ?_
  repeat (first | (go_big_quiet_want; (first | refine quiet_ld_nat _ rfl _ _ rfl h0.out.a.inGrow ?_ | refine quiet_ld_nat _ rfl _ _ rfl h0.out.b.inGrow ?_); go_simp; go_big_quiet_on) | go_big_quiet_step ((go_at_call 113; first | (with_reducible exact grow_call (nat_length' a L HL.out HA.out _)) | (with_reducible exact grow_call (nat_length' b M HM.out HB.out _)))))
  refine wpQuiet_nil ?_
  rintro w1 ⟨xg, hxg⟩
  have hb1 := below_grow W xg
  rw [← hxg] at hb1
  clear hxg xg
  have g1 := Lib.hid (h0.out.keep hb1)
  clear hb1 h0
  by_cases hbig : M + 60 < L
  · have HQ2 := Lib.hid (HQ.out.trans (if_pos hbig))
    have HF2 := Lib.hid (HF.out.trans (by rw [decide_eq_true hbig]; rfl : _ = false))
    have hd : decide ((60 : Int) < (L : Int) - M) = true := decide_eq_true (by omega)
    go_wp2
    go_ret2
    exact ⟨by rw [HQ2.out, HF2.out]; rfl, g1.out.h⟩
  · have HQ2 := Lib.hid (HQ.out.trans (if_neg hbig))
    have HF2 := Lib.hid (HF.out.trans (by rw [decide_eq_false hbig]; rfl : _ = true))
    have hd : decide ((60 : Int) < (L : Int) - M) = false := decide_eq_false (by omega)
    obtain ⟨S, hS⟩ : ∃ S, S = L - M := ⟨_, rfl⟩
    have hLM : (L : Int) - M = (S : Int) := by omega
    have hS60 : S ≤ 60 := by omega
    have AL := Lib.hid (div_start (by rw [HL.out]; exact bitsN_bits a : Bits a L) HB0.out (by rw [HM.out]; exact bitsN_bits b) hl2)
    rw [← hS] at AL
    have HS := Lib.hid hS
    rw [hLM] at hd ⊢
    clear hS hLM
    go_wp2
    go_loopw [6, 7] (fun t v wr => ∃ c q x : Nat, t = .int .i64 ((c : Int) - 1) ∧ v = .int .i64 q ∧ c ≤ S + 1 ∧ Hid (a = q * (2 ^ c * b) + x ∧ x < 2 ^ c * b ∧ G2 w wr x b)) (fun t _ _ => (intOf t + 1).toNat)
    case atStart => exact ⟨S + 1, 0, a, by go_num, rfl, by omega, by rw [Nat.zero_mul, Nat.zero_add]; exact ⟨rfl, AL.out, g1.out⟩⟩
    case round =>
      obtain ⟨c, q, x, rfl, rfl, hc, hr⟩ := hrel
      cases c with
      | zero =>
        have hqq := div_end HB0.out hr.out.1 hr.out.2.1
        have HQQ := Lib.hid hqq
        clear hqq
        go_wp2
        go_ret2
        exact ⟨by rw [HQ2.out, HF2.out, HQQ.out]; rfl, hr.out.2.2.h⟩
      | succ c =>
        rw [show ((c + 1 : Nat) : Int) - 1 = (c : Int) by omega]
        have hq := over_q hr.out.1 AL.out hc hS60
        have hXB := Lib.hid (show x < 4294967296 ^ 20 by have := hr.out.1; have := HA.out; omega)
        have hds := div_step hr.out.1 hr.out.2.1
        have hcb : 2 ^ c * b < 4294967296 ^ 20 := by
          obtain ⟨p, hp, hp2⟩ : ∃ p, 4294967296 ^ 20 = 2 ^ p ∧ 640 ≤ p := ⟨32 * 20, pow32 20, by decide⟩
          rw [hp]
          exact Nat.lt_of_lt_of_le (div_room (by rw [HM.out]; exact bitsN_bits b) hl2 c (by rw [← HS.out]; omega)) (Nat.pow_le_pow_right (by decide) (by omega))
        obtain ⟨D, hD⟩ : ∃ D, D = 2 ^ c * b := ⟨_, rfl⟩
        rw [← hD] at hds hcb
        have HD := Lib.hid hD
        have HCB := Lib.hid hcb
        have HDS := Lib.hid hds
        clear hD hcb hds
        go_wp2_with (first | (refine ld_nat rfl _ rfl _ _ rfl hr.out.2.2.b ?_))
        refine (nat_double b c (by omega) _).mono ?_
        rw [← HD.out]
        rintro e w2 ⟨rfl, hb2⟩
        have g2 := Lib.hid (hr.out.2.2.keep hb2)
        clear hb2
        have hz : NatB (w2.alloc (.cells (natC 0) 77)) w2.heap.size 0 := NB.new _ _
        rw [← natZ] at hz
        have HZ := Lib.hid hz
        have g3 := Lib.hid (g2.out.keep ((Below.refl _ _).alloc (Nat.le_refl _) (.cells (natC 0) 77)))
        rw [← natZ] at g3
        have hsz := g2.out.b.lt
        clear hz
        go_wp2_with (first | (refine st_nat rfl _ _ rfl rfl _ _ _ rfl rfl HZ.out ?_; intro w4 hn4 hg4; have g4 := Lib.hid (g3.out.other (by omega) hg4); have n4 := Lib.hid hn4) | (refine ld_nat rfl _ rfl _ _ rfl g4.out.a ?_) | (refine ld_nat rfl _ rfl _ _ rfl n4.out ?_))
        have XD := Lib.hid hXB
        clear hXB
        by_cases hge : D ≤ x
        · have hc1 : 0 ≤ cmpN x D := by rw [cmpN, if_neg (by omega)]; split <;> simp
          obtain ⟨cc, hcc⟩ : ∃ cc, cc = cmpN x D := ⟨_, rfl⟩
          rw [← hcc] at hc1
          have HCC := Lib.hid hcc
          have HGE := Lib.hid hge
          clear hcc hge
          refine (nat_compare x D XD.out HCB.out _).mono ?_
          rw [← HCC.out]
          rintro e w5 ⟨rfl, hb5⟩
          have g5 := Lib.hid (g4.out.keep hb5)
          have n5 := Lib.hid (n4.out.keep hb5)
          clear hb5
          go_wp2_with (first | (refine ld_nat rfl _ rfl _ _ rfl g5.out.a ?_) | (refine ld_nat rfl _ rfl _ _ rfl n5.out ?_))
          refine (nat_minus x D HGE.out _).mono ?_
          rintro e w6 ⟨rfl, hb6⟩
          have g6 := Lib.hid (g5.out.keep hb6)
          clear hb6
          go_wp2_with (first | (refine st_nat rfl _ _ rfl rfl _ _ _ rfl rfl g6.out.a ?_; intro w7 hnw7 hgw7; have g7 := Lib.hid (g6.out.setA hnw7 hgw7)))
          go_roundw
          case rel => exact ⟨c, 2 * q + 1, x - D, by go_num, by go_num, by omega, Lib.hid ⟨by rw [← HD.out]; exact (HDS.out.1 HGE.out).1, by rw [← HD.out]; exact (HDS.out.1 HGE.out).2, g7.out⟩⟩
          case measure => simp [intOf]
        · have hc1 : cmpN x D = -1 := by rw [cmpN, if_pos (by omega)]
          have HCC := Lib.hid hc1
          have HLT := Lib.hid (Nat.lt_of_not_le hge)
          clear hc1 hge
          refine (nat_compare x D XD.out HCB.out _).mono ?_
          rw [HCC.out]
          rintro e w5 ⟨rfl, hb5⟩
          have g5 := Lib.hid (g4.out.keep hb5)
          clear hb5
          go_wp2
          go_roundw
          case rel => exact ⟨c, 2 * q, x, by go_num, by go_num, by omega, Lib.hid ⟨by rw [← HD.out]; exact HDS.out.2 HLT.out, by rw [← HD.out]; exact HLT.out, g5.out⟩⟩
          case measure => simp [intOf]
end Go.Proofs.Ytdgmpaijpjkeoaa
