/-
  THE NUMBER OF BITS.
-/
import Derived.Test.YtdgmpaijpjkeoaaNatD
import Derived.Test.YtdgmpaijpjkeoaaShelf
namespace Go.Proofs.Ytdgmpaijpjkeoaa
open Go.RowKit
theorem bits_aux : ∀ (f x : Nat), x < 2 ^ f → Bits x (Lib.bitLenAux f x)
  | 0, x, h => by
    have : x = 0 := by simpa using h
    subst this
    exact ⟨by decide, fun h => absurd h (by decide)⟩
  | f + 1, x, h => by
    unfold Lib.bitLenAux
    split
    · rename_i hx; subst hx
      exact ⟨by decide, fun h => absurd h (by decide)⟩
    · rename_i hx
      rw [Nat.pow_succ] at h
      obtain ⟨h1, h2⟩ := bits_aux f (x / 2) (by omega)
      refine ⟨by rw [Nat.add_comm, Nat.pow_succ]; omega, fun _ => ?_⟩
      rw [Nat.add_comm, Nat.add_sub_cancel]
      rcases Nat.eq_zero_or_pos (Lib.bitLenAux f (x / 2)) with e | e
      · rw [e]; simp; omega
      · have := h2 e
        obtain ⟨m, hm⟩ : ∃ m, Lib.bitLenAux f (x / 2) = m + 1 := ⟨_, (Nat.sub_add_cancel e).symm⟩
        rw [hm] at this ⊢
        rw [Nat.add_sub_cancel] at this
        rw [Nat.pow_succ]; omega
theorem bits_len (x : Nat) (h : x < 4294967296) : Bits x (Lib.bitLen x) := bits_aux 64 x (Nat.lt_trans h (by decide))
theorem bits_shift {x L k : Nat} (h : Bits (x / 2 ^ k) L) (hx : 0 < x / 2 ^ k) : Bits x (L + k) := by
  have hL := h.pos hx
  have h1 := h.1
  have h2 := h.2 hL
  refine ⟨?_, fun _ => ?_⟩
  · rw [Nat.pow_add, ← Nat.div_lt_iff_lt_mul (Nat.pow_pos (by decide))]; exact h1
  · rw [show L + k - 1 = L - 1 + k by omega, Nat.pow_add]
    exact (Nat.le_div_iff_mul_le (Nat.pow_pos (by decide))).1 h2
theorem pow32 (k : Nat) : 4294967296 ^ k = 2 ^ (32 * k) := by rw [Nat.pow_mul]
theorem bits_word {a k : Nat} (h : a / 4294967296 ^ (k + 1) = 0) (hd : dg a k ≠ 0) : Bits a (32 * k + Lib.bitLen (dg a k)) := by
  have e : a / 4294967296 ^ k = dg a k := by
    unfold dg
    rw [Nat.pow_succ, ← Nat.div_div_eq_div_mul] at h
    omega
  have hb := bits_len (dg a k) (dg_lt a k)
  rw [Nat.add_comm]
  apply bits_shift
  · rw [← pow32, e]; exact hb
  · rw [← pow32, e]; omega
theorem len_bd {a L : Nat} (h : Bits a L) (ha : a < 4294967296 ^ 20) : L ≤ 640 := by
  have := pow32 20
  rcases Nat.lt_or_ge 640 L with g | g
  · have h2 := h.2 (by omega)
    have := Nat.pow_le_pow_right (show 0 < 2 by decide) (show 640 ≤ L - 1 by omega)
    omega
  · exact g
set_option maxRecDepth 100000 in
set_option maxHeartbeats 400000 in
theorem nat_length (a : Nat) (ha : a < 4294967296 ^ 20) (w : World) :
    Calls Try.prog 113 #[natV a] w fun e w' => (∃ L : Nat, e = .returned (.int .i64 L) ∧ Bits a L ∧ L ≤ 640) ∧ Below w.heap.size w w' := by
  unfold natV
  obtain ⟨c, hc⟩ : ∃ c, c = natC a := ⟨_, rfl⟩
  rw [← hc]
  have HC := Lib.hid hc
  have hcs : c.size = 20 := by rw [hc]; exact natC_size _
  have HT := Lib.hid (top_zero ha)
  have HLB := Lib.hid (fun L (h : Bits a L) => len_bd h ha)
  clear hc ha
  go_enter Try.func113, Try.ntmps113
  go_wp2
  go_loopw [3] (fun i wr => ∃ k : Nat, i = .int .i64 ((k : Int) - 1) ∧ k ≤ 20 ∧ Hid (a / 4294967296 ^ k = 0) ∧ wr = w.alloc (.cells c 77)) (fun i _ => (intOf i + 1).toNat)
  case atStart => exact ⟨20, rfl, by omega, HT, rfl⟩
  case round =>
    obtain ⟨k, rfl, hk, hu, rfl⟩ := hrel
    cases k with
    | zero =>
      have hab : a = 0 := by have := hu.out; simpa using this
      have HAB := Lib.hid (show Bits a 0 by rw [hab]; exact ⟨by decide, fun h => absurd h (by decide)⟩)
      clear hab
      go_wp2
      go_ret
      exact ⟨⟨0, rfl, HAB.out, by omega⟩, (by repeat' (first | (with_reducible exact Below.refl _ _) | (with_reducible assumption) | (with_reducible refine below_drewN ?_ _) | (with_reducible refine below_step (by assumption) ?_ ?_) | (with_reducible refine Below.alloc ?_ ?_ _) | (with_reducible refine Below.setCell ?_ ?_ _) | (with_reducible refine Below.drew ?_) | go_size | (exact Below.size (by assumption)) | (refine Nat.le_trans (Below.size (by assumption)) ?_)))⟩
    | succ k =>
      rw [show ((k + 1 : Nat) : Int) - 1 = (k : Int) by omega]
      have hk2 : k < 20 := by omega
      obtain ⟨d, hd⟩ : ∃ d, d = dg a k := ⟨_, rfl⟩
      have hd2 : d < 4294967296 := by rw [hd]; exact dg_lt _ _
      have hq : c[k] = .int .u32 d := Option.some.inj ((Array.getElem?_eq_getElem (by omega)).symm.trans (by rw [HC.out, hd]; exact natC_at hk2))
      have HD := Lib.hid hd
      clear hd
      by_cases h0 : d = 0
      · have HU := Lib.hid ((up_same (b := 0) (by rw [hu.out]; simp) (by rw [← HD.out, h0]; simp [dg])).trans (Nat.zero_div _) : a / 4294967296 ^ k = 0)
        have q1 : ((d : Int) == 0) = true := by rw [h0]; rfl
        have q2 : ((d : Int) != 0) = false := by rw [h0]; rfl
        clear h0
        go_wp2
        go_roundw
        case rel => exact ⟨k, by go_num, by omega, HU, trivial⟩
        case measure => simp [intOf]
      · have hb := bits_word hu.out (by rw [← HD.out]; exact h0)
        rw [← HD.out] at hb
        have hl := HLB.out _ hb
        have HB := Lib.hid hb
        obtain ⟨l, hll⟩ : ∃ l, l = Lib.bitLen d := ⟨_, rfl⟩
        rw [← hll] at hl HB
        have HLL := Lib.hid hll
        have q1 : ((d : Int) == 0) = false := by rw [beq_eq_false_iff_ne]; omega
        have q2 : ((d : Int) != 0) = true := by rw [bne_iff_ne]; omega
        clear h0 hb hll
        go_wp2_with fail
        refine (Try.bits_Len32 d _ (by omega) (by omega)).mono ?_
        rintro e w' ⟨rfl, rfl⟩
        rw [Int.toNat_natCast, ← HLL.out]
        go_wp2
        go_ret
        exact ⟨⟨32 * k + l, by go_num, HB.out, hl⟩, (by repeat' (first | (with_reducible exact Below.refl _ _) | (with_reducible assumption) | (with_reducible refine below_drewN ?_ _) | (with_reducible refine below_step (by assumption) ?_ ?_) | (with_reducible refine Below.alloc ?_ ?_ _) | (with_reducible refine Below.setCell ?_ ?_ _) | (with_reducible refine Below.drew ?_) | go_size | (exact Below.size (by assumption)) | (refine Nat.le_trans (Below.size (by assumption)) ?_)))⟩
end Go.Proofs.Ytdgmpaijpjkeoaa
