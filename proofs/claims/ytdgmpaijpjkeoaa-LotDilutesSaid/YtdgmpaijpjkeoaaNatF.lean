/-
  NATURALS OF TWENTY WORDS: minus.
-/
import Derived.Test.YtdgmpaijpjkeoaaNatC
import Derived.Deep.RegionWith
namespace Go.Proofs.Ytdgmpaijpjkeoaa
open Go.RowKit
theorem top_bit {x : Nat} (h : x < 4294967296) : x.testBit 31 = decide (2147483648 ≤ x) := by
  rw [Nat.testBit_eq_decide_div_mod_eq]
  rw [Bool.eq_iff_iff]; simp; omega
theorem shr_top {x : Nat} (h : x < 4294967296) : x / 2147483648 = (x.testBit 31).toNat := by
  rw [top_bit h]
  by_cases g : 2147483648 ≤ x
  · rw [decide_eq_true g]; simp; omega
  · rw [decide_eq_false g]; simp; omega
theorem borrow_bit {x y b : Nat} (hx : x < 4294967296) (hy : y < 4294967296) (hb : b ≤ 1) :
    (((4294967295 - x) &&& y) ||| ((4294967295 - (x ^^^ y)) &&& ((x + 4294967296 - y - b) % 4294967296))) / 2147483648 = if x < y + b then 1 else 0 := by
  have hxy : x ^^^ y < 4294967296 := Nat.xor_lt_two_pow (n := 32) hx hy
  have h1 : ((4294967295 - x) &&& y) < 4294967296 := Nat.lt_of_le_of_lt Nat.and_le_right hy
  have h2 : ((4294967295 - (x ^^^ y)) &&& ((x + 4294967296 - y - b) % 4294967296)) < 4294967296 := Nat.lt_of_le_of_lt Nat.and_le_right (Nat.mod_lt _ (by decide))
  have hc : ∀ z, z < 4294967296 → (4294967295 - z).testBit 31 = !z.testBit 31 := fun z hz => by
    rw [top_bit (show 4294967295 - z < 4294967296 by omega), top_bit hz]
    by_cases g : 2147483648 ≤ z
    · rw [decide_eq_true g, decide_eq_false (by omega)]; rfl
    · rw [decide_eq_false g, decide_eq_true (by omega)]; rfl
  rw [shr_top (Nat.or_lt_two_pow (n := 32) h1 h2), Nat.testBit_or, Nat.testBit_and, Nat.testBit_and, hc x hx, hc _ hxy, Nat.testBit_xor, top_bit hx, top_bit hy, top_bit (Nat.mod_lt _ (by decide))]
  by_cases gx : 2147483648 ≤ x <;> by_cases gy : 2147483648 ≤ y <;> simp only [gx, gy, decide_true, decide_false, Bool.not_true, Bool.not_false, Bool.true_and, Bool.false_and, Bool.or_false, Bool.false_or, Bool.xor_true, Bool.xor_false]
  · by_cases g : 2147483648 ≤ (x + 4294967296 - y - b) % 4294967296
    · rw [decide_eq_true g, if_pos (by omega)]; rfl
    · rw [decide_eq_false g, if_neg (by omega)]; rfl
  · rw [if_neg (by omega)]; rfl
  · rw [if_pos (by omega)]; rfl
  · by_cases g : 2147483648 ≤ (x + 4294967296 - y - b) % 4294967296
    · rw [decide_eq_true g, if_pos (by omega)]; rfl
    · rw [decide_eq_false g, if_neg (by omega)]; rfl
theorem xor_all {x : Nat} (h : x < 4294967296) : 4294967295 ^^^ x = 4294967295 - x := by
  apply Nat.eq_of_testBit_eq
  intro i
  have e := Nat.testBit_two_pow_sub_succ (n := 32) h i
  rw [show 4294967295 - x = 2 ^ 32 - (x + 1) by omega, e, Nat.testBit_xor, show (4294967295 : Nat) = 2 ^ 32 - 1 by decide, Nat.testBit_two_pow_sub_one]
  by_cases hi : i < 32
  · simp [hi]
  · simp [hi]
    exact Nat.testBit_lt_two_pow (Nat.lt_of_lt_of_le (show x < 2 ^ 32 by omega) (Nat.pow_le_pow_right (by decide) (by omega)))
theorem sub_bits {x y b : Nat} (hx : x < 4294967296) (hy : y < 4294967296) (hb : b ≤ 1) :
    bits BinOp.or .u32 (bits BinOp.and .u32 (bits BinOp.xor .u32 IntKind.u32.max x) y) (bits BinOp.and .u32 (bits BinOp.xor .u32 IntKind.u32.max (bits BinOp.xor .u32 x y)) (((x : Int) - y - b) % 4294967296)) / 2147483648 = ((if x < y + b then 1 else 0 : Nat) : Int) := by
  have hxy : x ^^^ y < 4294967296 := Nat.xor_lt_two_pow (n := 32) hx hy
  have h1 : ((4294967295 - x) &&& y) < 4294967296 := Nat.lt_of_le_of_lt Nat.and_le_right hy
  have h2 : ((4294967295 - (x ^^^ y)) &&& ((x + 4294967296 - y - b) % 4294967296)) < 4294967296 := Nat.lt_of_le_of_lt Nat.and_le_right (Nat.mod_lt _ (by decide))
  rw [show IntKind.u32.max = ((4294967295 : Nat) : Int) by decide, show ((x : Int) - y - b) % 4294967296 = (((x + 4294967296 - y - b) % 4294967296 : Nat) : Int) by omega,
    u32_xor_nat _ _ (by decide) hx, xor_all hx, u32_and_nat _ _ (by omega) hy, u32_xor_nat _ _ hx hy, u32_xor_nat _ _ (by decide) hxy, xor_all hxy, u32_and_nat _ _ (by omega) (Nat.mod_lt _ (by decide)), u32_or_nat _ _ h1 h2]
  have := borrow_bit hx hy hb
  omega
set_option maxRecDepth 100000 in
set_option maxHeartbeats 400000 in
theorem sub32_any (x y b D C : Nat) (hx : x < 4294967296) (hy : y < 4294967296) (hb : b ≤ 1) (hD : D = (x + 4294967296 - y - b) % 4294967296) (hC : C = if x < y + b then 1 else 0) (w : World) :
    Calls Try.prog 118 #[.int .u32 x, .int .u32 y, .int .u32 b] w fun e w' => e = .returned (.tuple #[.int .u32 D, .int .u32 C]) ∧ w = w' := by
  have e1 : (D : Int) = ((x : Int) - y - b) % 4294967296 := by rw [hD]; omega
  have e2 := sub_bits hx hy hb
  rw [← hC] at e2
  have E1 := Lib.hid e1
  have E2 := Lib.hid e2
  clear e1 e2 hD hC
  go_enter Try.func118, Try.ntmps118
  go_wp2
  refine bodyPost_ret (v := .tuple #[.int .u32 D, .int .u32 C]) ?_ rfl ⟨rfl, rfl⟩
  rw [E1.out, ← E2.out]
  simp only [results, Try.results118]
  go_simp
attribute [local go_sem] grow_cell grow_frozen
set_option maxRecDepth 100000 in
set_option maxHeartbeats 400000 in
theorem nat_minus (a b : Nat) (hba : b ≤ a) (w : World) :
    Calls Try.prog 111 #[natV a, natV b] w fun e w' => e = .returned (natV (a - b)) ∧ Below w.heap.size w w' := by
  unfold natV
  obtain ⟨c, hc⟩ : ∃ c, c = natC a := ⟨_, rfl⟩
  obtain ⟨f, hf⟩ : ∃ e, e = natC b := ⟨_, rfl⟩
  rw [← hc, ← hf]
  have HC := Lib.hid hc
  have HE := Lib.hid hf
  have HBA := Lib.hid hba
  clear hc hf hba
  go_enter Try.func111, Try.ntmps111
  go_wp2
  rw [natZ]
  obtain ⟨z, hz⟩ : ∃ z, z = natC 0 := ⟨_, rfl⟩
  rw [← hz]
  have HZ := Lib.hid hz
  clear hz
  go_loopw [5, 7] (fun v i wr => ∃ k : Nat, v = .int .u32 (cyM a b k) ∧ i = .int .i64 k ∧ k ≤ 20 ∧ Hid (NB wr w.heap.size (mixC (a - b) a k) ∧ NB wr (w.heap.size + 1) f ∧ NB wr (w.heap.size + 1 + 1) z ∧ Below w.heap.size w wr)) (fun _ i _ => 20 - (intOf i).toNat)
  case atStart => exact ⟨0, by rw [cyM_zero]; rfl, rfl, by omega, by rw [mixC_zero, ← HC.out]; exact hp2 _ _ _ _, hp21 _ _ _ _, hp22 _ _ _ _, (by repeat' (first | (with_reducible exact Below.refl _ _) | (with_reducible assumption) | (with_reducible refine below_drewN ?_ _) | (with_reducible refine below_step (by assumption) ?_ ?_) | (with_reducible refine Below.alloc ?_ ?_ _) | (with_reducible refine Below.setCell ?_ ?_ _) | (with_reducible refine Below.drew ?_) | go_size | (exact Below.size (by assumption)) | (refine Nat.le_trans (Below.size (by assumption)) ?_)))⟩
  case round =>
    obtain ⟨k, rfl, rfl, hk, hr⟩ := hrel
    have hsz := hr.out.2.1.lt
    have hsz0 := hr.out.1.lt
    by_cases hlt : k < 20
    · obtain ⟨d, hd⟩ : ∃ d, d = dg a k := ⟨_, rfl⟩
      have hd2 : d < 4294967296 := by rw [hd]; exact dg_lt _ _
      obtain ⟨x, hx⟩ : ∃ x, x = dg b k := ⟨_, rfl⟩
      have hx2 : x < 4294967296 := by rw [hx]; exact dg_lt _ _
      obtain ⟨cy, hcy⟩ : ∃ cy, cy = cyM a b k := ⟨_, rfl⟩
      rw [← hcy]
      have hcy2 : cy ≤ 1 := by rw [hcy]; unfold cyM; split <;> omega
      have hq : wr.cell? ⟨w.heap.size, k, none⟩ = some (.int .u32 d) := by rw [hr.out.1.cell, hd]; exact mixC_get hlt (Nat.le_refl _)
      have hf1 : wr.frozen? ⟨w.heap.size, k, none⟩ = false := hr.out.1.free k
      have hq2 : wr.cell? ⟨w.heap.size + 1, k, none⟩ = some (.int .u32 x) := by rw [hr.out.2.1.cell, HE.out, hx]; exact natC_at hlt
      have hf2 : wr.frozen? ⟨w.heap.size + 1, k, none⟩ = false := hr.out.2.1.free k
      obtain ⟨D, hD⟩ : ∃ D, D = (d + 4294967296 - x - cy) % 4294967296 := ⟨_, rfl⟩
      obtain ⟨C, hC⟩ : ∃ C, C = if d < x + cy then 1 else 0 := ⟨_, rfl⟩
      have HD := Lib.hid hD
      have HCC := Lib.hid hC
      have e1 : C = cyM a b (k + 1) := by rw [cyM_step, ← hcy, ← hd, ← hx]; exact hC
      have e2 : (mixC (a - b) a k).setIfInBounds k (.int .u32 D) = mixC (a - b) a (k + 1) := by
        rw [← mixC_set hlt, dg_sub HBA.out, ← hcy, ← hd, ← hx, hD]
      have E1 := Lib.hid e1
      have E2 := Lib.hid e2
      clear hd hx hcy hD hC e1 e2
      go_wp2
      go_region_with ((go_at_call 118; refine (sub32_any d x cy D C hd2 hx2 hcy2 HD.out HCC.out _).mono ?_; rintro e w' ⟨rfl, rfl⟩))
      all_goals
        go_wp2
        go_roundw
        case rel => exact ⟨k + 1, by rw [E1.out], by go_num, by omega, by rw [← E2.out]; exact hr.out.1.set _ _, hr.out.2.1.other (by simp) _, hr.out.2.2.1.other (by simp; omega) _, (hr.out.2.2.2.setCell (by simp) _).drew⟩
        case measure => simp [intOf]; omega
    · obtain rfl : k = 20 := by omega
      have hr := hr
      rw [mixC_all] at hr
      obtain ⟨m, hm⟩ : ∃ m, m = natC (a - b) := ⟨_, rfl⟩
      rw [← hm] at hr
      have hms : m.size = 20 := by rw [hm]; exact natC_size _
      have hzs : z.size = 20 := by rw [HZ.out]; exact natC_size _
      have HM := Lib.hid hm
      clear hm
      go_wp2_with (first | refine wpList_load_row rfl 77 _ rfl _ rfl 77 _ (0, 0) _ hr.out.1 Try.underlying77 rfl (natSz _ hms) ?_ | refine wpList_store_row rfl 77 _ _ rfl _ _ rfl rfl 77 _ hr.out.2.2.1 (natSz _ hms) (by rw [hzs, hms]) (by rw [HM.out]; exact natC_one _) ?_)
      refine bodyPost_ret (v := .agg m) (results_cell_row rfl _ _ (w.heap.size + 1 + 1) 77 m (0, 0) _ rfl (hr.out.2.2.1.row _) Try.underlying77 rfl (natSz _ hms)) rfl ⟨by rw [HM.out], below_setRow hr.out.2.2.2 (by omega) _⟩
end Go.Proofs.Ytdgmpaijpjkeoaa
