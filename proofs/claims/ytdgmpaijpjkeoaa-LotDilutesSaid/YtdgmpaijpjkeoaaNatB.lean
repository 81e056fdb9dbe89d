/-
  NATURALS OF TWENTY WORDS: plus.
-/
import Derived.Test.YtdgmpaijpjkeoaaNatA
namespace Go.Proofs.Ytdgmpaijpjkeoaa
open Go.RowKit
theorem set3 (w : World) (c : Array Value) (t : TypeId) (o p : Obj) (k n : Nat) (v : Value) :
    ((((w.alloc (.cells c t)).alloc o).alloc p).drewN n).setCell ⟨w.heap.size, k, none⟩ v = (((w.alloc (.cells (c.setIfInBounds k v) t)).alloc o).alloc p).drewN n := by
  show ((((w.alloc (.cells c t)).alloc o).alloc p).setCell ⟨w.heap.size, k, none⟩ v).drewN n = _
  rw [World.setCell_alloc_past _ _ _ _ (by simp; omega), World.setCell_alloc_past _ _ _ _ (by simp), World.setCell_alloc_at _ _ _ _ _ rfl]
theorem setRow2n (w : World) (o p : Obj) (c c' : Array Value) (t : TypeId) (n : Nat) : ((((w.alloc o).alloc p).alloc (.cells c t)).drewN n).setRow (w.heap.size + 1 + 1) c' = (((w.alloc o).alloc p).alloc (.cells c' t)).drewN n := by
  show ((((w.alloc o).alloc p).alloc (.cells c t)).setRow (w.heap.size + 1 + 1) c').drewN n = _
  rw [setRow2]
set_option maxRecDepth 100000 in
set_option maxHeartbeats 400000 in
theorem nat_plus (a b : Nat) (w : World) :
    Calls Try.prog 77 #[natV a, natV b] w fun e w' => e = .returned (natV (a + b)) ∧ Below w.heap.size w w' := by
  unfold natV
  obtain ⟨c, hc⟩ : ∃ c, c = natC a := ⟨_, rfl⟩
  obtain ⟨e, he⟩ : ∃ e, e = natC b := ⟨_, rfl⟩
  rw [← hc, ← he]
  have HC := Lib.hid hc
  have HE := Lib.hid he
  clear hc he
  go_enter Try.func77, Try.ntmps77
  go_wp2
  rw [natZ]
  obtain ⟨z, hz⟩ : ∃ z, z = natC 0 := ⟨_, rfl⟩
  rw [← hz, HC.out]
  have HZ := Lib.hid hz
  clear hz
  go_loopw [5, 7] (fun v i wr => ∃ k nd : Nat, v = .int .u64 (cyP a b k) ∧ i = .int .i64 k ∧ k ≤ 20 ∧ wr = (((w.alloc (.cells (mixC (a + b) a k) 77)).alloc (.cells e 77)).alloc (.cells z 77)).drewN nd) (fun _ i _ => 20 - (intOf i).toNat)
  case atStart => exact ⟨0, 0, by rw [cyP_zero]; rfl, rfl, by omega, by rw [mixC_zero]; rfl⟩
  case round =>
    obtain ⟨k, nd, rfl, rfl, hk, rfl⟩ := hrel
    by_cases hlt : k < 20
    · obtain ⟨m, hm⟩ : ∃ m, m = mixC (a + b) a k := ⟨_, rfl⟩
      rw [← hm]
      obtain ⟨d, hd⟩ : ∃ d, d = dg a k := ⟨_, rfl⟩
      have hd2 : d < 4294967296 := by rw [hd]; exact dg_lt _ _
      obtain ⟨x, hx⟩ : ∃ x, x = dg b k := ⟨_, rfl⟩
      have hx2 : x < 4294967296 := by rw [hx]; exact dg_lt _ _
      have hms : m.size = 20 := by rw [hm]; exact mixC_size _ _ _
      have hes : e.size = 20 := by rw [HE.out]; exact natC_size _
      have hq : m[k] = .int .u32 d := Option.some.inj ((Array.getElem?_eq_getElem (by omega)).symm.trans (by rw [hm, hd]; exact mixC_get hlt (Nat.le_refl _)))
      have hq2 : e[k] = .int .u32 x := Option.some.inj ((Array.getElem?_eq_getElem (by omega)).symm.trans (by rw [HE.out, hx]; exact natC_at hlt))
      obtain ⟨cy, hcy⟩ : ∃ cy, cy = cyP a b k := ⟨_, rfl⟩
      rw [← hcy]
      have hcy2 : cy ≤ 1 := by rw [hcy]; exact cyP_le _ _ _
      have HM := Lib.hid hm
      have HD := Lib.hid hd
      have HCY := Lib.hid hcy
      have HX := Lib.hid hx
      clear hm hd hcy hx
      have e1 : (cyP a b (k + 1) : Int) = ((cy : Int) + (d + x)) / 4294967296 := by
        rw [cyP_step, ← HCY.out, ← HD.out, ← HX.out]; omega
      have e2 : m.setIfInBounds k (.int .u32 (((cy : Int) + (d + x)) % 4294967296)) = mixC (a + b) a (k + 1) := by
        rw [← mixC_set hlt, ← HM.out]
        congr 2
        rw [dg_add, ← HCY.out, ← HD.out, ← HX.out]; omega
      have E1 := Lib.hid e1
      have E2 := Lib.hid e2
      clear e1 e2
      go_wp2
      go_quiet (fail)
      go_wp2
      go_roundw
      case rel => exact ⟨k + 1, _, by rw [E1.out], by go_num, by omega, by rw [set3, E2.out]⟩
      case measure => simp [intOf]; omega
    · obtain rfl : k = 20 := by omega
      rw [mixC_all]
      obtain ⟨m, hm⟩ : ∃ m, m = natC (a + b) := ⟨_, rfl⟩
      rw [← hm]
      have hms : m.size = 20 := by rw [hm]; exact natC_size _
      have hzs : z.size = 20 := by rw [HZ.out]; exact natC_size _
      have HM := Lib.hid hm
      clear hm
      go_wp2_with (first | refine wpList_load_row rfl 77 _ rfl _ rfl 77 _ (0, 0) _ (hp2 _ _ _ _) Try.underlying77 rfl (natSz _ hms) ?_ | refine wpList_store_row rfl 77 _ _ rfl _ _ rfl rfl 77 _ (hp22 _ _ _ _) (natSz _ hms) (by rw [hzs, hms]) (by rw [HM.out]; exact natC_one _) ?_)
      rw [setRow2n]
      refine bodyPost_ret (v := .agg m) (results_cell_row rfl _ _ (w.heap.size + 1 + 1) 77 m (0, 0) _ rfl (hp22 _ _ _ _) Try.underlying77 rfl (natSz _ hms)) rfl ⟨by rw [HM.out], (by repeat' (first | (with_reducible exact Below.refl _ _) | (with_reducible assumption) | (with_reducible refine below_drewN ?_ _) | (with_reducible refine below_step (by assumption) ?_ ?_) | (with_reducible refine Below.alloc ?_ ?_ _) | (with_reducible refine Below.setCell ?_ ?_ _) | (with_reducible refine Below.drew ?_) | go_size | (exact Below.size (by assumption)) | (refine Nat.le_trans (Below.size (by assumption)) ?_)))⟩
end Go.Proofs.Ytdgmpaijpjkeoaa
