/-
  NATURALS OF TWENTY WORDS: how they lie in memory; times.
-/
import Derived.Test.YtdgmpaijpjkeoaaNatG
import Derived.Test.YtdgmpaijpjkeoaaReg
import Derived.Deep.WholeRow
import Derived.Deep.DeepCutAuto
namespace Go.Proofs.Ytdgmpaijpjkeoaa
open Go.RowKit
/-- The words, b's below the k-th and a's from there on. -/
def mixC (b a k : Nat) : Array Value := ((List.range 20).map fun i => Value.int .u32 (dg (if i < k then b else a) i)).toArray
def natC (a : Nat) : Array Value := mixC a a 0
theorem mixC_size (b a k : Nat) : (mixC b a k).size = 20 := by simp [mixC]
theorem mixC_at {b a k i : Nat} (h : i < 20) : (mixC b a k)[i]? = some (.int .u32 (dg (if i < k then b else a) i)) := by simp [mixC, h]
theorem mixC_get {b a k i : Nat} (h : i < 20) (hk : k ≤ i) : (mixC b a k)[i]? = some (.int .u32 (dg a i)) := by rw [mixC_at h, if_neg (by omega)]
theorem mixC_zero (b a : Nat) : mixC b a 0 = natC a := by simp [natC, mixC]
theorem natC_at {a i : Nat} (h : i < 20) : (natC a)[i]? = some (.int .u32 (dg a i)) := mixC_get h (Nat.zero_le _)
theorem mixC_all (b a : Nat) : mixC b a 20 = natC b := by
  apply Array.ext_getElem?
  intro i
  by_cases h : i < 20
  · rw [mixC_at h, natC_at h, if_pos h]
  · rw [Array.getElem?_eq_none (by rw [mixC_size]; omega), Array.getElem?_eq_none (by rw [natC, mixC_size]; omega)]
theorem mixC_set {b a k : Nat} (h : k < 20) : (mixC b a k).setIfInBounds k (.int .u32 (dg b k)) = mixC b a (k + 1) := by
  apply Array.ext_getElem?
  intro i
  rw [Array.getElem?_setIfInBounds]
  by_cases hi : i < 20
  · rw [mixC_at hi, mixC_at hi]
    by_cases he : k = i
    · subst he; rw [if_pos rfl, mixC_size, if_pos h, if_pos (by omega)]
    · rw [if_neg he]
      by_cases hl : i < k
      · rw [if_pos hl, if_pos (by omega)]
      · rw [if_neg hl, if_neg (by omega)]
  · rw [if_neg (by omega), Array.getElem?_eq_none (by rw [mixC_size]; omega), Array.getElem?_eq_none (by rw [mixC_size]; omega)]
/-- A natural as a value. -/
def natV (a : Nat) : Value := .agg (natC a)
theorem natC_size (a : Nat) : (natC a).size = 20 := mixC_size _ _ _
theorem natZ : (#[Value.int IntKind.u32 0, Value.int IntKind.u32 0, Value.int IntKind.u32 0, Value.int IntKind.u32 0, Value.int IntKind.u32 0, Value.int IntKind.u32 0, Value.int IntKind.u32 0, Value.int IntKind.u32 0, Value.int IntKind.u32 0, Value.int IntKind.u32 0, Value.int IntKind.u32 0, Value.int IntKind.u32 0, Value.int IntKind.u32 0, Value.int IntKind.u32 0, Value.int IntKind.u32 0, Value.int IntKind.u32 0, Value.int IntKind.u32 0, Value.int IntKind.u32 0, Value.int IntKind.u32 0, Value.int IntKind.u32 0] : Array Value) = natC 0 := by kernel_rfl
theorem natInfo : (Try.prog.info? 77).map (·.size) = some 20 := by kernel_rfl
theorem natZero (w : World) : (zeroValue 77).run Try.prog w = .ok (natV 0) w :=
  (zero_of_info (P := Try.prog) (t := 77) (v := natV 0) (n := 20) (by kernel_rfl)).1 w
theorem natSz (c : Array Value) (h : c.size = 20) : (Try.prog.info? 77).map (·.size) = some c.size := by rw [h]; exact natInfo
theorem push_last (a : Array Obj) (o : Obj) (i : Nat) (h : i = a.size) : (a.push o)[i]? = some o := by rw [Array.getElem?_push, if_pos h]
theorem push_old (a : Array Obj) (o : Obj) (i : Nat) (h : i < a.size) : (a.push o)[i]? = a[i]? := by rw [Array.getElem?_push, if_neg (by omega)]
theorem hp1 (w : World) (o p : Obj) : ((w.alloc o).alloc p).heap[w.heap.size]? = some o := (push_old (w.heap.push o) p _ (by simp)).trans (push_last w.heap o _ rfl)
theorem hp11 (w : World) (o p : Obj) : ((w.alloc o).alloc p).heap[w.heap.size + 1]? = some p := push_last (w.heap.push o) p _ (by simp)
theorem hp2 (w : World) (o p q : Obj) : (((w.alloc o).alloc p).alloc q).heap[w.heap.size]? = some o := (push_old ((w.heap.push o).push p) q _ (by simp; omega)).trans (hp1 w o p)
theorem hp21 (w : World) (o p q : Obj) : (((w.alloc o).alloc p).alloc q).heap[w.heap.size + 1]? = some p := (push_old ((w.heap.push o).push p) q _ (by simp)).trans (hp11 w o p)
theorem hp22 (w : World) (o p q : Obj) : (((w.alloc o).alloc p).alloc q).heap[w.heap.size + 1 + 1]? = some q := push_last ((w.heap.push o).push p) q _ (by simp)
theorem setRow1 (w : World) (o : Obj) (c c' : Array Value) (t : TypeId) : ((w.alloc o).alloc (.cells c t)).setRow (w.heap.size + 1) c' = (w.alloc o).alloc (.cells c' t) := by
  have := World.setRow_alloc_new (w.alloc o) c c' t
  rwa [show (w.alloc o).heap.size = w.heap.size + 1 from Array.size_push _] at this
theorem setRow2 (w : World) (o p : Obj) (c c' : Array Value) (t : TypeId) : (((w.alloc o).alloc p).alloc (.cells c t)).setRow (w.heap.size + 1 + 1) c' = ((w.alloc o).alloc p).alloc (.cells c' t) := by
  have := World.setRow_alloc_new ((w.alloc o).alloc p) c c' t
  rwa [show ((w.alloc o).alloc p).heap.size = w.heap.size + 1 + 1 from (Array.size_push _).trans (congrArg (· + 1) (Array.size_push _))] at this
theorem natC_one (a : Nat) : (natC a).all (·.oneCell') = true := by
  rw [Array.all_eq_true]
  intro i hi
  have h := natC_at (a := a) (i := i) (by rw [natC_size] at hi; exact hi)
  rw [Array.getElem?_eq_getElem hi] at h
  rw [Option.some.inj h]; rfl
set_option maxRecDepth 100000 in
set_option maxHeartbeats 400000 in
theorem nat_times (a n : Nat) (hn : n < 4294967296) (w : World) :
    Calls Try.prog 89 #[natV a, .int .i64 n] w fun e w' => e = .returned (natV (a * n)) ∧ Below w.heap.size w w' := by
  unfold natV
  obtain ⟨c, hc⟩ : ∃ c, c = natC a := ⟨_, rfl⟩
  rw [← hc]
  have HC := Lib.hid hc
  clear hc
  go_enter Try.func89, Try.ntmps89
  go_wp2
  rw [natZ]
  obtain ⟨z, hz⟩ : ∃ z, z = natC 0 := ⟨_, rfl⟩
  rw [← hz, HC.out]
  have HZ := Lib.hid hz
  clear hz
  go_loopw [5, 7] (fun v i wr => ∃ k : Nat, v = .int .u64 (cyT a n k) ∧ i = .int .i64 k ∧ k ≤ 20 ∧ wr = (w.alloc (.cells (mixC (a * n) a k) 77)).alloc (.cells z 77)) (fun _ i _ => 20 - (intOf i).toNat)
  case atStart => exact ⟨0, by rw [cyT_zero]; rfl, rfl, by omega, by rw [mixC_zero]⟩
  case round =>
    obtain ⟨k, rfl, rfl, hk, rfl⟩ := hrel
    by_cases hlt : k < 20
    · obtain ⟨m, hm⟩ : ∃ m, m = mixC (a * n) a k := ⟨_, rfl⟩
      rw [← hm]
      obtain ⟨d, hd⟩ : ∃ d, d = dg a k := ⟨_, rfl⟩
      have hd2 : d < 4294967296 := by rw [hd]; exact dg_lt _ _
      have hms : m.size = 20 := by rw [hm]; exact mixC_size _ _ _
      have hq : m[k] = .int .u32 d := Option.some.inj ((Array.getElem?_eq_getElem (by omega)).symm.trans (by rw [hm, hd]; exact mixC_get hlt (Nat.le_refl _)))
      obtain ⟨cy, hcy⟩ : ∃ cy, cy = cyT a n k := ⟨_, rfl⟩
      rw [← hcy]
      have hcy2 : cy ≤ n := by rw [hcy]; exact cyT_le _ _ _
      obtain ⟨x, hx⟩ : ∃ x, d * n = x := ⟨_, rfl⟩
      have hx2 : x ≤ 18446744065119617025 := by rw [← hx]; exact Nat.mul_le_mul (show d ≤ 4294967295 by omega) (show n ≤ 4294967295 by omega)
      have hxi : (d : Int) * (n : Int) = (x : Int) := by rw [← hx]; simp
      have HM := Lib.hid hm
      have HD := Lib.hid hd
      have HCY := Lib.hid hcy
      have HX := Lib.hid hx
      clear hm hd hcy hx
      have e1 : (cyT a n (k + 1) : Int) = ((cy : Int) + x) / 4294967296 := by
        rw [cyT_step, ← HCY.out, ← HD.out, HX.out]; omega
      have e2 : m.setIfInBounds k (.int .u32 (((cy : Int) + x) % 4294967296)) = mixC (a * n) a (k + 1) := by
        rw [← mixC_set hlt, ← HM.out]
        congr 2
        rw [dg_mul, ← HCY.out, ← HD.out, HX.out]; omega
      have E1 := Lib.hid e1
      have E2 := Lib.hid e2
      clear e1 e2
      go_wp2
      go_roundw
      case rel => exact ⟨k + 1, by rw [E1.out], by go_num, by omega, by rw [E2.out]⟩
      case measure => simp [intOf]; omega
    · obtain rfl : k = 20 := by omega
      rw [mixC_all]
      obtain ⟨m, hm⟩ : ∃ m, m = natC (a * n) := ⟨_, rfl⟩
      rw [← hm]
      have hms : m.size = 20 := by rw [hm]; exact natC_size _
      have hzs : z.size = 20 := by rw [HZ.out]; exact natC_size _
      have HM := Lib.hid hm
      clear hm
      go_wp2_with (first | refine wpList_load_row rfl 77 _ rfl _ rfl 77 _ (0, 0) _ (hp1 _ _ _) Try.underlying77 rfl (natSz _ hms) ?_ | refine wpList_store_row rfl 77 _ _ rfl _ _ rfl rfl 77 _ (hp11 _ _ _) (natSz _ hms) (by rw [hzs, hms]) (by rw [HM.out]; exact natC_one _) ?_)
      rw [setRow1]
      refine bodyPost_ret (v := .agg m) (results_cell_row rfl _ _ (w.heap.size + 1) 77 m (0, 0) _ rfl (hp11 _ _ _) Try.underlying77 rfl (natSz _ hms)) rfl ⟨by rw [HM.out], (by repeat' (first | (with_reducible exact Below.refl _ _) | (with_reducible assumption) | (with_reducible refine below_drewN ?_ _) | (with_reducible refine below_step (by assumption) ?_ ?_) | (with_reducible refine Below.alloc ?_ ?_ _) | (with_reducible refine Below.setCell ?_ ?_ _) | (with_reducible refine Below.drew ?_) | go_size | (exact Below.size (by assumption)) | (refine Nat.le_trans (Below.size (by assumption)) ?_)))⟩
end Go.Proofs.Ytdgmpaijpjkeoaa
