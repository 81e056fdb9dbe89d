/-
  NATURALS OF TWENTY WORDS: half.
-/
import Derived.Test.YtdgmpaijpjkeoaaNatB
import Derived.Laws.BitsAllLaws
namespace Go.Proofs.Ytdgmpaijpjkeoaa
open Go.RowKit
attribute [local go_sem] grow_cell grow_frozen
/-- Block b holds the cells c of a natural. -/
def NB (w : World) (b : Nat) (c : Array Value) : Prop := w.heap[b]? = some (.cells c 77 (0, 0))
theorem NB.lt {w : World} {b : Nat} {c : Array Value} (h : NB w b c) : b < w.heap.size := (Array.getElem?_eq_some_iff.1 h).1
theorem NB.cell {w : World} {b : Nat} {c : Array Value} (h : NB w b c) (k : Nat) : w.cell? ⟨b, k, none⟩ = c[k]? := cell_of_row w b k c _ (0, 0) h
theorem NB.free {w : World} {b : Nat} {c : Array Value} (h : NB w b c) (k : Nat) : w.frozen? ⟨b, k, none⟩ = false := frozen_of_row w b k c _ h
theorem NB.of_block {w w' : World} {b : Nat} {c : Array Value} (h : NB w b c) (hb : w'.heap[b]? = w.heap[b]?) : NB w' b c := hb.trans h
theorem NB.keep {w w' : World} {b : Nat} {c : Array Value} (h : NB w b c) (hb : Below w.heap.size w w') : NB w' b c := h.of_block (hb.block b h.lt)
theorem NB.alloc {w : World} {b : Nat} {c : Array Value} (h : NB w b c) (o : Obj) : NB (w.alloc o) b c := h.keep ((Below.refl _ _).alloc (Nat.le_refl _) o)
theorem NB.other {w : World} {b : Nat} {c : Array Value} (h : NB w b c) {p : Addr} (hp : b ≠ p.block) (u : Value) : NB (w.setCell p u) b c := h.of_block (Below.heap_setCell w p u b hp)
theorem NB.set {w : World} {b : Nat} {c : Array Value} (h : NB w b c) (k : Nat) (u : Value) : NB (w.setCell ⟨b, k, none⟩ u) b (c.setIfInBounds k u) := by
  obtain ⟨hg, he⟩ := Array.getElem?_eq_some_iff.1 h
  unfold NB
  simp [World.setCell, hg, Array.getElem_modify, he]
theorem NB.row {w : World} {b : Nat} {c : Array Value} (h : NB w b c) (c' : Array Value) : NB (w.setRow b c') b c' := by
  obtain ⟨hg, he⟩ := Array.getElem?_eq_some_iff.1 h
  unfold NB
  simp [World.setRow, hg, Array.getElem_modify, he]
theorem NB.rowOther {w : World} {b : Nat} {c : Array Value} (h : NB w b c) {g : Nat} (hg : b ≠ g) (c' : Array Value) : NB (w.setRow g c') b c := by
  refine h.of_block ?_
  simp only [World.setRow, Array.getElem?_modify]
  rw [if_neg (fun e => hg e.symm)]
theorem NB.drewN {w : World} {b : Nat} {c : Array Value} (h : NB w b c) (n : Nat) : NB (w.drewN n) b c := h
theorem NB.new (w : World) (c : Array Value) : NB (w.alloc (.cells c 77)) w.heap.size c := push_last w.heap _ _ rfl
theorem below_setRow {B : Nat} {w w' : World} (h : Below B w w') {g : Nat} (hg : B ≤ g) (c : Array Value) : Below B w (w'.setRow g c) := by
  refine ⟨h.os, h.tape, h.output, ?_, fun k hk => ?_⟩
  · have := h.size; simpa [World.setRow] using this
  · simp only [World.setRow, Array.getElem?_modify]
    rw [if_neg (by omega)]
    exact h.block k hk
theorem half_or (d x : Nat) (hd : d < 4294967296) : bits BinOp.or .u32 ((d : Int) / 2) ((x : Int) * 2147483648 % 4294967296) = ((d / 2 + x % 2 * 2147483648 : Nat) : Int) := by
  rw [show (d : Int) / 2 = ((d / 2 : Nat) : Int) by omega, show (x : Int) * 2147483648 % 4294967296 = ((x % 2 * 2147483648 : Nat) : Int) by omega, u32_or_nat _ _ (by omega) (by omega)]
  have h := Nat.two_pow_add_eq_or_of_lt (i := 31) (b := d / 2) (by omega) (x % 2)
  rw [show 2 ^ 31 * (x % 2) = x % 2 * 2147483648 by omega] at h
  rw [Nat.or_comm, ← h, Nat.add_comm]
set_option maxRecDepth 100000 in
set_option maxHeartbeats 400000 in
theorem nat_half (a : Nat) (ha : a < 4294967296 ^ 20) (w : World) :
    Calls Try.prog 110 #[natV a] w fun e w' => e = .returned (natV (a / 2)) ∧ Below w.heap.size w w' := by
  unfold natV
  obtain ⟨c, hc⟩ : ∃ c, c = natC a := ⟨_, rfl⟩
  rw [← hc]
  have HC := Lib.hid hc
  have HA := Lib.hid ha
  clear hc ha
  go_enter Try.func110, Try.ntmps110
  go_wp2
  rw [natZ]
  obtain ⟨z, hz⟩ : ∃ z, z = natC 0 := ⟨_, rfl⟩
  rw [← hz, HC.out]
  have HZ := Lib.hid hz
  clear hz
  go_loopw [4] (fun i wr => ∃ k : Nat, i = .int .i64 k ∧ k ≤ 20 ∧ Hid (NB wr w.heap.size (mixC (a / 2) a k) ∧ NB wr (w.heap.size + 1) z ∧ Below w.heap.size w wr)) (fun i _ => 20 - (intOf i).toNat)
  case atStart => exact ⟨0, rfl, by omega, by rw [mixC_zero]; exact hp1 _ _ _, hp11 _ _ _, (by repeat' (first | (with_reducible exact Below.refl _ _) | (with_reducible assumption) | (with_reducible refine below_drewN ?_ _) | (with_reducible refine below_step (by assumption) ?_ ?_) | (with_reducible refine Below.alloc ?_ ?_ _) | (with_reducible refine Below.setCell ?_ ?_ _) | (with_reducible refine Below.drew ?_) | go_size | (exact Below.size (by assumption)) | (refine Nat.le_trans (Below.size (by assumption)) ?_)))⟩
  case round =>
    obtain ⟨k, rfl, hk, hr⟩ := hrel
    have hsz := hr.out.1.lt
    by_cases hlt : k < 20
    · obtain ⟨d, hd⟩ : ∃ d, d = dg a k := ⟨_, rfl⟩
      have hd2 : d < 4294967296 := by rw [hd]; exact dg_lt _ _
      have hq : wr.cell? ⟨w.heap.size, k, none⟩ = some (.int .u32 d) := by rw [hr.out.1.cell, hd]; exact mixC_get hlt (Nat.le_refl _)
      have hf : wr.frozen? ⟨w.heap.size, k, none⟩ = false := hr.out.1.free k
      have HD := Lib.hid hd
      clear hd
      by_cases hl2 : k + 1 < 20
      · obtain ⟨x, hx⟩ : ∃ x, x = dg a (k + 1) := ⟨_, rfl⟩
        have hx2 : x < 4294967296 := by rw [hx]; exact dg_lt _ _
        have hq2 : wr.cell? ⟨w.heap.size, k + 1, none⟩ = some (.int .u32 x) := by rw [hr.out.1.cell, hx]; exact mixC_get hl2 (by omega)
        have hf2 : wr.frozen? ⟨w.heap.size, k + 1, none⟩ = false := hr.out.1.free _
        have HX := Lib.hid hx
        clear hx
        go_wp2
        obtain ⟨wa, hwa⟩ : ∃ wa, wa = wr.setCell ⟨w.heap.size, k, none⟩ (.int .u32 ((d : Int) / 2)) := ⟨_, rfl⟩
        rw [← hwa]
        have hn1 : Hid (NB wa w.heap.size ((mixC (a / 2) a k).setIfInBounds k (.int .u32 ((d : Int) / 2)))) := by rw [hwa]; exact hr.out.1.set _ _
        have hn2 : Hid (NB wa (w.heap.size + 1) z) := by rw [hwa]; exact hr.out.2.1.other (by simp) _
        have hn3 : Hid (Below w.heap.size w wa) := by rw [hwa]; exact hr.out.2.2.setCell (by simp) _
        have hsz2 := hn1.out.lt
        have qa : wa.cell? ⟨w.heap.size, k, none⟩ = some (.int .u32 ((d : Int) / 2)) := by
          rw [hn1.out.cell, Array.getElem?_setIfInBounds, if_pos rfl, mixC_size, if_pos hlt]
        have qb : wa.cell? ⟨w.heap.size, k + 1, none⟩ = some (.int .u32 x) := by
          rw [hn1.out.cell, Array.getElem?_setIfInBounds, if_neg (by omega), HX.out]; exact mixC_get hl2 (by omega)
        have fa := hn1.out.free k
        have fb := hn1.out.free (k + 1)
        clear hwa hq hq2 hf hf2 hsz
        refine region_grow_tail 9 (by kernel_rfl) (by kernel_rfl) ?_
        simp only [List.take_succ_cons, List.take_zero, List.drop_succ_cons, List.drop_zero]
        repeat (go_big_quiet_step (fail))
        refine wpQuiet_nil ?_
        rintro w1 ⟨xg, hxg⟩
        have hb1 := below_grow wa xg
        rw [← hxg] at hb1
        clear hxg xg
        have hm1 := Lib.hid (hn1.out.keep hb1)
        have hm2 := Lib.hid (hn2.out.keep hb1)
        have hm3 := Lib.hid (hn3.out.trans (hb1.mono hn3.out.size))
        have qc : w1.cell? ⟨w.heap.size, k, none⟩ = some (.int .u32 ((d : Int) / 2)) := by
          rw [hm1.out.cell, Array.getElem?_setIfInBounds, if_pos rfl, mixC_size, if_pos hlt]
        have fc := hm1.out.free k
        clear qa qb fa fb hb1
        have e2 : ((mixC (a / 2) a k).setIfInBounds k (.int .u32 ((d : Int) / 2))).setIfInBounds k (.int .u32 (bits BinOp.or .u32 ((d : Int) / 2) ((x : Int) * 2147483648 % 4294967296))) = mixC (a / 2) a (k + 1) := by
          rw [half_or d x hd2, Array.setIfInBounds_setIfInBounds, ← mixC_set hlt, dg_half, ← HD.out, ← HX.out]
        have E2 := Lib.hid e2
        clear e2
        go_wp2
        go_roundw
        case rel => exact ⟨k + 1, by go_num, by omega, by rw [← E2.out]; exact hm1.out.set _ _, hm2.out.other (by simp) _, hm3.out.setCell (by simp) _⟩
        case measure => simp [intOf]; omega
      · have e2 : (mixC (a / 2) a k).setIfInBounds k (.int .u32 ((d : Int) / 2)) = mixC (a / 2) a (k + 1) := by
          have hz0 : dg a (k + 1) = 0 := dg_big (by rw [show k + 1 = 20 by omega]; exact HA.out)
          rw [← mixC_set hlt, dg_half, ← HD.out, hz0]
          congr 2
        have E2 := Lib.hid e2
        clear e2
        go_wp2
        go_roundw
        case rel => exact ⟨k + 1, by go_num, by omega, by rw [← E2.out]; exact hr.out.1.set _ _, hr.out.2.1.other (by simp) _, hr.out.2.2.setCell (by simp) _⟩
        case measure => simp [intOf]; omega
    · obtain rfl : k = 20 := by omega
      have hr := hr
      rw [mixC_all] at hr
      obtain ⟨m, hm⟩ : ∃ m, m = natC (a / 2) := ⟨_, rfl⟩
      rw [← hm] at hr
      have hms : m.size = 20 := by rw [hm]; exact natC_size _
      have hzs : z.size = 20 := by rw [HZ.out]; exact natC_size _
      have HM := Lib.hid hm
      clear hm
      go_wp2_with (first | refine wpList_load_row rfl 77 _ rfl _ rfl 77 _ (0, 0) _ hr.out.1 Try.underlying77 rfl (natSz _ hms) ?_ | refine wpList_store_row rfl 77 _ _ rfl _ _ rfl rfl 77 _ hr.out.2.1 (natSz _ hms) (by rw [hzs, hms]) (by rw [HM.out]; exact natC_one _) ?_)
      refine bodyPost_ret (v := .agg m) (results_cell_row rfl _ _ (w.heap.size + 1) 77 m (0, 0) _ rfl (hr.out.2.1.row _) Try.underlying77 rfl (natSz _ hms)) rfl ⟨by rw [HM.out], below_setRow hr.out.2.2 (by omega) _⟩
end Go.Proofs.Ytdgmpaijpjkeoaa
