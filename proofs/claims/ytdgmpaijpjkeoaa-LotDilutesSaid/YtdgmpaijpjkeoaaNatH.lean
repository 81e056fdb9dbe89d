/-
  NATURALS OF TWENTY WORDS IN BLOCKS: loads, stores, tests; double, small.
-/
import Derived.Test.YtdgmpaijpjkeoaaNatF
import Derived.ChangeKeysEq
import Derived.Laws.Tables
namespace Go.Proofs.Ytdgmpaijpjkeoaa
open Go.RowKit
/-- Block b holds the natural a. -/
def NatB (w : World) (b a : Nat) : Prop := NB w b (natC a)
theorem NatB.lt {w : World} {b a : Nat} (h : NatB w b a) : b < w.heap.size := NB.lt h
theorem NatB.keep {w w' : World} {b a : Nat} (h : NatB w b a) (hb : Below w.heap.size w w') : NatB w' b a := NB.keep h hb
theorem NatB.grown {w w' : World} {b a : Nat} {row : Option Nat} (h : NatB w b a) (hg : w.grownBy w' row) (hne : some b ≠ row) : NatB w' b a := NB.of_block h (hg.block b h.lt hne)
theorem NatB.cell {w : World} {b a : Nat} (h : NatB w b a) {k : Nat} (hk : k < 20) : w.cell? ⟨b, k, none⟩ = some (.int .u32 (dg a k)) := (NB.cell h k).trans (natC_at hk)
theorem NatB.free {w : World} {b a : Nat} (h : NatB w b a) (k : Nat) : w.frozen? ⟨b, k, none⟩ = false := NB.free h k
theorem NatB.load {w : World} {b a : Nat} (h : NatB w b a) : (loadVar 77 ⟨b, 0, none⟩).run Try.prog w = .ok (natV a) w :=
  run_loadVar_row w b 77 77 (natC a) (0, 0) _ h Try.underlying77 rfl (natSz _ (natC_size a))
theorem grown_setRow (w : World) (b : Nat) (c : Array Value) : w.grownBy (w.setRow b c) (some b) := by
  refine ⟨rfl, rfl, rfl, by simp [World.setRow], fun k _ hk => ?_⟩
  simp only [World.setRow, Array.getElem?_modify]
  rw [if_neg (fun e => hk (by rw [e]))]
theorem below_grown {B b : Nat} {w w1 w2 : World} (h : Below B w w1) (hg : w1.grownBy w2 (some b)) (hb : B ≤ b) (hs : B ≤ w1.heap.size) : Below B w w2 :=
  ⟨hg.os.trans h.os, hg.tape.trans h.tape, hg.output.trans h.output, Nat.le_trans h.size hg.size, fun k hk => (hg.block k (by omega) (by intro e; cases e; omega)).trans (h.block k hk)⟩
section
variable {ops : Array Oper} {rest : List Oper} {o : Oper} {a : Act} {w : World} {Q : Exit → Act → World → Prop}
theorem ld_nat (hgd : o.guard = none) (x : Operand) (ho : o.op = .load 77 x) (b n : Nat) (hx : a.eval x = .pointer (some ⟨b, 0, none⟩)) (h : NatB w b n) (hK : wpList Try.prog ops Q rest (a.put o.dst (natV n)) w) : wpList Try.prog ops Q (o :: rest) a w :=
  wpList_load_row hgd 77 x ho b hx 77 (natC n) (0, 0) _ h Try.underlying77 rfl (natSz _ (natC_size n)) hK
theorem st_nat (hgd : o.guard = none) (x y : Operand) (ho : o.op = .store 77 x y) (hd : o.dst = none) (b n m : Nat) (hx : a.eval x = .pointer (some ⟨b, 0, none⟩)) (hy : a.eval y = natV m) (h : NatB w b n)
    (hK : ∀ w', NatB w' b m → w.grownBy w' (some b) → wpList Try.prog ops Q rest a w') : wpList Try.prog ops Q (o :: rest) a w :=
  wpList_store_row hgd 77 x y ho b (natC m) hx hy 77 (natC n) h (natSz _ (natC_size m)) (by rw [natC_size, natC_size]) (natC_one m) (by rw [hd]; exact hK _ (NB.row h _) (grown_setRow _ _ _))
end
theorem ret_nat {w : World} {b n : Nat} {tmps : Array Value} {fn : Func} {p : Tmp} (h : fn.results = #[.cell p 77]) (hp : tmps.getD p undef = .pointer (some ⟨b, 0, none⟩)) (hg : NatB w b n) : (results fn tmps).run Try.prog w = .ok (natV n) w :=
  results_cell_row h _ _ b 77 (natC n) (0, 0) _ hp hg Try.underlying77 rfl (natSz _ (natC_size n))
theorem eqItems_nat (d a b : Nat) (w : World) (is : List Nat) (h : ∀ i ∈ is, i < 20) : (Op.eqItems (d + 1) 75 1 (natC a) (natC b) is).run Try.prog w = .ok (is.all fun i => decide (dg a i = dg b i)) w := by
  induction is with
  | nil => rfl
  | cons i is ih =>
    have hi := h i (by simp)
    have pa : ∀ x : Nat, (part 75 (natC x) (i * 1)).run Try.prog w = .ok (.int .u32 (dg x i)) w := fun x => by
      have := natC_at (a := x) hi
      simp [part, isAgg, run_underlying Try.underlying75, this]
    have pe : (Op.equalIn (d + 1) 75 (.int .u32 (dg a i)) (.int .u32 (dg b i))).run Try.prog w = .ok (decide (dg a i = dg b i)) w := by
      rw [run_equalIn_int w d 75 .u32 .u32 _ _ Try.underlying75]
      congr 1
      rw [Bool.eq_iff_iff]
      simp
      omega
    simp only [Op.eqItems, Sem.run_bind, pa, pe, Result.andThen_ok, List.all_cons]
    by_cases he : dg a i = dg b i
    · simp only [he, decide_true, Bool.not_true, Bool.false_eq_true, if_false, Bool.true_and]
      exact ih (fun j hj => h j (by simp [hj]))
    · simp [he]
theorem words_all {a b : Nat} (ha : a < 4294967296 ^ 20) (hb : b < 4294967296 ^ 20) : ((List.range 20).all fun i => decide (dg a i = dg b i)) = decide (a = b) := by
  rw [Bool.eq_iff_iff]
  simp only [List.all_eq_true, List.mem_range, decide_eq_true_eq]
  constructor
  · exact eq_of_words ha hb
  · rintro rfl i _; rfl
theorem nat_equalIn {a b : Nat} (ha : a < 4294967296 ^ 20) (hb : b < 4294967296 ^ 20) (w : World) : (Op.equalIn 10000 77 (natV a) (natV b)).run Try.prog w = .ok (decide (a = b)) w := by
  obtain ⟨i, hi⟩ : ∃ i, Try.prog.info? 75 = some i := Option.isSome_iff_exists.1 (by kernel_rfl)
  unfold natV
  rw [run_equalIn_array w 9999 (natC a) (natC b) Try.underlying77 hi, show Try.prog.cellsOf 75 = 1 by kernel_rfl, eqItems_nat 9998 a b w (List.range 20) (by simp), words_all ha hb]
theorem nat_eql {a b : Nat} (ha : a < 4294967296 ^ 20) (hb : b < 4294967296 ^ 20) (w : World) : (binOp .eql 77 (natV a) (natV b)).run Try.prog w = .ok (.bool (decide (a = b))) w := by
  have h := nat_equalIn ha hb w
  unfold natV at h ⊢
  rw [run_eql_struct, h]; rfl
theorem nat_neq {a b : Nat} (ha : a < 4294967296 ^ 20) (hb : b < 4294967296 ^ 20) (w : World) : (binOp .neq 77 (natV a) (natV b)).run Try.prog w = .ok (.bool (!decide (a = b))) w := by
  have h := nat_equalIn ha hb w
  unfold natV at h ⊢
  rw [run_neq_struct, h]; rfl
section
variable {ops : Array Oper} {rest : List Oper} {o : Oper} {a : Act} {w : World} {Q : Exit → Act → World → Prop}
theorem ne_nat (hgd : o.guard = none) (x y : Operand) (t' : TypeId) (ho : o.op = .binOp .neq 77 x y t') (n m : Nat) (c : Bool) (hx : a.eval x = natV n) (hy : a.eval y = natV m) (hn : n < 4294967296 ^ 20) (hm : m < 4294967296 ^ 20) (hc : (!decide (n = m)) = c)
    (hK : wpList Try.prog ops Q rest (a.put o.dst (.bool c)) w) : wpList Try.prog ops Q (o :: rest) a w := by
  refine wpList_plain hgd fun K' hK' => ?_
  have hr := nat_neq hn hm w
  have hg : (eqGuard .neq 77 x y (natV n) (natV m)).run Try.prog w = .ok () w := run_eqGuard_agg w .neq 77 x y (natC n) (natC m) (by kernel_rfl)
  rw [hc] at hr
  unfold Oper.wp
  simp [execOp, ho, hx, hy, hg, hr, Result.andThen]
  exact hK' _ _ hK
theorem eq_nat (hgd : o.guard = none) (x y : Operand) (t' : TypeId) (ho : o.op = .binOp .eql 77 x y t') (n m : Nat) (c : Bool) (hx : a.eval x = natV n) (hy : a.eval y = natV m) (hn : n < 4294967296 ^ 20) (hm : m < 4294967296 ^ 20) (hc : (decide (n = m)) = c)
    (hK : wpList Try.prog ops Q rest (a.put o.dst (.bool c)) w) : wpList Try.prog ops Q (o :: rest) a w := by
  refine wpList_plain hgd fun K' hK' => ?_
  have hr := nat_eql hn hm w
  have hg : (eqGuard .eql 77 x y (natV n) (natV m)).run Try.prog w = .ok () w := run_eqGuard_agg w .eql 77 x y (natC n) (natC m) (by kernel_rfl)
  rw [hc] at hr
  unfold Oper.wp
  simp [execOp, ho, hx, hy, hg, hr, Result.andThen]
  exact hK' _ _ hK
end
set_option maxRecDepth 100000 in
set_option maxHeartbeats 400000 in
theorem nat_double (a n : Nat) (hn : n ≤ 1000) (w : World) :
    Calls Try.prog 112 #[natV a, .int .i64 n] w fun e w' => e = .returned (natV (2 ^ n * a)) ∧ Below w.heap.size w w' := by
  unfold natV
  obtain ⟨c, hc⟩ : ∃ c, c = natC a := ⟨_, rfl⟩
  rw [← hc]
  have HC := Lib.hid hc
  clear hc
  go_enter Try.func112, Try.ntmps112
  go_wp2
  rw [natZ, HC.out]
  obtain ⟨W, hW⟩ : ∃ W, W = (w.alloc (.cells (natC a) 77)).alloc (.cells (natC 0) 77) := ⟨_, rfl⟩
  rw [← hW]
  have h0 : Hid (NatB W w.heap.size a ∧ NatB W (w.heap.size + 1) 0 ∧ Below w.heap.size w W) := by rw [hW]; exact ⟨hp1 _ _ _, hp11 _ _ _, (by repeat' (first | (with_reducible exact Below.refl _ _) | (with_reducible assumption) | (with_reducible refine below_drewN ?_ _) | (with_reducible refine below_step (by assumption) ?_ ?_) | (with_reducible refine Below.alloc ?_ ?_ _) | (with_reducible refine Below.setCell ?_ ?_ _) | (with_reducible refine Below.drew ?_) | go_size | (exact Below.size (by assumption)) | (refine Nat.le_trans (Below.size (by assumption)) ?_)))⟩
  clear hW
  go_loopw [6] (fun i wr => ∃ k : Nat, i = .int .i64 k ∧ k ≤ n ∧ Hid (NatB wr w.heap.size (2 ^ k * a) ∧ NatB wr (w.heap.size + 1) 0 ∧ Below w.heap.size w wr)) (fun i _ => n - (intOf i).toNat)
  case atStart => exact ⟨0, rfl, by omega, by rw [Nat.pow_zero, Nat.one_mul]; exact h0⟩
  case round =>
    obtain ⟨k, rfl, hk, hr⟩ := hrel
    by_cases hlt : k < n
    · obtain ⟨m, hm⟩ : ∃ m, m = 2 ^ k * a := ⟨_, rfl⟩
      rw [← hm] at hr
      have HM := Lib.hid hm
      clear hm
      go_wp2_with (refine ld_nat rfl _ rfl _ _ rfl hr.out.1 ?_)
      refine (nat_times m 2 (by omega) _).mono ?_
      rintro e w1 ⟨rfl, hb1⟩
      have hr1 := Lib.hid (show NatB w1 w.heap.size m ∧ NatB w1 (w.heap.size + 1) 0 ∧ Below w.heap.size w w1 from ⟨hr.out.1.keep hb1, hr.out.2.1.keep hb1, hr.out.2.2.trans (hb1.mono hr.out.2.2.size)⟩)
      clear hb1
      go_wp2_with (refine st_nat rfl _ _ rfl rfl _ _ _ rfl rfl hr1.out.1 ?_)
      intro w2 hn hg
      go_wp2
      go_roundw
      case rel => exact ⟨k + 1, by go_num, by omega, by rw [Nat.pow_succ, Nat.mul_right_comm, ← HM.out]; exact ⟨hn, hr1.out.2.1.grown hg (by simp), below_grown hr1.out.2.2 hg (by omega) hr1.out.2.2.size⟩⟩
      case measure => simp [intOf]; omega
    · obtain rfl : k = n := by omega
      go_wp2_with (first | refine ld_nat rfl _ rfl _ _ rfl hr.out.1 ?_ | (refine st_nat rfl _ _ rfl rfl _ _ _ rfl rfl hr.out.2.1 ?_; intro w2 hq hg))
      refine bodyPost_ret (v := natV (2 ^ k * a)) (ret_nat rfl rfl hq) rfl ⟨rfl, below_grown hr.out.2.2 hg (by omega) hr.out.2.2.size⟩
theorem natOne : Value.agg #[Value.int IntKind.u32 1, Value.int IntKind.u32 0, Value.int IntKind.u32 0, Value.int IntKind.u32 0, Value.int IntKind.u32 0, Value.int IntKind.u32 0, Value.int IntKind.u32 0, Value.int IntKind.u32 0, Value.int IntKind.u32 0, Value.int IntKind.u32 0, Value.int IntKind.u32 0, Value.int IntKind.u32 0, Value.int IntKind.u32 0, Value.int IntKind.u32 0, Value.int IntKind.u32 0, Value.int IntKind.u32 0, Value.int IntKind.u32 0, Value.int IntKind.u32 0, Value.int IntKind.u32 0, Value.int IntKind.u32 0] = natV 1 := by kernel_rfl
set_option maxRecDepth 100000 in
set_option maxHeartbeats 400000 in
theorem small_one (w : World) :
    Calls Try.prog 88 #[.int .i64 1] w fun e w' => e = .returned (natV 1) ∧ Below w.heap.size w w' := by
  have hz : NatB (w.alloc (.cells (natC 0) 77)) w.heap.size 0 := NB.new _ _
  rw [← natZ] at hz
  have HZ := Lib.hid hz
  clear hz
  go_enter Try.func88, Try.ntmps88
  go_wp2_with (refine st_nat rfl _ _ rfl rfl _ _ _ rfl natOne HZ.out ?_; intro w2 hq hg)
  refine bodyPost_ret (v := natV 1) (ret_nat rfl rfl hq) rfl ⟨rfl, below_grown ((Below.refl _ _).alloc (Nat.le_refl _) _) hg (by omega) (by simp)⟩
end Go.Proofs.Ytdgmpaijpjkeoaa
