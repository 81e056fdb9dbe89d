/-
  EIGHT NUMBERS IN ONE BLOCK; Kinds (the program's).
-/
import Derived.Test.YtdgmpaijpjkeoaaKndM
import Derived.Test.YtdgmpaijpjkeoaaRegL
import Derived.Test.YtdgmpaijpjkeoaaRegN
import Derived.Test.YtdgmpaijpjkeoaaRats
import Derived.Test.YtdgmpaijpjkeoaaLotP
import Derived.Test.YtdgmpaijpjkeoaaMixB
import Derived.Deep.MidRow
namespace Go.Proofs.Ytdgmpaijpjkeoaa
open Go.RowKit
/-- The cells of eight numbers. -/
def sumsC (f : Nat → Nat) : Array Value := ((List.range 160).map fun i => Value.int .u32 (dg (f (i / 20)) (i % 20))).toArray
theorem sumsC_size (f : Nat → Nat) : (sumsC f).size = 160 := by simp [sumsC]
theorem sumsC_at {f : Nat → Nat} {i : Nat} (h : i < 160) : (sumsC f)[i]? = some (.int .u32 (dg (f (i / 20)) (i % 20))) := by simp [sumsC, h]
theorem sumsC_part {f : Nat → Nat} {k : Nat} (h : k < 8) : (sumsC f).extract (k * 20) (k * 20 + 20) = natC (f k) := by
  apply Array.ext_getElem?
  intro i
  rw [Array.getElem?_extract]
  by_cases hi : i < 20
  · rw [if_pos (by rw [sumsC_size]; omega), sumsC_at (by omega), natC_at hi, show (k * 20 + i) / 20 = k by omega, show (k * 20 + i) % 20 = i by omega]
  · rw [if_neg (by rw [sumsC_size]; omega), Array.getElem?_eq_none (by rw [natC_size]; omega)]
/-- Block b holds eight numbers, f of each. -/
def SumsB (w : World) (b : Nat) (f : Nat → Nat) : Prop := (∀ i, i < 160 → w.cell? ⟨b, i, none⟩ = some (.int .u32 (dg (f (i / 20)) (i % 20))) ∧ w.frozen? ⟨b, i, none⟩ = false) ∧ b < w.heap.size
section
variable {w w' : World} {b : Nat} {f : Nat → Nat}
theorem SumsB.keep (h : SumsB w b f) (hb : Below w.heap.size w w') : SumsB w' b f :=
  ⟨fun i hi => ⟨(hb.cell (p := ⟨b, i, none⟩) h.2).trans (h.1 i hi).1, (hb.frozen (p := ⟨b, i, none⟩) h.2).trans (h.1 i hi).2⟩, Nat.lt_of_lt_of_le h.2 hb.size⟩
theorem SumsB.new (w : World) (f : Nat → Nat) (t : TypeId) : SumsB (w.alloc (.cells (sumsC f) t)) w.heap.size f :=
  ⟨fun i hi => ⟨(cell_of_row _ w.heap.size i (sumsC f) t (0, 0) (heap_alloc_new w _)).trans (sumsC_at hi), frozen_of_row _ w.heap.size i (sumsC f) t (heap_alloc_new w _)⟩, by simp⟩
theorem SumsB.range (h : SumsB w b f) {k : Nat} (hk : k < 8) : w.rangeAt b (k * 20) (natC (f k)).toList := fun j v hv => by
  have hj : j < 20 := by have := (List.getElem?_eq_some_iff.1 hv).1; simp [natC_size] at this; exact this
  rw [Array.getElem?_toList, natC_at hj] at hv
  rw [← hv, (h.1 (k * 20 + j) (by omega)).1, show (k * 20 + j) / 20 = k by omega, show (k * 20 + j) % 20 = j by omega]
theorem SumsB.there (h : SumsB w b f) {k : Nat} (hk : k < 8) : w.there b (k * 20) 20 := fun j hj => by
  obtain ⟨h1, h2⟩ := h.1 (k * 20 + j) (by omega)
  exact ⟨by rw [h1]; rfl, h2⟩
theorem SumsB.all (h : SumsB w b f) : w.rangeAt b 0 (sumsC f).toList := fun j v hv => by
  have hj : j < 160 := by have := (List.getElem?_eq_some_iff.1 hv).1; simp [sumsC_size] at this; exact this
  rw [Array.getElem?_toList, sumsC_at hj] at hv
  rw [← hv, Nat.zero_add, (h.1 j hj).1]
theorem grown_setCells (b : Nat) : ∀ (vs : List Value) (o : Nat) (w : World), w.grownBy (w.setCells b o vs) (some b)
  | [], _, w => ⟨rfl, rfl, rfl, Nat.le_refl _, fun _ _ _ => rfl⟩
  | v :: r, o, w => by
    have h := grown_setCells b r (o + 1) (w.setCell ⟨b, o, none⟩ v)
    refine ⟨h.os, h.tape, h.output, by have := h.size; simpa [World.setCell, World.setCells] using this, fun k hk hne => ?_⟩
    exact (h.block k (by simpa [World.setCell] using hk) hne).trans (Below.heap_setCell w ⟨b, o, none⟩ v k (fun e => hne (by rw [e])))
theorem SumsB.set (h : SumsB w b f) {k : Nat} (hk : k < 8) (v : Nat) {g : Nat → Nat} (hg1 : g k = v) (hg2 : ∀ j, j ≠ k → g j = f j) : SumsB (w.setCells b (k * 20) (natC v).toList) b g := by
  have hsz : (natC v).toList.length = 20 := by simp [natC_size]
  refine ⟨fun i hi => ⟨?_, by rw [World.frozen?_setCells]; exact (h.1 i hi).2⟩, Nat.lt_of_lt_of_le h.2 (grown_setCells b _ _ w).size⟩
  by_cases hj : i / 20 = k
  · have e : i = k * 20 + i % 20 := by omega
    have hm : i % 20 < (natC v).toList.length := by rw [hsz]; omega
    have := World.cell?_setCells_in b (natC v).toList (k * 20) w (fun j hj => by rw [hsz] at hj; exact (h.there hk j hj).1) (i % 20) hm
    rw [← e] at this
    rw [this, hj, hg1]
    have h2 := natC_at (a := v) (i := i % 20) (by omega)
    rw [← Array.getElem?_toList, List.getElem?_eq_getElem hm] at h2
    exact h2
  · rw [World.cell?_setCells_out b (natC v).toList (k * 20) w ⟨b, i, none⟩ (fun _ _ => by rw [hsz]; simp only []; omega), (h.1 i hi).1, hg2 _ hj]
end
theorem sumsInfo : (Try.prog.info? 97).map (·.size) = some 160 := by kernel_rfl
theorem sumsZero (w : World) : (zeroValue 97).run Try.prog w = .ok (.agg (sumsC fun _ => 0)) w :=
  (zero_of_info (P := Try.prog) (t := 97) (v := .agg (sumsC fun _ => 0)) (n := 160) (by kernel_rfl)).1 w
section
variable {ops : Array Oper} {rest : List Oper} {o : Oper} {a : Act} {w : World} {Q : Exit → Act → World → Prop} {C : World → Prop} {K : Act → Prop} {f : Nat → Nat}
theorem al_sums (hgd : o.guard = none) (ho : o.op = .alloc 97) (h : ∀ w', SumsB w' w.heap.size (fun _ => 0) → Below w.heap.size w w' → wpList Try.prog ops Q rest (a.put o.dst (.pointer (some ⟨w.heap.size, 0, none⟩))) w') : wpList Try.prog ops Q (o :: rest) a w := by
  refine wpList_plain hgd fun K hK => ?_
  unfold Oper.wp execOp
  simp only [ho]
  simp only [Instr.alloc, Sem.run_bind, Sem.run_pure, sumsZero, Result.andThen_ok]
  go_simp
  exact hK _ _ (h _ (SumsB.new _ _ _) ((Below.refl _ _).alloc (Nat.le_refl _) _))
theorem ld_sums (hgd : o.guard = none) (x : Operand) (ho : o.op = .load 97 x) (b : Nat) (hx : a.eval x = .pointer (some ⟨b, 0, none⟩)) (h : SumsB w b f) (hK : wpList Try.prog ops Q rest (a.put o.dst (.agg (sumsC f))) w) : wpList Try.prog ops Q (o :: rest) a w := by
  have := h.all
  refine wpList_load_mid hgd 97 x ho b 0 hx (sumsC f).toList _ this Try.underlying97 rfl (by rw [sumsInfo]; simp [sumsC_size]) ?_
  simpa using hK
theorem quiet_ld_mid (x : Operand) (ho : o.op = .load 77 x) (b k off : Nat) (hx : a.eval x = .pointer (some ⟨b, off, none⟩)) (hoff : off = k * 20) (hk : k < 8) (h : ∀ w, C w → SumsB w b f) (hK : K (a.put o.dst (natV (f k)))) : o.quiet Try.prog a C K :=
  ⟨natV (f k), fun w hw => by
    subst hoff
    have := run_loadVar_mid (P := Try.prog) w b (k * 20) 77 (natC (f k)).toList _ ((h w hw).range hk) Try.underlying77 rfl (by rw [natInfo]; simp [natC_size])
    unfold Oper.quietAt execOp
    simp only [ho, hx, Instr.loadAt, Instr.sureAddr, Sem.run_bind, Sem.run_pure, Result.andThen_ok, this]
    exact ⟨rfl, rfl⟩, hK⟩
theorem index_sums {k : Nat} (hk : k < 8) (w : World) : (Instr.index 97 (.agg (sumsC f)) (.int .i64 k)).run Try.prog w = .ok (natV (f k)) w := by
  have hu := Try.underlying97
  have hn := Try.underlying77
  cases hq : Try.prog.info? 77 with
  | none => have := natInfo; rw [hq] at this; cases this
  | some i =>
    have hs : i.size = 20 := by have := natInfo; rw [hq] at this; simpa using this
    unfold Instr.index
    simp [asIntOf, Sem.run_bind, run_underlying hu, run_underlying hn, sizeOf, typeInfo, hq, hs, part, isAgg, hk, sumsC_part hk, natV]
end
theorem st_mid_run {o : Oper} {a : Act} {w : World} (x y : Operand) (ho : o.op = .store 77 x y) (b k m : Nat) (hx : a.eval x = .pointer (some ⟨b, k * 20, none⟩)) (hy : a.eval y = natV m) (h : w.there b (k * 20) 20) :
    (execOp a.eval o).run Try.prog w = .ok .skip (w.setCells b (k * 20) (natC m).toList) := by
  have := run_storeVar_mid (P := Try.prog) w b (k * 20) 77 (natC m) (by rw [natC_size]; exact h) (by rw [natInfo, natC_size]) (natC_one m)
  unfold execOp
  simp only [ho, hx, hy, natV, Instr.storeAt, Instr.sureAddr, Sem.run_bind, Sem.run_pure, Result.andThen_ok, this]
/-- The kinds' numerators, of the lots below k. -/
def kP (l : List LotD) (i k kd : Nat) : Nat := sumB (tN l) (psN l) (isK l kd) i k
theorem kP_skip {l : List LotD} {i k kd : Nat} (h : (l.getD k default).parts.length ≠ 0) : kP l i (k + 1) kd = kP l i k kd := by
  unfold kP
  rw [sumB, if_neg (by simp only [isK, Bool.and_eq_true, decide_eq_true_eq]; exact fun e => h e.1), Nat.add_zero]
theorem kP_add {l : List LotD} {i k kd : Nat} (h : (l.getD k default).parts.length = 0) : kP l i (k + 1) kd = kP l i k kd + (if (l.getD k default).kind = (kd : Int) then fN l k i else 0) := by
  unfold kP
  rw [sumB]
  congr 1
  simp only [isK, h, decide_true, Bool.true_and, beq_iff_eq]
  rfl
end Go.Proofs.Ytdgmpaijpjkeoaa
