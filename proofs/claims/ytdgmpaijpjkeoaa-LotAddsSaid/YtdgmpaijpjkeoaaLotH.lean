/-
  THE MAP OF KNOWN SHARES.
-/
import Derived.Test.YtdgmpaijpjkeoaaLotG
import Derived.Maps.OwnSet
namespace Go.Proofs.Ytdgmpaijpjkeoaa
open Go.RowKit
open Go.Maps (Keyed)
theorem natV_inj {a b : Nat} (ha : a < 4294967296 ^ 20) (hb : b < 4294967296 ^ 20) (h : natV a = natV b) : a = b := by
  unfold natV at h
  injection h with h
  refine eq_of_words ha hb (fun i hi => ?_)
  have h1 := natC_at (a := a) hi
  rw [h, natC_at hi] at h1
  have := Option.some.inj h1
  injection this with _ h2
  omega
open Classical in
/-- How a natural in a map reads. -/
noncomputable def natR (v : Value) : Option (DataW Unit × List MemPlace) := if h : ∃ a : Nat, a < 4294967296 ^ 20 ∧ v = natV a then some (.lit (.int .u64 (h.choose : Int)), []) else none
theorem natR_mk {a : Nat} (ha : a < 4294967296 ^ 20) : natR (natV a) = some (.lit (.int .u64 (a : Int)), []) := by
  have h : ∃ b : Nat, b < 4294967296 ^ 20 ∧ natV a = natV b := ⟨a, ha, rfl⟩
  unfold natR
  rw [dif_pos h, natV_inj h.choose_spec.1 ha h.choose_spec.2.symm]
theorem natR_inv {v : Value} {z : DataW Unit × List MemPlace} (h : natR v = some z) : ∃ a : Nat, a < 4294967296 ^ 20 ∧ v = natV a ∧ z.1 = .lit (.int .u64 (a : Int)) := by
  unfold natR at h
  split at h
  · rename_i hx
    have := hx.choose_spec
    cases h
    exact ⟨_, this.1, this.2, rfl⟩
  · cases h
/-- How many below L are known. -/
def cnt (K : Nat → Bool) (L : Nat) : Nat := ((List.range L).filter K).length
theorem cnt_le (K : Nat → Bool) (L : Nat) : cnt K L ≤ L := by
  have := List.length_filter_le K (List.range L)
  simpa [cnt] using this
def setK (K : Nat → Bool) (i : Nat) : Nat → Bool := fun j => if j = i then true else K j
theorem cnt_succ (K : Nat → Bool) (L : Nat) : cnt K (L + 1) = cnt K L + (if K L = true then 1 else 0) := by
  unfold cnt
  rw [List.range_succ, List.filter_append, List.length_append]
  by_cases h : K L = true
  · simp [h]
  · simp [h]
theorem cnt_same {K : Nat → Bool} {i : Nat} : ∀ L, L ≤ i → cnt (setK K i) L = cnt K L
  | 0, _ => rfl
  | L + 1, h => by
    rw [cnt_succ, cnt_succ, cnt_same L (by omega)]
    have : setK K i L = K L := by unfold setK; rw [if_neg (by omega)]
    rw [this]
theorem cnt_set {K : Nat → Bool} {i : Nat} (hi : K i = false) : ∀ L, i < L → cnt (setK K i) L = cnt K L + 1
  | 0, h => absurd h (by omega)
  | L + 1, h => by
    rw [cnt_succ, cnt_succ]
    by_cases he : i = L
    · subst he
      rw [cnt_same _ (Nat.le_refl _), hi]
      simp [setK]
    · rw [cnt_set hi L (by omega)]
      have : setK K i L = K L := by unfold setK; rw [if_neg (by omega)]
      rw [this]; omega
/-- Block mb is a map of what f has at some of the numbers below L: at those of K. -/
def MapOK (w : World) (mb L : Nat) (f : Nat → Nat) (K : Nat → Bool) : Prop :=
  ∃ n D, w.ownsMap Try.prog 3 natR mb n D ∧ n ≤ cnt K L ∧ Maps.IsMap D ∧ (∀ j : Nat, j < L → Maps.has D (.int .i64 (j : Int)) = K j) ∧ (∀ j : Nat, j < L → K j = true → ∀ z, D.atKey (.int .i64 (j : Int)) z = .lit (.int .u64 (f j : Int)))
theorem MapOK.made (w : World) (L : Nat) (f : Nat → Nat) : MapOK (w.alloc (.map #[] 0)) w.heap.size L f (fun _ => false) :=
  ⟨0, .map [], World.ownsMap_made _ _ _ _, Nat.zero_le _, Maps.isMap_empty, fun j _ => rfl, fun j _ h => by cases h⟩
theorem MapOK.kept {w w' : World} {mb L : Nat} {f : Nat → Nat} {K : Nat → Bool} {row : Option Nat} (h : MapOK w mb L f K) (hg : w.grownBy w' row) (hne : some mb ≠ row) : MapOK w' mb L f K := by
  obtain ⟨n, D, h1, h2⟩ := h
  exact ⟨n, D, h1.kept hg hne, h2⟩
theorem grown_below {w w' : World} (h : Below w.heap.size w w') (row : Option Nat) : w.grownBy w' row := ⟨h.os, h.tape, h.output, h.size, fun k hk _ => h.block k hk⟩
theorem MapOK.keep {w w' : World} {mb L : Nat} {f : Nat → Nat} {K : Nat → Bool} (h : MapOK w mb L f K) (hb : Below w.heap.size w w') : MapOK w' mb L f K := h.kept (grown_below hb none) (by simp)
theorem MapOK.lt {w : World} {mb L : Nat} {f : Nat → Nat} {K : Nat → Bool} (h : MapOK w mb L f K) : mb < w.heap.size := by
  obtain ⟨n, D, h1, _⟩ := h
  exact h1.lt
theorem mapLaw : Keyed Try.prog 3 := Maps.int_keyed Try.underlying3
theorem mapKey (i : Nat) (hi : i ≤ 1000000) : keyOf Try.prog 3 (.int .i64 (i : Int)) = some (.int .i64 (i : Int)) := Maps.keyOf_int_mk Try.underlying3 (WalkArith.wf_i64 (by omega))
section
variable {ops : Array Oper} {rest : List Oper} {o : Oper} {a : Act} {w : World} {Q : Exit → Act → World → Prop}
theorem lk_yes (hgd : o.guard = none) (m x : Operand) (ho : o.op = .lookup 105 m x true) (mb i L : Nat) (f : Nat → Nat) (K : Nat → Bool) (hm : a.eval m = .map (some mb)) (hx : a.eval x = .int .i64 (i : Int))
    (h : MapOK w mb L f K) (hi : i < L) (hL : L ≤ 1000000) (hKi : K i = true) (hK : wpList Try.prog ops Q rest (a.put o.dst (.tuple #[natV (f i), .bool true])) w) : wpList Try.prog ops Q (o :: rest) a w := by
  obtain ⟨n, D, h1, h2, h3, h4, h5⟩ := h
  refine wpList_lookup_own_ok w hgd m x 105 ho 3 77 mapLaw Try.underlying105 natR (natZero w) _ [] (natR_mk (a := 0) (by decide)) mb n D hm h1 (.int .i64 (i : Int)) _ hx (mapKey i (by omega)) ?_
  intro v ps hv
  rw [h5 i hi hKi] at hv
  obtain ⟨b, hb, rfl, he⟩ := natR_inv hv
  have : f i = b := by
    simp only [DataW.lit.injEq, Lit.int.injEq, true_and] at he
    omega
  rw [h4 i hi, hKi, ← this]
  exact hK
theorem lk_no (hgd : o.guard = none) (m x : Operand) (ho : o.op = .lookup 105 m x true) (mb i L : Nat) (f : Nat → Nat) (K : Nat → Bool) (hm : a.eval m = .map (some mb)) (hx : a.eval x = .int .i64 (i : Int))
    (h : MapOK w mb L f K) (hi : i < L) (hL : L ≤ 1000000) (hKi : K i = false) (hK : ∀ b : Nat, wpList Try.prog ops Q rest (a.put o.dst (.tuple #[natV b, .bool false])) w) : wpList Try.prog ops Q (o :: rest) a w := by
  obtain ⟨n, D, h1, h2, h3, h4, h5⟩ := h
  refine wpList_lookup_own_ok w hgd m x 105 ho 3 77 mapLaw Try.underlying105 natR (natZero w) _ [] (natR_mk (a := 0) (by decide)) mb n D hm h1 (.int .i64 (i : Int)) _ hx (mapKey i (by omega)) ?_
  intro v ps hv
  obtain ⟨b, hb, rfl, he⟩ := natR_inv hv
  rw [h4 i hi, hKi]
  exact hK b
theorem key_ne {i j : Nat} (h : j ≠ i) : (Lit.int .i64 (j : Int)) ≠ .int .i64 (i : Int) := by
  intro e
  injection e with _ e
  omega
theorem st_map (hgd : o.guard = none) (m x v : Operand) (ho : o.op = .mapUpdate 105 m x v) (hd : o.dst = none) (mb i L : Nat) (f : Nat → Nat) (K : Nat → Bool) (hm : a.eval m = .map (some mb)) (hx : a.eval x = .int .i64 (i : Int)) (hv : a.eval v = natV (f i))
    (h : MapOK w mb L f K) (hi : i < L) (hL : L ≤ 1000000) (hf : f i < 4294967296 ^ 20) (hKi : K i = false) (hK : ∀ w', MapOK w' mb L f (setK K i) → w.grownBy w' (some mb) → wpList Try.prog ops Q rest a w') : wpList Try.prog ops Q (o :: rest) a w := by
  obtain ⟨n, D, h1, h2, h3, h4, h5⟩ := h
  have hn := cnt_le K L
  have hkl := mapLaw.key (mapKey i (by omega))
  refine wpList_mapUpdate_own w hgd m x v 105 ho 3 77 mapLaw Try.underlying105 natR mb n D hm h1 (by unfold maxLen; omega) (.int .i64 (i : Int)) (natV (f i)) _ hx hv (mapKey i (by omega)) _ [] (natR_mk hf) ?_
  intro w' h1' hg
  rw [hd]
  refine hK w' ⟨n + 1, _, h1', by rw [cnt_set hKi L hi]; omega, h3.put _ _, fun j hj => ?_, fun j hj hk z => ?_⟩ hg
  · by_cases he : j = i
    · subst he; rw [Maps.has_put_same h3 hkl]; simp [setK]
    · rw [Maps.has_put_other (key_ne he), h4 j hj]; simp [setK, he]
  · by_cases he : j = i
    · subst he; rw [Maps.atKey_put_same h3 hkl]
    · rw [Maps.atKey_put_other (key_ne he)]
      exact h5 j hj (by simpa [setK, he] using hk) z
end
end Go.Proofs.Ytdgmpaijpjkeoaa
