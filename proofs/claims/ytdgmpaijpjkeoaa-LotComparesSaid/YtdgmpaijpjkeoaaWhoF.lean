/-
  WHOLE NUMBERS: Minus.
-/
import Derived.Test.YtdgmpaijpjkeoaaWhoE
namespace Go.Proofs.Ytdgmpaijpjkeoaa
open Go.RowKit
attribute [local go_sem] grow_cell grow_frozen
/-- append(Whole with no digits, x...). -/
theorem append_all {w : World} {ops : Array Oper} {rest : List Oper} {o : Oper} {a : Act} {Q : Exit → Act → World → Prop} (s x : Operand)
    (ho : o.op = .call { callee := .builtin .append, args := #[s, x], argTypes := #[80, 80] }) (hgd : o.guard = none)
    (W : World) (hW : w = W.alloc (.cells #[] 3)) (hs : a.eval s = .slice (some ⟨W.heap.size, 0, none⟩) 0 0) (b off n c : Nat) (xs : List Int) (hx : a.eval x = .slice (some ⟨b, off, none⟩) n c)
    (hL : IsL W (some ⟨b, off, none⟩) n xs) (hn0 : 0 < n) (hn : n ≤ 1000000)
    (h : ∀ g cap w', RowI w' g xs → W.heap.size ≤ g → n ≤ cap → Below W.heap.size W w' → wpList Try.prog ops Q rest (a.put o.dst (.slice (some ⟨g, 0, none⟩) n cap)) w') : wpList Try.prog ops Q (o :: rest) a w := by
  subst hW
  obtain ⟨hl, hc⟩ := hL
  obtain ⟨b', o', hA, hb, hcs⟩ := hc hn0
  cases hA
  obtain ⟨i0, hi, hz0, hz1, hz2⟩ := info_parts intInfo
  have hown : (W.alloc (.cells #[] 3)).ownsRow W.heap.size 3 1 (.slice (some ⟨W.heap.size, 0, none⟩) 0 0) 0 [] := ⟨rfl, .inr ⟨W.heap.size, 0, #[], rfl, Nat.le_refl _, heap_alloc_new W _, Nat.le_refl _, by unfold maxLen; omega, rfl, rfl⟩⟩
  refine wpList_append_lies (P := Try.prog) (w := W.alloc (.cells #[] 3)) hgd s x 80 ho W.heap.size 3 i0 (.int .i64 0) 1 8 Try.underlying80 hi hz0 hz1 hz2 rfl (by decide) _ 0 [] hs hown ⟨b, off, none⟩ n c (xs.map (Value.int .i64)) hx (by simp; omega)
    (by
      intro j u hu
      have hj : j < n := by
        have := (List.getElem?_eq_some_iff.1 hu).1
        simp at this; omega
      have e : u = .int .i64 (xs.getD j 0) := by
        have hj2 : j < xs.length := by omega
        simp [hj2] at hu
        rw [← hu]; simp [hj2]
      have ha : (⟨b, off, none⟩ : Addr).add j = ⟨b, off + j, none⟩ := by simp [Addr.add]
      rw [ha, e, World.cell?_of_block (a := ⟨b, off + j, none⟩) (heap_alloc_old W _ hb)]
      exact hcs j hj) (by intro u hu; obtain ⟨z, _, rfl⟩ := List.mem_map.1 hu; rfl) hn0 (by unfold maxLen; omega) (by omega) (by simp) (W.heap.size + 1) (by simp) ?_
  intro g cap w' h1 h2 h3 h4
  rw [Nat.zero_add, List.nil_append] at h1
  rw [Nat.zero_add]
  have hr := Row.of_own h1
  have hcap : n ≤ cap := by
    rcases h1.2 with ⟨hv, _⟩ | ⟨g', cap', cur, hv, _, _, hh, _⟩
    · cases hv
    · cases hv; exact hh
  refine h g cap w' hr.1 hr.2.2 hcap ?_
  exact ((Below.refl W.heap.size W).alloc (Nat.le_refl _) (.cells #[] 3)).grown h2 (by simp) (by intro k hk; simp [Value.ownBlock] at hk; omega)
theorem getD_i {xs : List Int} {k : Nat} (h : k < xs.length) : xs[k] = xs.getD k 0 := by
  rw [List.getD_eq_getElem?_getD, List.getElem?_eq_getElem h]; rfl
def vlI : List Int → Int
  | [] => 0
  | z :: r => z + 16777216 * vlI r
theorem vlI_casts (zs : List Nat) : vlI (casts zs) = (vlW zs : Int) := by
  induction zs with
  | nil => rfl
  | cons z r ih =>
    have e : casts (z :: r) = (z : Int) :: casts r := rfl
    rw [e, vlI, ih, vlW]; omega
theorem vlI_append (xs ys : List Int) : vlI (xs ++ ys) = vlI xs + ((16777216 ^ xs.length : Nat) : Int) * vlI ys := by
  induction xs with
  | nil => simp [vlI]
  | cons x xs ih =>
    simp only [List.cons_append, vlI, ih, List.length_cons, Nat.pow_succ]
    rw [Int.mul_add, Int.natCast_mul, Int.mul_comm (((16777216 ^ xs.length : Nat) : Int)) ((16777216 : Nat) : Int), Int.mul_assoc]
    omega
theorem vlI_set {xs : List Int} {k : Nat} (h : k < xs.length) (v : Int) : vlI (xs.set k v) = vlI xs + ((16777216 ^ k : Nat) : Int) * (v - xs.getD k 0) := by
  have e1 : xs = xs.take k ++ xs[k] :: xs.drop (k + 1) := by
    conv => lhs; rw [← List.take_append_drop k xs, List.drop_eq_getElem_cons h]
  have e2 : xs.set k v = xs.take k ++ v :: xs.drop (k + 1) := by rw [List.set_eq_take_append_cons_drop, if_pos h]
  have hl : (xs.take k).length = k := by rw [List.length_take]; omega
  have e3 : vlI xs = vlI (xs.take k) + ((16777216 ^ k : Nat) : Int) * (xs[k] + 16777216 * vlI (xs.drop (k + 1))) := by
    conv => lhs; rw [e1, vlI_append, vlI, hl]
  rw [← getD_i h, e2, vlI_append, vlI, hl, e3, Int.mul_add, Int.mul_add, Int.mul_sub]
  omega
/-- Digits that are all in range are those of a natural number. -/
theorem casts_of {xs : List Int} (h : ∀ j, j < xs.length → 0 ≤ xs.getD j 0 ∧ xs.getD j 0 < 16777216) : ∃ zs : List Nat, casts zs = xs ∧ ∀ z ∈ zs, z < 16777216 := by
  refine ⟨xs.map Int.toNat, ?_, ?_⟩
  · apply List.ext_getElem
    · simp [casts]
    · intro i h1 h2
      have := h i h2
      rw [← getD_i h2] at this
      simp [casts]; omega
  · intro z hz
    obtain ⟨x, hx, rfl⟩ := List.mem_map.1 hz
    obtain ⟨i, hi, rfl⟩ := List.getElem_of_mem hx
    have := h i hi
    rw [← getD_i hi] at this
    omega
theorem getD_set {xs : List Int} {k j : Nat} (v : Int) (hk : k < xs.length) : (xs.set k v).getD j 0 = if j = k then v else xs.getD j 0 := by
  rw [List.getD_eq_getElem?_getD, List.getElem?_set, List.getD_eq_getElem?_getD]
  by_cases h : k = j
  · subst h; rw [if_pos rfl, if_pos hk, if_pos rfl]; rfl
  · rw [if_neg h, if_neg (fun e => h e.symm)]
/-- Digits below k in range, the last of them below 0: the number is below 0. -/
theorem vlI_low {xs : List Int} (h : ∀ j, j < xs.length → 0 ≤ xs.getD j 0 ∧ xs.getD j 0 < 16777216) : 0 ≤ vlI xs ∧ vlI xs < ((16777216 ^ xs.length : Nat) : Int) := by
  obtain ⟨zs, rfl, hz⟩ := casts_of h
  have := vlW_lt hz
  rw [vlI_casts, casts_length]
  omega
theorem last_neg {xs : List Int} {k : Nat} (hk : xs.length = k + 1) (h : ∀ j, j < k → 0 ≤ xs.getD j 0 ∧ xs.getD j 0 < 16777216) (hv : 0 ≤ vlI xs) : 0 ≤ xs.getD k 0 := by
  have e1 : xs = xs.take k ++ [xs[k]] := by
    conv => lhs; rw [← List.take_append_drop k xs, List.drop_eq_getElem_cons (by omega), List.drop_eq_nil_of_le (by omega)]
  have hl : (xs.take k).length = k := by rw [List.length_take]; omega
  have h2 := vlI_low (xs := xs.take k) (fun j hj => by
    rw [hl] at hj
    have := h j hj
    rw [List.getD_eq_getElem?_getD, List.getElem?_take, if_pos hj, ← List.getD_eq_getElem?_getD]
    exact this)
  rw [hl] at h2
  rw [e1, vlI_append, hl] at hv
  rw [← getD_i (by omega)]
  simp only [vlI, Int.mul_zero, Int.add_zero] at hv
  rcases Int.lt_or_le (xs[k]'(by omega)) 0 with g | g
  · have : ((16777216 ^ k : Nat) : Int) * (xs[k]'(by omega)) ≤ ((16777216 ^ k : Nat) : Int) * (-1) := Int.mul_le_mul_of_nonneg_left (by omega) (by omega)
    omega
  · exact g
end Go.Proofs.Ytdgmpaijpjkeoaa
