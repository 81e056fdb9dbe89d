/-
  Contains, Has, week, isOpen AND open: WHICH DAYS ARE OPEN.
-/
import Derived.Test.YtdgmpaijpjkeoaaCalA
namespace Go.Proofs.Ytdgmpaijpjkeoaa
open Go.RowKit
/-- None of the first k numbers is v. -/
def NotIn (xs : List Int) (v : Int) (k : Nat) : Prop := ∀ i, i < k → xs.getD i 0 ≠ v
theorem NotIn.succ {xs : List Int} {v : Int} {k : Nat} (h : NotIn xs v k) (h1 : xs.getD k 0 ≠ v) : NotIn xs v (k + 1) := by
  intro i hi
  rcases Nat.lt_succ_iff_lt_or_eq.1 hi with h' | rfl
  · exact h i h'
  · exact h1
theorem NotIn.all {xs : List Int} {v : Int} (h : NotIn xs v xs.length) : decide (v ∈ xs) = false := by
  rw [decide_eq_false_iff_not]
  intro hv
  obtain ⟨i, hi, he⟩ := List.mem_iff_getElem.1 hv
  exact h i hi (by rw [List.getD_eq_getElem?_getD, List.getElem?_eq_getElem hi]; exact he)
theorem mem_getD {xs : List Int} {v : Int} {k : Nat} (hk : k < xs.length) (h : xs.getD k 0 = v) : decide (v ∈ xs) = true := by
  rw [decide_eq_true_eq]
  rw [List.getD_eq_getElem?_getD, List.getElem?_eq_getElem hk] at h
  rw [← h]
  exact List.getElem_mem hk
/-- r is at least 0 exactly if b holds. -/
def IdxIs (r : Int) (b : Bool) : Prop := decide (0 ≤ r) = b
set_option maxHeartbeats 2000000 in
theorem has_any (A : Option Addr) (n c : Nat) (xs : List Int) (v : Int) (w : World) (hx : IsL w A n xs) (hn : n ≤ 4611686018427387904) :
    Calls Try.prog 46 #[.slice A n c, .int .i64 v] w fun e w' => e = .returned (.bool (decide (v ∈ xs))) ∧ w = w' := by
  have HL := Lib.hid hx.1
  go_enter Try.func46, Try.ntmps46
  go_wp2
  go_loop [5] (fun i => ∃ k : Nat, i = .int .i64 k ∧ k ≤ n ∧ Hid (NotIn xs v k)) (fun i => n - (intOf i).toNat)
  case atStart => exact ⟨0, rfl, by omega, fun i hi => by omega⟩
  case round =>
    obtain ⟨k, rfl, hk, hs⟩ := hrel
    by_cases hlt : k < n
    · obtain ⟨bk, o, hA, hlt', hc⟩ := hx.2 (by omega)
      have h0 := hc k hlt
      obtain ⟨x, hxx⟩ : ∃ x, xs.getD k 0 = x := ⟨_, rfl⟩
      rw [hxx] at h0
      subst hA
      by_cases c1 : x = v
      · subst c1
        have HX := Lib.hid hxx
        clear hxx hc hx
        go_wp2
        go_ret
        exact ⟨ret_bool (mem_getD (by rw [HL.out]; exact hlt) HX.out).symm, rfl⟩
      · have c2 : (x == v) = false := by rw [beq_eq_false_iff_ne]; exact c1
        have HX := Lib.hid hxx
        have C1 := Lib.hid c1
        clear hxx hc hx c1
        go_wp2
        go_round
        case rel => exact ⟨k + 1, by go_num, by omega, NotIn.succ hs.out (by rw [HX.out]; exact C1.out)⟩
        case measure => simp [intOf]; omega
    · have : k = n := by omega
      subst this
      go_wp2
      go_ret
      exact ⟨ret_bool (NotIn.all (by rw [HL.out]; exact hs.out)).symm, rfl⟩
/-- Block b holds seven truths and may be written. -/
def Seven (w : World) (b : Nat) (f : Nat → Bool) : Prop := (∀ j, j < 7 → w.cell? ⟨b, j, none⟩ = some (.bool (f j)) ∧ w.frozen? ⟨b, j, none⟩ = false) ∧ b < w.heap.size
theorem Seven.below {B b : Nat} {W w1 : World} {f : Nat → Bool} (hb : Below B W w1) (hB : b < B) (h : Seven W b f) : Seven w1 b f :=
  ⟨fun j hj => ⟨(hb.cell (p := ⟨b, j, none⟩) hB).trans (h.1 j hj).1, (hb.frozen (p := ⟨b, j, none⟩) hB).trans (h.1 j hj).2⟩, Nat.lt_of_lt_of_le h.2 hb.size⟩
theorem Seven.keep {b : Nat} {W w1 : World} {f : Nat → Bool} (hb : Below W.heap.size W w1) (h : Seven W b f) : Seven w1 b f := h.below hb h.2
theorem Seven.alloc {b : Nat} {w : World} {f : Nat → Bool} (h : Seven w b f) (o : Obj) : Seven (w.alloc o) b f := h.below ((Below.refl w.heap.size w).alloc (Nat.le_refl _) o) h.2
theorem Seven.other {b : Nat} {w : World} {f : Nat → Bool} (h : Seven w b f) {p : Addr} (hp : b ≠ p.block) (u : Value) : Seven (w.setCell p u) b f := by
  have hh := Below.heap_setCell w p u b hp
  exact ⟨fun j hj => ⟨(World.cell?_of_block (a := ⟨b, j, none⟩) hh).trans (h.1 j hj).1, (World.frozen?_of_block (a := ⟨b, j, none⟩) hh).trans (h.1 j hj).2⟩, by simpa [World.setCell] using h.2⟩
theorem Seven.set {b : Nat} {w : World} {f g : Nat → Bool} (h : Seven w b f) (d : Nat) (u : Bool) (hg : ∀ j, g j = if j = d then u else f j) : Seven (w.setCell ⟨b, d, none⟩ (.bool u)) b g := by
  refine ⟨fun j hj => ⟨?_, ?_⟩, by simpa [World.setCell] using h.2⟩
  · rw [hg]
    by_cases hd : j = d
    · subst hd
      rw [if_pos rfl]
      exact World.cell?_setCell_same _ _ _ (h.1 j hj).1
    · rw [if_neg hd, World.cell?_setCell_other _ _ _ _ (by simp only [ne_eq, Addr.mk.injEq, not_and]; exact fun _ h => absurd h.symm hd)]
      exact (h.1 j hj).1
  · rw [World.frozen?_setCell]
    exact (h.1 j hj).2
/-- j is among the first k numbers. -/
def isIn (xs : List Int) (k j : Nat) : Bool := decide ((j : Int) ∈ xs.take k)
theorem isIn_zero (xs : List Int) (j : Nat) : isIn xs 0 j = false := by simp [isIn]
theorem isIn_all (xs : List Int) (j : Nat) : isIn xs xs.length j = decide ((j : Int) ∈ xs) := by simp [isIn]
theorem isIn_succ (xs : List Int) (k : Nat) (hk : k < xs.length) (d : Nat) (hd : xs.getD k 0 = d) (j : Nat) : isIn xs (k + 1) j = if j = d then true else isIn xs k j := by
  rw [List.getD_eq_getElem?_getD, List.getElem?_eq_getElem hk, Option.getD_some] at hd
  simp only [isIn, List.take_add_one, List.getElem?_eq_getElem hk, Option.toList_some, List.mem_append, List.mem_singleton, hd]
  by_cases h : j = d
  · simp [h]
  · rw [if_neg h]
    have : ¬ ((j : Int) = (d : Int)) := by omega
    simp [this]
/-- The seven truths as a value. -/
def wkv (f : Nat → Bool) : Value := .agg #[.bool (f 0), .bool (f 1), .bool (f 2), .bool (f 3), .bool (f 4), .bool (f 5), .bool (f 6)]
end Go.Proofs.Ytdgmpaijpjkeoaa
