/-
  BOOKS: the names of accounts, ascending; the balances of all accounts add up to nothing (plain).
-/
import Derived.Test.YtaadelcmhbgpnaaGreatDoorSidB
import Derived.Lib.SlicesCompact
import Derived.Test.YtaadelcmhbgpnaaGreatDoorBokS
import Derived.Test.YtaadelcmhbgpnaaGreatDoorShelf
import Derived.Test.YtaadelcmhbgpnaaGreatDoorSortS
import Derived.Lib.RowBridge
namespace Go.Proofs.YtaadelcmhbgpnaaGreatDoor
open Go.RowKit
open Go.Lib
def bLt (x y : ByteArray) : Prop := x.data.toList < y.data.toList
instance bLtDec (x y : ByteArray) : Decidable (bLt x y) := inferInstanceAs (Decidable (x.data.toList < y.data.toList))
theorem bLt_irrefl (x : ByteArray) : ¬ bLt x x := List.lt_irrefl _
theorem bLt_trans {x y z : ByteArray} (h : bLt x y) (h2 : bLt y z) : bLt x z := List.lt_trans h h2
theorem bLt_tri {x y : ByteArray} (h : ¬ bLt x y) (h2 : x ≠ y) : bLt y x := by
  by_cases h3 : bLt y x
  · exact h3
  · exact absurd (toList_eq (List.le_antisymm (List.not_lt.1 h3) (List.not_lt.1 h))) h2
/-- An ascending list with one more, once. -/
def putB : List ByteArray → ByteArray → List ByteArray
  | [], s => [s]
  | x :: l, s => if bLt x s then x :: putB l s else if x = s then s :: l else s :: x :: l
def Asc (l : List ByteArray) : Prop := l.Pairwise bLt
theorem putB_mem {l : List ByteArray} {s x : ByteArray} : x ∈ putB l s ↔ x = s ∨ x ∈ l := by
  induction l with
  | nil => simp [putB]
  | cons y l ih =>
    unfold putB
    split
    · simp only [List.mem_cons, ih]
      constructor
      · rintro (h | h | h)
        · exact .inr (.inl h)
        · exact .inl h
        · exact .inr (.inr h)
      · rintro (h | h | h)
        · exact .inr (.inl h)
        · exact .inl h
        · exact .inr (.inr h)
    · split
      · rename_i h1 h2
        subst h2
        simp
      · simp
theorem putB_asc {l : List ByteArray} {s : ByteArray} (h : Asc l) : Asc (putB l s) := by
  induction l with
  | nil => exact List.pairwise_singleton _ _
  | cons y l ih =>
    obtain ⟨h1, h2⟩ := List.pairwise_cons.1 h
    unfold putB
    split
    · rename_i hy
      refine List.pairwise_cons.2 ⟨fun z hz => ?_, ih h2⟩
      rcases putB_mem.1 hz with rfl | hz
      · exact hy
      · exact h1 z hz
    · split
      · rename_i hs
        subst hs
        exact h
      · rename_i hn hs
        have hl := bLt_tri hn hs
        refine List.pairwise_cons.2 ⟨fun z hz => ?_, h⟩
        rcases List.mem_cons.1 hz with rfl | hz
        · exact hl
        · exact bLt_trans hl (h1 z hz)
theorem asc_uniq {l m : List ByteArray} (h1 : Asc l) (h2 : Asc m) (h : ∀ x, x ∈ l ↔ x ∈ m) : l = m := by
  induction l generalizing m with
  | nil =>
    cases m with
    | nil => rfl
    | cons y m => exact absurd ((h y).2 (by simp)) (by simp)
  | cons x l ih =>
    cases m with
    | nil => exact absurd ((h x).1 (by simp)) (by simp)
    | cons y m =>
      obtain ⟨p1, p2⟩ := List.pairwise_cons.1 h1
      obtain ⟨q1, q2⟩ := List.pairwise_cons.1 h2
      have hxy : x = y := by
        rcases List.mem_cons.1 ((h x).1 (by simp)) with e | e
        · exact e
        · rcases List.mem_cons.1 ((h y).2 (by simp)) with e2 | e2
          · exact e2.symm
          · exact absurd (bLt_trans (p1 y e2) (q1 x e)) (bLt_irrefl _)
      subst hxy
      rw [ih p2 q2 fun z => ?_]
      have hz := h z
      rw [List.mem_cons, List.mem_cons] at hz
      constructor
      · intro hm
        rcases hz.1 (.inr hm) with e | e
        · subst e; exact absurd (p1 z hm) (bLt_irrefl _)
        · exact e
      · intro hm
        rcases hz.2 (.inr hm) with e | e
        · subst e; exact absurd (q1 z hm) (bLt_irrefl _)
        · exact e
/-- The names of the accounts, ascending, each once. -/
def accT (l : List (Bool × Po)) : List ByteArray := l.foldl (fun acc y => putB acc (sdN y)) []
theorem accT_snoc (l : List (Bool × Po)) (y : Bool × Po) : accT (l ++ [y]) = putB (accT l) (sdN y) := by
  unfold accT; rw [List.foldl_append]; rfl
theorem list_rev {α : Type} {p : List α → Prop} (h0 : p []) (h1 : ∀ l x, p l → p (l ++ [x])) (l : List α) : p l := by
  have h : ∀ n, ∀ l : List α, l.length = n → p l := by
    intro n
    induction n with
    | zero => intro l hl; rw [List.length_eq_zero_iff.1 hl]; exact h0
    | succ n ih =>
      intro l hl
      have hne : l ≠ [] := by intro h; rw [h] at hl; simp at hl
      rw [← List.dropLast_concat_getLast hne]
      exact h1 _ _ (ih _ (by simp; omega))
  exact h _ l rfl
theorem accT_asc (l : List (Bool × Po)) : Asc (accT l) := by
  induction l using list_rev with
  | h0 => exact List.Pairwise.nil
  | h1 l x ih => rw [accT_snoc]; exact putB_asc ih
theorem accT_mem (l : List (Bool × Po)) (x : ByteArray) : x ∈ accT l ↔ x ∈ l.map sdN := by
  induction l using list_rev with
  | h0 => simp [accT]
  | h1 l y ih => rw [accT_snoc, putB_mem, ih, List.map_append, List.mem_append]; simp [or_comm]
/-! ### Sort and Compact -/
theorem compactUpTo_sorted (d : Array (List UInt8)) (hs : ∀ i j, i < j → j < d.size → d[i]! ≤ d[j]!) : ∀ m, m ≤ d.size → (compactUpTo d m).Pairwise (· < ·) ∧ ∀ x, x ∈ compactUpTo d m ↔ ∃ j, j < m ∧ d[j]! = x
  | 0, _ => ⟨by simp [compactUpTo], fun x => by simp [compactUpTo]⟩
  | m + 1, hm => by
    obtain ⟨h1, h2⟩ := compactUpTo_sorted d hs m (by omega)
    rw [compactUpTo_succ]
    by_cases hk : keeps d m
    · rw [if_pos hk]
      constructor
      · refine List.pairwise_append.2 ⟨h1, List.pairwise_singleton _ _, fun x hx y hy => ?_⟩
        rw [List.mem_singleton.1 hy]
        obtain ⟨j, hj, rfl⟩ := (h2 x).1 hx
        have hle := hs j m hj (by omega)
        by_cases he : d[j]! < d[m]!
        · exact he
        · exfalso
          have he2 : d[m]! ≤ d[j]! := List.not_lt.1 he
          have hne : d[m]! ≠ d[m - 1]! := by
            have : m = 0 ∨ d[m]! ≠ d[m - 1]! := by simpa [keeps] using hk
            rcases this with h | h
            · omega
            · exact h
          have h3 : d[j]! ≤ d[m - 1]! := by
            by_cases e : j = m - 1
            · rw [← e]; exact List.le_refl _
            · exact hs j (m - 1) (by omega) (by omega)
          have h4 := hs (m - 1) m (by omega) (by omega)
          exact hne (List.le_antisymm (List.le_trans he2 h3) h4)
      · intro x
        rw [List.mem_append, h2, List.mem_singleton]
        constructor
        · rintro (⟨j, hj, rfl⟩ | rfl)
          · exact ⟨j, by omega, rfl⟩
          · exact ⟨m, by omega, rfl⟩
        · rintro ⟨j, hj, rfl⟩
          by_cases e : j = m
          · subst e; exact .inr rfl
          · exact .inl ⟨j, by omega, rfl⟩
    · rw [if_neg hk, List.append_nil]
      refine ⟨h1, fun x => ?_⟩
      rw [h2]
      have hne : ¬ (m = 0 ∨ d[m]! ≠ d[m - 1]!) := by simpa [keeps] using hk
      have h0 : m ≠ 0 := fun h => hne (.inl h)
      have he : d[m]! = d[m - 1]! := Classical.byContradiction fun h => hne (.inr h)
      constructor
      · rintro ⟨j, hj, rfl⟩
        exact ⟨j, by omega, rfl⟩
      · rintro ⟨j, hj, rfl⟩
        by_cases e : j = m
        · subst e; exact ⟨j - 1, by omega, he.symm⟩
        · exact ⟨j, by omega, rfl⟩
theorem sort_asc (ss : List (List UInt8)) : (compact (ss.mergeSort fun x y => decide (x ≤ y))).Pairwise (· < ·) ∧ ∀ x, x ∈ compact (ss.mergeSort fun x y => decide (x ≤ y)) ↔ x ∈ ss := by
  obtain ⟨zs, hz⟩ : ∃ zs, zs = ss.mergeSort fun x y => decide (x ≤ y) := ⟨_, rfl⟩
  have hp : zs.Pairwise (fun x y => (decide (x ≤ y)) = true) := by
    rw [hz]
    exact List.pairwise_mergeSort (fun a b c h1 h2 => by simp only [decide_eq_true_eq] at *; exact List.le_trans h1 h2) (fun a b => by simp only [Bool.or_eq_true, decide_eq_true_eq]; exact List.le_total a b) ss
  have hm : ∀ x, x ∈ zs ↔ x ∈ ss := fun x => by rw [hz, List.mem_mergeSort]
  rw [← hz]
  have hs : ∀ i j, i < j → j < zs.toArray.size → zs.toArray[i]! ≤ zs.toArray[j]! := by
    intro i j hi hj
    have hj' : j < zs.length := by simpa using hj
    have := List.pairwise_iff_getElem.1 hp i j (by omega) hj' hi
    simp only [decide_eq_true_eq] at this
    rw [getElem!_pos zs.toArray i (by simp; omega), getElem!_pos zs.toArray j hj]
    simpa using this
  obtain ⟨h1, h2⟩ := compactUpTo_sorted zs.toArray hs zs.length (by simp)
  refine ⟨h1, fun x => ?_⟩
  unfold compact
  rw [h2, ← hm x, List.mem_iff_getElem]
  constructor
  · rintro ⟨j, hj, rfl⟩
    exact ⟨j, hj, by rw [getElem!_pos zs.toArray j (by simpa using hj)]; simp⟩
  · rintro ⟨j, hj, rfl⟩
    exact ⟨j, hj, by rw [getElem!_pos zs.toArray j (by simpa using hj)]; simp⟩
def ofL (l : List UInt8) : ByteArray := ⟨l.toArray⟩
theorem ofL_data (l : List UInt8) : (ofL l).data.toList = l := rfl
/-- What Sort and Compact make of the names. -/
theorem sort_names (l : List (Bool × Po)) : (compact (((l.map sdN).map (·.data.toList)).mergeSort fun x y => decide (x ≤ y))).map ofL = accT l := by
  obtain ⟨h1, h2⟩ := sort_asc ((l.map sdN).map (·.data.toList))
  refine asc_uniq ?_ (accT_asc l) fun x => ?_
  · exact List.pairwise_map.2 (h1.imp fun h => h)
  · rw [accT_mem, List.mem_map]
    constructor
    · rintro ⟨y, hy, rfl⟩
      obtain ⟨z, hz, rfl⟩ := List.mem_map.1 ((h2 y).1 hy)
      exact hz
    · intro hx
      exact ⟨x.data.toList, (h2 _).2 (List.mem_map.2 ⟨x, hx, rfl⟩), toList_eq (ofL_data _)⟩
/-! ### The balances add up to nothing -/
theorem balS_snoc (l : List (Bool × Po)) (y : Bool × Po) (a : ByteArray) : balS (l ++ [y]) a = if sdN y = a then balS l a + sdA y else balS l a := by
  unfold balS; rw [List.foldl_append]; rfl
theorem sum_snoc (N : List ByteArray) (hN : Asc N) (l : List (Bool × Po)) (y : Bool × Po) (hy : sdN y ∈ N) : (N.map (balS (l ++ [y]))).sum = (N.map (balS l)).sum + sdA y := by
  have hout : ∀ M : List ByteArray, sdN y ∉ M → (M.map (balS (l ++ [y]))).sum = (M.map (balS l)).sum := by
    intro M
    induction M with
    | nil => intro _; rfl
    | cons b M ih =>
      intro h
      rw [List.mem_cons, not_or] at h
      rw [List.map_cons, List.map_cons, List.sum_cons, List.sum_cons, ih h.2, balS_snoc, if_neg h.1]
  induction N with
  | nil => simp at hy
  | cons b N ih =>
    obtain ⟨p1, p2⟩ := List.pairwise_cons.1 hN
    rw [List.map_cons, List.map_cons, List.sum_cons, List.sum_cons, balS_snoc]
    rcases List.mem_cons.1 hy with e | e
    · rw [if_pos e, hout N fun hm => bLt_irrefl b (by have := p1 _ hm; rw [e] at this; exact this)]
      omega
    · rw [ih p2 e, if_neg fun h => bLt_irrefl b (by have := p1 _ e; rw [h] at this; exact this)]
      omega
theorem sum_all (N : List ByteArray) (hN : Asc N) (l : List (Bool × Po)) : (∀ y ∈ l, sdN y ∈ N) → (N.map (balS l)).sum = (l.map sdA).sum := by
  induction l using list_rev with
  | h0 =>
    intro _
    have : ∀ M : List ByteArray, (M.map (balS [])).sum = 0 := by
      intro M
      induction M with
      | nil => rfl
      | cons b M ih => rw [List.map_cons, List.sum_cons, ih]; rfl
    rw [this]; rfl
  | h1 l y ih =>
    intro h
    rw [sum_snoc N hN l y (h y (by simp)), ih (fun z hz => h z (by simp [hz])), List.map_append, List.sum_append]
    simp
theorem sdL_sum (l : List Po) : ((sdL l).map sdA).sum = 0 := by
  induction l with
  | nil => rfl
  | cons x l ih =>
    have : sdL (x :: l) = [(true, x), (false, x)] ++ sdL l := by unfold sdL; rw [List.flatMap_cons]
    rw [this, List.map_append, List.sum_append, ih]
    simp [sdA]; omega
theorem trial_zero (l : List Po) : ((accT (sdL l)).map (balS (sdL l))).sum = 0 := by
  rw [sum_all _ (accT_asc _) _ fun y hy => (accT_mem _ _).2 (List.mem_map.2 ⟨y, hy, rfl⟩), sdL_sum]
theorem balS_bound (l : List (Bool × Po)) (hb : ∀ y ∈ l, 1 ≤ y.2.p ∧ y.2.p ≤ 1099511627776) (a : ByteArray) : -(l.length * 1099511627776) ≤ balS l a ∧ balS l a ≤ l.length * 1099511627776 := by
  induction l using list_rev with
  | h0 => exact ⟨by simp [balS], by simp [balS]⟩
  | h1 l y ih =>
    obtain ⟨h1, h2⟩ := ih fun z hz => hb z (by simp [hz])
    obtain ⟨h3, h4⟩ := hb y (by simp)
    rw [balS_snoc, List.length_append]
    have : -1099511627776 ≤ sdA y ∧ sdA y ≤ 1099511627776 := by
      unfold sdA; split <;> omega
    simp only [List.length_cons, List.length_nil]
    split <;> omega
theorem accT_len (l : List (Bool × Po)) : (accT l).length ≤ l.length := by
  have hp : ∀ m s, (putB m s).length ≤ m.length + 1 := by
    intro m s
    induction m with
    | nil => simp [putB]
    | cons x m ih =>
      unfold putB
      split
      · simpa using ih
      · split <;> simp
  induction l using list_rev with
  | h0 => simp [accT]
  | h1 l y ih =>
    rw [accT_snoc, List.length_append]
    have := hp (accT l) (sdN y)
    simp only [List.length_cons, List.length_nil]
    omega
end Go.Proofs.YtaadelcmhbgpnaaGreatDoor
/-
  BOOKS: Sort and Compact of own texts; Accounts, Balance, of the program.
-/
namespace Go.Proofs.YtaadelcmhbgpnaaGreatDoor
open Go.RowKit
open Go.Lib
/-- The slice value v holds the texts l in memory from block B on; its cells may be written. -/
def HoS (w : World) (B : Nat) (v : Value) (l : List (List UInt8)) : Prop :=
  (l = [] ∧ ∃ p c, v = .slice p 0 c) ∨ ∃ g c, v = .slice (some ⟨g, 0, none⟩) l.length c ∧ l.length ≤ c ∧ B ≤ g ∧ g < w.heap.size ∧ Go.Sort.Holds encStr w g 0 l.toArray
theorem OwnS.ho {w : World} {B : Nat} {v : Value} {xs : List ByteArray} (h : OwnS w B v xs) : HoS w B v (xs.map (·.data.toList)) := by
  rcases h.2 with ⟨hv, h0⟩ | ⟨g, cap, cur, hv, hb, hg, hn, -, hs, ht⟩
  · exact .inl ⟨by rw [List.length_eq_zero_iff.1 h0]; rfl, none, 0, hv⟩
  · subst hv
    have hr := (Row.of_own h).1
    refine .inr ⟨g, cap, by simp, by simpa using hn, hb, hr.lt, fun j hj => ?_⟩
    have hj' : j < xs.length := by simpa using hj
    refine ⟨?_, ?_⟩
    · rw [Nat.zero_add, hr.get j (by simpa using hj')]
      simp [hj', encStr]
    · rw [Nat.zero_add]; exact hr.free j
theorem put_below {B g : Nat} {w : World} (hB : B ≤ g) (n : Nat) (d : Array (List UInt8)) : Below B w (Go.Sort.putRow encStr (Go.Sort.ahead w n) g 0 d) :=
  ⟨rfl, rfl, rfl, by simp, fun k hk => by
    simp only [Go.Sort.putRow, Go.Sort.mapBlock, Array.getElem?_modify]
    rw [if_neg (by omega)]; rfl⟩
theorem sgrow_below {B : Nat} {w : World} (hB : B ≤ w.heap.size) (os : Array Obj) : Below B w (Go.Sort.grow w os) :=
  ⟨rfl, rfl, rfl, by simp, fun k hk => Go.Sort.heap_grow_old w os (by omega)⟩
theorem sort_any (w : World) (B : Nat) (v : Value) (l : List (List UInt8)) (hn : l.length ≤ 1000000) (hB : B ≤ w.heap.size) (h : HoS w B v l) :
    Calls Tryz.prog 52 #[v] w fun e w' => e = .returned (.tuple #[]) ∧ HoS w' B v (l.mergeSort fun x y => decide (x ≤ y)) ∧ Below B w w' := by
  rcases h with ⟨rfl, p, c, rfl⟩ | ⟨g, c, rfl, hc, hg, hlt, hh⟩
  · refine (Tryz.slices_Sort_string_none p c w).mono ?_
    rintro e w1 ⟨he, rfl⟩
    exact ⟨he, .inl ⟨by simp, p, c, rfl⟩, Below.refl _ _⟩
  · refine (Tryz.slices_Sort_string g 0 c l w hh hlt (by omega)).mono ?_
    rintro e w1 ⟨he, n, os, rfl⟩
    have hp := put_below (w := w) hg n (l.mergeSort fun x y => decide (x ≤ y)).toArray
    refine ⟨he, .inr ⟨g, c, by rw [List.length_mergeSort], by rw [List.length_mergeSort]; exact hc, hg, by simp; omega, ?_⟩, hp.trans (sgrow_below (Nat.le_trans hB hp.size) os)⟩
    refine Go.Sort.holds_grow _ _ _ _ _ _ (by simpa using hlt) ?_
    exact Go.Sort.holds_putRow encStr (Go.Sort.ahead w n) g 0 l.toArray _ hh (by simp [List.length_mergeSort])
theorem compact_any (w : World) (B : Nat) (v : Value) (l : List (List UInt8)) (hn : l.length ≤ 1000000) (h : HoS w B v l) :
    Calls Tryz.prog 53 #[v] w fun e w' => ∃ A c, e = .returned (.slice A (compact l).length c) ∧ IsS w' A (compact l).length ((compact l).map ofL) ∧ Below B w w' := by
  rcases h with ⟨rfl, p, c, rfl⟩ | ⟨g, c, rfl, hc, hg, hlt, hh⟩
  · refine (Tryz.slices_Compact_string_empty p c w).mono ?_
    rintro e w1 ⟨he, rfl⟩
    refine ⟨p, c, he, ⟨by simp, fun h => ?_⟩, Below.refl _ _⟩
    simp [compact, compactUpTo] at h
  · refine (Tryz.slices_Compact_string g 0 c l w hh (by omega) hc).mono ?_
    rintro e w1 ⟨he, q, rfl⟩
    have hle := compact_length_le l
    refine ⟨_, c, he, ⟨by simp, fun h => ⟨g, 0, rfl, by simpa using hlt, fun i hi => ?_⟩⟩, put_below hg _ _⟩
    have hi' : i < (compact l).length := by simpa using hi
    rw [Go.Sort.cell?_putRow encStr (Go.Sort.ahead w q) g 0 l.toArray _ hh (by simp; omega) i (by simp; omega)]
    rw [getElem!_pos _ _ (by simp; omega)]
    simp [List.getElem_append_left hi', encStr, ofL]
def balV (l : List Po) (a : ByteArray) : Int := if valPo l = 0 then balS (sdL l) a else 0
def accsV (l : List Po) : List ByteArray := if valPo l = 0 then accT (sdL l) else []
def triV (l : List Po) : List Int := (accsV l).map (balS (sdL l))
theorem val_bd {l : List Po} (h : valPo l = 0) : l.length ≤ 64 ∧ ∀ y ∈ sdL l, 1 ≤ y.2.p ∧ y.2.p ≤ 1099511627776 := by
  unfold valPo at h
  split at h
  · cases h
  · split at h
    · cases h
    · split at h
      · cases h
      · rename_i h1 h2 h3
        refine ⟨by omega, fun y hy => ?_⟩
        have h4 : l.all okP = true := by simpa using h3
        obtain ⟨x, hx, hy'⟩ := List.mem_flatMap.1 hy
        have hk := List.all_eq_true.1 h4 x hx
        have : y.2 = x := by
          rcases List.mem_cons.1 hy' with e | e
          · rw [e]
          · rw [List.mem_singleton.1 e]
        rw [this]
        unfold okP at hk
        simp at hk
        omega
set_option maxRecDepth 100000 in
set_option maxHeartbeats 2000000 in
theorem pbal_any (l : List Po) (A : Option Addr) (c : Nat) (a : ByteArray) (hn : l.length ≤ 1000) (w : World) (hI : IsPo w A l) :
    Calls Tryz.prog 24 #[.slice A l.length c, .string a] w fun e w' => e = .returned (.tuple #[.int .i64 (balV l a), .int .i64 (valPo l)]) ∧ Below w.heap.size w w' := by
  have HI := Lib.hid hI
  clear hI
  go_enter Tryz.func24, Tryz.ntmps24
  go_wp2_with fail
  refine (pval_any l A c (by omega) w HI.out).mono ?_
  rintro e w1 ⟨rfl, hb1⟩
  have HB1 := Lib.hid hb1
  clear hb1
  by_cases hv : valPo l = 0
  · have HBD := Lib.hid (val_bd hv)
    have HV := Lib.hid hv
    rw [hv]
    clear hv
    go_wp2_with fail
    refine (psides_any l A c hn w1 (HI.out.below HB1.out)).mono ?_
    rintro e w2 ⟨v, rfl, hO, hb2⟩
    obtain ⟨A2, c2, rfl, hS, -⟩ := hO.parts
    have HS := Lib.hid hS
    have HB2 := Lib.hid (HB1.out.trans (hb2.mono HB1.out.size))
    clear hO hS hb2
    go_wp2_with fail
    refine (pbalance_any (sdL l) A2 c2 a (by rw [sdL_len]; have := HBD.out.1; omega) HBD.out.2 w2 HS.out).mono ?_
    rintro e w3 ⟨rfl, hb3⟩
    have HB3 := Lib.hid (HB2.out.trans (hb3.mono HB2.out.size))
    clear hb3
    go_wp2
    go_ret2
    exact ⟨by unfold balV; rw [if_pos HV.out, HV.out] <;> rfl, HB3.out⟩
  · have dv : (valPo l != 0) = true := by simpa using hv
    have HV := Lib.hid hv
    clear hv
    go_wp2
    go_ret2
    exact ⟨by unfold balV; rw [if_neg HV.out] <;> rfl, HB1.out⟩
set_option maxRecDepth 100000 in
set_option maxHeartbeats 2000000 in
theorem paccs_any (l : List Po) (A : Option Addr) (c : Nat) (hn : l.length ≤ 1000) (w : World) (hI : IsPo w A l) :
    Calls Tryz.prog 26 #[.slice A l.length c] w fun e w' => ∃ D d, e = .returned (.tuple #[.slice D (accsV l).length d, .int .i64 (valPo l)]) ∧ IsS w' D (accsV l).length (accsV l) ∧ Below w.heap.size w w' := by
  have HI := Lib.hid hI
  clear hI
  go_enter Tryz.func26, Tryz.ntmps26
  go_wp2_with fail
  refine (pval_any l A c (by omega) w HI.out).mono ?_
  rintro e w1 ⟨rfl, hb1⟩
  have HB1 := Lib.hid hb1
  clear hb1
  by_cases hv : valPo l = 0
  · have HV := Lib.hid hv
    have HBD := Lib.hid (val_bd hv)
    rw [hv]
    clear hv
    go_wp2_with fail
    refine (psides_any l A c hn w1 (HI.out.below HB1.out)).mono ?_
    rintro e w2 ⟨v, rfl, hO, hb2⟩
    obtain ⟨A2, c2, rfl, hS, -⟩ := hO.parts
    have hsl : (sdL l).length ≤ 1000 := by rw [sdL_len]; have := HBD.out.1; omega
    obtain ⟨S, hSe⟩ : ∃ S, S = sdL l := ⟨_, rfl⟩
    rw [← hSe] at hS hsl
    rw [← hSe]
    have HSE := Lib.hid hSe
    have HS := Lib.hid hS
    have HB2 := Lib.hid (HB1.out.trans (hb2.mono HB1.out.size))
    obtain ⟨N, hN⟩ : ∃ N, N = S.map sdN := ⟨_, rfl⟩
    have hNl : N.length = S.length := by rw [hN, List.length_map]
    have HNE := Lib.hid hN
    have HNLE := Lib.hid hNl
    clear hO hS hb2 hSe hN hNl
    go_upto_region 6 with fail
    go_loopw [5, 16] (fun v i wr => ∃ k : Nat, i = .int .i64 k ∧ k ≤ S.length ∧ Hid (OwnS wr w2.heap.size v (N.take k)) ∧ Hid (Below w2.heap.size w2 wr)) (fun _ i _ => S.length - (RowKit.intOf i).toNat)
    case atStart => exact ⟨0, rfl, by omega, Lib.hid (OwnS.nil _ _), Lib.hid (Below.refl _ _)⟩
    case round =>
      obtain ⟨k, rfl, hk, hO, hB⟩ := hrel
      by_cases hlt : k < S.length
      · have dl : decide ((k : Int) < (S.length : Int)) = true := decide_eq_true (by omega)
        obtain ⟨b, o, rfl, hb, hc⟩ := (HS.out.below hB.out) (by omega)
        have q0 := hc k hlt
        have hkN : k < N.length := by rw [HNLE.out]; exact hlt
        have HN := Lib.hid (show N.take (k + 1) = N.take k ++ [sdN S[k]] by rw [List.take_succ_eq_append_getElem hkN]; simp [HNE.out])
        have HNL := Lib.hid (show (N.take k).length ≤ 1000000 by rw [List.length_take]; omega)
        obtain ⟨⟨bo, xd, xc, xp⟩, hx⟩ : ∃ x, x = S[k] := ⟨_, rfl⟩
        rw [← hx] at q0 HN
        clear hc hx hkN
        cases bo
        · unfold sdV at q0
          simp only at q0
          go_wp2_with fail
          refine (credit_of xd xc xp _).mono ?_
          rintro e w3 ⟨rfl, hb3⟩
          have HB3 := Lib.hid (hB.out.trans (hb3.mono hB.out.size))
          have HO3 := Lib.hid (hO.out.keep hb3)
          have hz := HB3.out.size
          clear hb3 q0 hO hB
          go_wp2_with (at_builtin; refine append_str (.tmp 20) (.tmp 23) rfl rfl w2.heap.size _ _ xc w3 rfl rfl HO3.out rfl HNL.out hz ?_)
          intro v' w4 ho hg' hd'
          have HB4 := Lib.hid (HB3.out.grown hg' hz (fun g hg => (HO3.out.lt g hg).1))
          have HO4 := Lib.hid (show OwnS w4 w2.heap.size v' (N.take (k + 1)) by rw [HN.out]; exact ho)
          clear ho hg' hd' HO3 HB3
          go_wp2
          go_roundw
          case rel => exact ⟨k + 1, by go_num, by omega, HO4, HB4⟩
          case measure => simp [RowKit.intOf]; omega
        · unfold sdV at q0
          simp only at q0
          go_wp2_with fail
          refine (debit_of xd xc xp _).mono ?_
          rintro e w3 ⟨rfl, hb3⟩
          have HB3 := Lib.hid (hB.out.trans (hb3.mono hB.out.size))
          have HO3 := Lib.hid (hO.out.keep hb3)
          have hz := HB3.out.size
          clear hb3 q0 hO hB
          go_wp2_with (at_builtin; refine append_str (.tmp 20) (.tmp 23) rfl rfl w2.heap.size _ _ xd w3 rfl rfl HO3.out rfl HNL.out hz ?_)
          intro v' w4 ho hg' hd'
          have HB4 := Lib.hid (HB3.out.grown hg' hz (fun g hg => (HO3.out.lt g hg).1))
          have HO4 := Lib.hid (show OwnS w4 w2.heap.size v' (N.take (k + 1)) by rw [HN.out]; exact ho)
          clear ho hg' hd' HO3 HB3
          go_wp2
          go_roundw
          case rel => exact ⟨k + 1, by go_num, by omega, HO4, HB4⟩
          case measure => simp [RowKit.intOf]; omega
      · obtain rfl : k = S.length := by omega
        have HO := Lib.hid (show HoS wr w2.heap.size _ (((sdL l).map sdN).map (·.data.toList)) by
          have hO' := hO.out
          rw [← HNLE.out, List.take_length, HNE.out, HSE.out] at hO'
          exact hO'.ho)
        have HL := Lib.hid (show (((sdL l).map sdN).map (·.data.toList)).length ≤ 1000000 by rw [List.length_map, List.length_map, ← HSE.out]; omega)
        have hz := hB.out.size
        clear hO HNE HNLE HSE HBD HS HI
        go_wp2_with fail
        refine (sort_any wr w2.heap.size _ _ HL.out hz HO.out).mono ?_
        rintro e w3 ⟨rfl, ho3, hb3⟩
        have HO3 := Lib.hid ho3
        have HB3 := Lib.hid (hB.out.trans hb3)
        clear ho3 hb3
        go_wp2_with fail
        refine (compact_any w3 w2.heap.size _ _ (by rw [List.length_mergeSort]; exact HL.out) HO3.out).mono ?_
        rintro e w4 ⟨D, d, rfl, ho4, hb4⟩
        have hnm := sort_names (sdL l)
        have hln := congrArg List.length hnm
        rw [List.length_map] at hln
        rw [hnm, hln] at ho4
        rw [hln]
        have HO4 := Lib.hid ho4
        have HB4 := Lib.hid (HB2.out.trans ((HB3.out.trans hb4).mono HB2.out.size))
        have HA := Lib.hid (show accsV l = accT (sdL l) by unfold accsV; rw [if_pos HV.out])
        clear ho4 hb4 hnm hln
        go_wp2
        go_ret2
        refine ⟨D, d, ?_, ?_, HB4.out⟩
        · rw [HA.out, HV.out] <;> rfl
        · rw [HA.out]; exact HO4.out
  · have dv : (valPo l != 0) = true := by simpa using hv
    have HA := Lib.hid (show accsV l = [] by unfold accsV; rw [if_neg hv])
    clear hv
    go_wp2
    go_ret2
    exact ⟨none, 0, by rw [HA.out] <;> rfl, by rw [HA.out]; exact ⟨rfl, fun h => absurd h (by simp)⟩, HB1.out⟩
end Go.Proofs.YtaadelcmhbgpnaaGreatDoor
/-
  BOOKS: Trial, of the program.
-/
namespace Go.Proofs.YtaadelcmhbgpnaaGreatDoor
open Go.RowKit
open Go.Lib
theorem bal_take {S : List (Bool × Po)} {N : List ByteArray} {k : Nat} (h : k < N.length) : (N.map (balS S)).take (k + 1) = (N.map (balS S)).take k ++ [balS S N[k]] := by
  rw [List.take_succ_eq_append_getElem (by simpa using h)]; simp
theorem accsV_len {l : List Po} (h : l.length ≤ 1000) : (accsV l).length ≤ 2000 := by
  unfold accsV
  split
  · have h1 := accT_len (sdL l)
    rw [sdL_len] at h1
    omega
  · simp
set_option maxRecDepth 100000 in
set_option maxHeartbeats 2000000 in
theorem ptri_any (l : List Po) (A : Option Addr) (c : Nat) (hn : l.length ≤ 1000) (w : World) (hI : IsPo w A l) :
    Calls Tryz.prog 28 #[.slice A l.length c] w fun e w' => ∃ v, e = .returned (.tuple #[v, .int .i64 (valPo l)]) ∧ OwnI w' w.heap.size v (triV l) ∧ Below w.heap.size w w' := by
  have HI := Lib.hid hI
  clear hI
  go_enter Tryz.func28, Tryz.ntmps28
  go_wp2_with fail
  refine (paccs_any l A c hn w HI.out).mono ?_
  rintro e w1 ⟨D, d, rfl, hN, hb1⟩
  have HN := Lib.hid hN
  have HB1 := Lib.hid hb1
  clear hN hb1
  by_cases hv : valPo l = 0
  · have HV := Lib.hid hv
    have HBD := Lib.hid (val_bd hv)
    rw [hv]
    clear hv
    go_wp2_with fail
    refine (psides_any l A c hn w1 (HI.out.below HB1.out)).mono ?_
    rintro e w2 ⟨v, rfl, hO, hb2⟩
    obtain ⟨A2, c2, rfl, hS, -⟩ := hO.parts
    have hsl : (sdL l).length ≤ 1000 := by rw [sdL_len]; have := HBD.out.1; omega
    obtain ⟨N, hNe⟩ : ∃ N, N = accsV l := ⟨_, rfl⟩
    have HNL := Lib.hid (show N.length ≤ 2000 by rw [hNe]; exact accsV_len hn)
    have HN2 := Lib.hid (hNe ▸ HN.out.below hb2)
    have HT := Lib.hid (show triV l = N.map (balS (sdL l)) by unfold triV; rw [hNe])
    rw [← hNe]
    obtain ⟨S, hSe⟩ : ∃ S, S = sdL l := ⟨_, rfl⟩
    have HSL := Lib.hid (hSe ▸ hsl)
    have HS := Lib.hid (hSe ▸ hS)
    have HSB := Lib.hid (hSe ▸ HBD.out.2)
    rw [← hSe]
    have HSE := Lib.hid hSe
    have HB2 := Lib.hid (HB1.out.trans (hb2.mono HB1.out.size))
    clear hO hS hb2 hSe hNe hsl HN HBD
    go_upto_region 7 with fail
    go_loopw [6, 22] (fun v i wr => ∃ k : Nat, i = .int .i64 k ∧ k ≤ N.length ∧ Hid (OwnI wr w2.heap.size v ((N.map (balS S)).take k)) ∧ Hid (Below w2.heap.size w2 wr)) (fun _ i _ => N.length - (RowKit.intOf i).toNat)
    case atStart => exact ⟨0, rfl, by omega, Lib.hid (OwnI.nil _ _), Lib.hid (Below.refl _ _)⟩
    case round =>
      obtain ⟨k, rfl, hk, hO, hB⟩ := hrel
      by_cases hlt : k < N.length
      · have dl : decide ((k : Int) < (N.length : Int)) = true := decide_eq_true (by omega)
        obtain ⟨b, o, rfl, hb, hc⟩ := (HN2.out.below hB.out).2 (by omega)
        have q0 := hc k hlt
        have hst := bal_take (S := S) hlt
        obtain ⟨x, hx⟩ : ∃ x, x = N[k] := ⟨_, rfl⟩
        rw [← hx] at q0 hst
        have HST := Lib.hid hst
        have HTL := Lib.hid (show ((N.map (balS S)).take k).length ≤ 1000000 by rw [List.length_take]; have := HNL.out; omega)
        clear hc hx hst
        go_wp2_with fail
        refine (pbalance_any S A2 c2 x HSL.out HSB.out wr (HS.out.below hB.out)).mono ?_
        rintro e w3 ⟨rfl, hb3⟩
        obtain ⟨y, hy⟩ : ∃ y, y = balS S x := ⟨_, rfl⟩
        rw [← hy]
        rw [← hy] at HST
        have HB3 := Lib.hid (hB.out.trans (hb3.mono hB.out.size))
        have HO3 := Lib.hid (hO.out.keep hb3)
        have hz := HB3.out.size
        clear hb3 q0 hO hB hy
        have hnl := HNL.out
        go_wp2_with (at_builtin; refine append_i64 (.tmp 26) (.tmp 30) rfl rfl w2.heap.size _ _ y w3 rfl rfl HO3.out rfl HTL.out hz ?_)
        intro v' w4 ho hg' hd'
        have HB4 := Lib.hid (HB3.out.grown hg' hz (fun g hg => (HO3.out.lt' g hg).1))
        have HO4 := Lib.hid (show OwnI w4 w2.heap.size v' ((N.map (balS S)).take (k + 1)) by rw [HST.out]; exact ho)
        clear ho hg' hd' HO3 HB3
        go_wp2
        go_roundw
        case rel => exact ⟨k + 1, by go_num, by omega, HO4, HB4⟩
        case measure => simp [RowKit.intOf]; omega
      · obtain rfl : k = N.length := by omega
        have HO := Lib.hid (show OwnI wr w2.heap.size _ (N.map (balS S)) by
          have hO' := hO.out
          rw [show N.length = (N.map (balS S)).length by simp, List.take_length] at hO'
          exact hO')
        have HB := Lib.hid (HB2.out.trans (hB.out.mono HB2.out.size))
        clear hO
        have hz := HB2.out.size
        go_wp2
        go_ret2
        refine ⟨_, by rw [HV.out] <;> rfl, ?_, HB.out⟩
        rw [HT.out, ← HSE.out]
        exact HO.out.down hz
  · have dv : (valPo l != 0) = true := by simpa using hv
    have HA := Lib.hid (show triV l = [] by unfold triV accsV; rw [if_neg hv]; rfl)
    clear hv
    go_wp2
    go_ret2
    exact ⟨_, rfl, by rw [HA.out]; exact OwnI.nil _ _, HB1.out⟩
end Go.Proofs.YtaadelcmhbgpnaaGreatDoor
