/-
  BOOKS: PLAIN. Cut at the end of a line, SplitN at two blanks.
-/
import Derived.Test.YtaadelcmhbgpnaaGreatDoorBokH
import Derived.Test.YtaadelcmhbgpnaaGreatDoorMonB
import Derived.Test.YtaadelcmhbgpnaaGreatDoorMonD
namespace Go.Proofs.YtaadelcmhbgpnaaGreatDoor
open Go.RowKit
open Go.Lib
theorem ix_none {b : UInt8} : ∀ {l : List UInt8}, b ∉ l → index l [b] = -1
  | [], _ => by simp [index]
  | c :: l, h => by
    simp only [List.mem_cons, not_or] at h
    have hc : ([b].isPrefixOf (c :: l)) = false := by simp [List.isPrefixOf]; exact fun e => h.1 e
    rw [index, hc, ix_none h.2]
    simp
theorem ix_app {b : UInt8} {r : List UInt8} : ∀ {l : List UInt8}, b ∉ l → index (l ++ b :: r) [b] = (l.length : Int)
  | [], _ => by simp [index, List.isPrefixOf]
  | c :: l, h => by
    simp only [List.mem_cons, not_or] at h
    have hc : ([b].isPrefixOf (c :: (l ++ b :: r))) = false := by simp [List.isPrefixOf]; exact fun e => h.1 e
    rw [List.cons_append, index, hc, ix_app h.2]
    have : ((l.length : Int) == -1) = false := by rw [beq_eq_false_iff_ne]; omega
    simp [this]
theorem ct_none {b : UInt8} {l : List UInt8} (h : b ∉ l) : cut l [b] = (l, [], false) := by
  unfold cut; rw [ix_none h]; rfl
theorem ct_app {b : UInt8} {l : List UInt8} (h : b ∉ l) (r : List UInt8) : cut (l ++ b :: r) [b] = (l, r, true) := by
  unfold cut
  rw [ix_app h, if_pos (by omega)]
  simp [List.drop_append]
theorem cut_two (b : UInt8) : ∀ l : List UInt8, b ∉ l ∨ ∃ a r, l = a ++ b :: r ∧ b ∉ a
  | [] => .inl (by simp)
  | c :: l => by
    by_cases h : c = b
    · exact .inr ⟨[], l, by rw [h]; rfl, by simp⟩
    · rcases cut_two b l with h1 | ⟨a, r, rfl, h1⟩
      · exact .inl (by simp only [List.mem_cons, not_or]; exact ⟨fun e => h e.symm, h1⟩)
      · exact .inr ⟨c :: a, r, rfl, by simp only [List.mem_cons, not_or]; exact ⟨fun e => h e.symm, h1⟩⟩
theorem skB_none {k : Nat} : ∀ {l : List UInt8}, (32 : UInt8) ∉ l → skB (k + 1) l = []
  | [], _ => rfl
  | c :: l, h => by
    simp only [List.mem_cons, not_or] at h
    rw [skB, if_neg (fun e => h.1 e.symm), skB_none h.2]
theorem splitK_none {k : Nat} {l : List UInt8} (h : (32 : UInt8) ∉ l) : splitK [32] 0 k l = [l] := by
  cases k with
  | zero => rfl
  | succ k => rw [splitK, ix_none h]; rfl
theorem splitK_app {k : Nat} {a r : List UInt8} (h : (32 : UInt8) ∉ a) : splitK [32] 0 (k + 1) (a ++ 32 :: r) = a :: splitK [32] 0 k r := by
  have : ((a.length : Int) == -1) = false := by rw [beq_eq_false_iff_ne]; omega
  rw [splitK, ix_app h, this]
  simp [List.drop_append, List.drop_of_length_le (show a.length ≤ a.length + 1 by omega)]
theorem split3 (l : List UInt8) : (∃ x y, splitK [32] 0 (min 3 (l.length + 1) - 1) l = [x, y, skB 2 l]) ∨ (splitK [32] 0 (min 3 (l.length + 1) - 1) l).length < 3 ∧ skB 2 l = [] := by
  rcases cut_two 32 l with h | ⟨a, r, rfl, h⟩
  · exact .inr ⟨by rw [splitK_none h]; simp, skB_none h⟩
  · rw [skB_app h]
    rcases cut_two 32 r with h2 | ⟨a2, r2, rfl, h2⟩
    · refine .inr ⟨?_, skB_none h2⟩
      obtain ⟨k, hk⟩ : ∃ k, min 3 ((a ++ 32 :: r).length + 1) - 1 = k + 1 := ⟨min 3 ((a ++ 32 :: r).length + 1) - 2, by simp; omega⟩
      rw [hk, splitK_app h, splitK_none h2]; simp
    · refine .inl ⟨a, a2, ?_⟩
      rw [skB_app h2, show min 3 ((a ++ 32 :: (a2 ++ 32 :: r2)).length + 1) - 1 = 2 by simp; omega, splitK_app h, splitK_app h2]
      simp [splitK, skB]
theorem first_pre {X H R : List UInt8} {n : Nat} {b : Int} (hX : X = H ++ 10 :: R) (hH : (10 : UInt8) ∉ H) : firstB X n b = if rightT (skB 2 H) = true ∧ lineT n b (skB 2 H) <+: X then some (skB 2 H) else none := by
  have he : H.length < X.length := by rw [hX]; simp
  have h1 : X.take H.length = H := by rw [hX]; simp
  have h2 : X[H.length]? = some 10 := by rw [hX]; simp
  split
  · rename_i hc
    exact firstB_some.2 hc
  · rename_i hc
    refine first_no he (by rw [h1]; exact hH) h2 (by rw [h1]) ?_
    by_cases h3 : rightT (skB 2 H) = true
    · refine .inr fun h4 => hc ⟨h3, ?_⟩
      rw [h4]; exact List.take_prefix _ _
    · exact .inl (by simpa using h3)
end Go.Proofs.YtaadelcmhbgpnaaGreatDoor
/-
  BOOKS: strings.Cut at the end of a line, strings.SplitN at two blanks.
-/
namespace Go.Proofs.YtaadelcmhbgpnaaGreatDoor
open Go.RowKit
open Go.Lib
theorem cut10_any (s : ByteArray) (p q : List UInt8) (f : Bool) (h : cut s.data.toList [10] = (p, q, f)) (hs : s.size ≤ 1000000) (w : World) (hl : LibOK w) :
    Calls Tryz.prog 81 #[.string s, .string ⟨#[10]⟩] w fun e w' => e = .returned (.tuple #[.string ⟨p.toArray⟩, .string ⟨q.toArray⟩, .bool f]) ∧ Below w.heap.size w w' := by
  obtain ⟨m, hm⟩ := hl.mx
  have h' : cut s.data.toList (ByteArray.mk #[10]).data.toList = (p, q, f) := h
  refine (Tryz.strings_Cut s ⟨#[10]⟩ m w (by omega) hm).mono ?_
  rintro e w1 ⟨rfl, nd, rfl⟩
  rw [h']
  exact ⟨rfl, below_drewN (Below.refl _ _) _⟩
/-- What SplitN gives at two blanks. -/
def OutS3 (w : World) (l : List UInt8) (e : Ending) (w' : World) : Prop :=
  ∃ (xs : List ByteArray) (c : Nat), e = .returned (.slice (some ⟨w.heap.size, 0, none⟩) xs.length c) ∧ IsS w' (some ⟨w.heap.size, 0, none⟩) xs.length xs ∧ xs.map (·.data.toList) = splitK [32] 0 (min 3 (l.length + 1) - 1) l ∧ Below w.heap.size w w'
theorem split3_any (s : ByteArray) (hs : s.size ≤ 1000000) (w : World) (hl : LibOK w) :
    Calls Tryz.prog 65 #[.string s, .string ⟨#[32]⟩, .int .i64 3] w (OutS3 w s.data.toList) := by
  obtain ⟨m, hm⟩ := hl.mx
  refine (Tryz.strings_SplitN s ⟨#[32]⟩ 3 m w (by omega) hm (by decide) (by omega) (by omega)).mono ?_
  rintro e w' ⟨rfl, rfl⟩
  obtain ⟨xs, hxs⟩ : ∃ xs, xs = splitB ⟨#[32]⟩ 0 (min 3 (s.size + 1) - 1) s := ⟨_, rfl⟩
  have hle : xs.length ≤ min 3 (s.size + 1) := by
    have := splitB_length_le ⟨#[32]⟩ 0 (min 3 (s.size + 1) - 1) s
    rw [← hxs] at this; omega
  rw [← hxs]
  refine ⟨xs, _, rfl, ⟨rfl, fun _ => ⟨w.heap.size, 0, rfl, by simp, fun i hi => ?_⟩⟩, by rw [hxs, splitB_data, lt_list], (Below.refl _ _).alloc (Nat.le_refl _) _⟩
  rw [cell_of_row _ _ _ _ _ (0, 0) (heap_alloc_new w _)]
  unfold cellsOf
  rw [Nat.zero_add, List.getElem?_toArray, List.getElem?_append_left (by simpa using hi)]
  simp [hi]
end Go.Proofs.YtaadelcmhbgpnaaGreatDoor
/-
  BOOKS: PLAIN. What a beginning of a book is read as.
-/
namespace Go.Proofs.YtaadelcmhbgpnaaGreatDoor
open Go.RowKit
open Go.Lib
theorem line_le {n : Nat} {b : Int} {t : List UInt8} (hn : n ≤ 1000000) (ht : rightT t = true) : (lineT n b t).length ≤ 97 := by
  have h1 := itoa_small (z := (n : Int)) (k := 7) (by omega) (by omega) (by omega)
  obtain ⟨y0, y1⟩ : 0 ≤ lineZ n b t ∧ lineZ n b t < 1000003 := sumT_bd _ _
  have h2 := itoa_small (k := 7) y0 (by omega) (by omega)
  have h3 := (rightT_iff.1 ht).2.1
  rw [lineT_len]
  omega
theorem crash : ∀ (ts : List (List UInt8)) (n : Nat) (b : Int) (f k : Nat), n + ts.length ≤ 1000000 → ts.length ≤ f → Rights ts → ∃ j r, readB f n b ((writeB n b ts).take k) = (ts.take j, r) ∧ j ≤ ts.length ∧ (r = [] ∨ j < ts.length) ∧ r.length ≤ 97
  | [], n, b, f, k, _, _, _ => ⟨0, [], by rw [show (writeB n b []).take k = [] by simp [writeB], readB_none (firstB_nil n b)]; rfl, by simp, .inl rfl, by simp⟩
  | t :: ts, n, b, 0, k, _, hf, _ => by simp at hf
  | t :: ts, n, b, f + 1, k, hn, hf, hr => by
    have ht : rightT t = true := hr t (by simp)
    have hr' : Rights ts := fun u hu => hr u (by simp [hu])
    have hw : writeB n b (t :: ts) = lineT n b t ++ writeB (n + 1) (lineZ n b t) ts := rfl
    simp only [List.length_cons] at hn hf
    rw [hw]
    by_cases h : (lineT n b t).length ≤ k
    · obtain ⟨q, rfl⟩ : ∃ q, k = (lineT n b t).length + q := ⟨k - (lineT n b t).length, by omega⟩
      rw [List.take_length_add_append]
      obtain ⟨j, r, h1, h2, h3, h4⟩ := crash ts (n + 1) (lineZ n b t) f q (by omega) (by omega) hr'
      refine ⟨j + 1, r, ?_, by simp; omega, ?_, h4⟩
      · rw [readB_some (firstB_app ht), List.drop_left, h1]; rfl
      · rcases h3 with h3 | h3
        · exact .inl h3
        · exact .inr (by simp; omega)
    · have hle := line_le (n := n) (b := b) (by omega) ht
      have hk : k < (lineT n b t).length := by omega
      rw [List.take_append_of_le_length (by omega)]
      refine ⟨0, (lineT n b t).take k, ?_, by omega, .inr (by simp), by rw [List.length_take]; omega⟩
      rw [readB_none]
      · rfl
      · refine first_no10 fun hm => ?_
        rw [line_head] at hm hk
        rw [List.length_append, List.length_singleton] at hk
        rw [List.take_append_of_le_length (by omega)] at hm
        exact line_no10 (right_no ht) (List.mem_of_mem_take hm)
end Go.Proofs.YtaadelcmhbgpnaaGreatDoor
