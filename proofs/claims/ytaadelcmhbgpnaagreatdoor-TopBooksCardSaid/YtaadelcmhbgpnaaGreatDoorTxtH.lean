/-
  FormatRat, THE REFERENCE'S.
-/
import Derived.Test.YtaadelcmhbgpnaaGreatDoorTxtE
import Derived.Test.YtaadelcmhbgpnaaGreatDoorTxtC
import Derived.Deep.DeepCutAuto
namespace Go.Proofs.YtaadelcmhbgpnaaGreatDoor
open Go.RowKit Go.Lib
/-- The text of a fraction. -/
def fmtR (n d : Int) : List UInt8 := if d = 1 then itoa n else itoa n ++ 47 :: itoa d
theorem fmtR_one (n : Int) : fmtR n 1 = itoa n := by rw [fmtR, if_pos rfl]
theorem fmtR_two {n d : Int} (h : d ≠ 1) : fmtR n d = itoa n ++ 47 :: itoa d := by rw [fmtR, if_neg h]
theorem ret_si {a b : ByteArray} {c : Int} (h : a = b) : Ending.returned (.tuple #[.string a, .int .i64 c]) = .returned (.tuple #[.string b, .int .i64 c]) := by rw [h]
end Go.Proofs.YtaadelcmhbgpnaaGreatDoor
/-
  WHAT THE TEXT OF A FRACTION IS READ AS: PLAIN.
-/
namespace Go.Proofs.YtaadelcmhbgpnaaGreatDoor
open Go.RowKit Go.Lib
theorem itoa_no_slash (n : Int) : (47 : UInt8) ∉ itoa n := by
  unfold itoa
  intro h
  split at h
  · rcases List.mem_cons.1 h with h | h
    · exact absurd h (by decide)
    · have := dec_all _ _ h; simp at this
  · have := dec_all _ _ h; simp at this
theorem splitL_none {b : UInt8} {l : List UInt8} (h : b ∉ l) : splitL b l = [l] := by
  induction l with
  | nil => rfl
  | cons c r ih =>
    simp only [List.mem_cons, not_or] at h
    have hc : ¬ c = b := fun e => h.1 e.symm
    simp only [splitL, if_neg hc, ih h.2]
theorem splitL_app {b : UInt8} {l : List UInt8} (h : b ∉ l) (r : List UInt8) : splitL b (l ++ b :: r) = l :: splitL b r := by
  induction l with
  | nil => simp [splitL]
  | cons c l ih =>
    simp only [List.mem_cons, not_or] at h
    have hc : ¬ c = b := fun e => h.1 e.symm
    simp only [List.cons_append, splitL, if_neg hc, ih h.2]
theorem split_fmt_one (n : Int) : splitL 47 (fmtR n 1) = [itoa n] := by rw [fmtR_one]; exact splitL_none (itoa_no_slash n)
theorem split_fmt_two {n d : Int} (h : d ≠ 1) : splitL 47 (fmtR n d) = [itoa n, itoa d] := by
  rw [fmtR_two h, splitL_app (itoa_no_slash n), splitL_none (itoa_no_slash d)]
/-- What a text is read as: the valid fraction whose text it is, or the error. -/
def PrsR (t : List UInt8) (n d z : Int) : Prop := (z = 0 ∧ vld n d = true ∧ fmtR n d = t) ∨ (z = 3 ∧ n = 0 ∧ d = 0 ∧ ∀ a b, vld a b = true → fmtR a b ≠ t)
theorem vld_bds {n d : Int} (h : vld n d = true) : 1 ≤ d ∧ d ≤ 1048576 ∧ -1099511627776 ≤ n ∧ n ≤ 1099511627776 := by
  have := vld_iff.1 h
  exact ⟨this.1, this.2.1, this.2.2.1, this.2.2.2.1⟩
theorem fmtR_inj {a b c d : Int} (h1 : vld a b = true) (h2 : vld c d = true) (h : fmtR a b = fmtR c d) : a = c ∧ b = d := by
  have g1 := vld_bds h1
  have g2 := vld_bds h2
  have hs : splitL 47 (fmtR a b) = splitL 47 (fmtR c d) := by rw [h]
  by_cases e1 : b = 1
  · subst e1
    by_cases e2 : d = 1
    · subst e2
      rw [split_fmt_one, split_fmt_one] at hs
      exact ⟨itoa_inj (by omega) (by omega) (by omega) (by omega) (List.cons.inj hs).1, rfl⟩
    · rw [split_fmt_one, split_fmt_two e2] at hs
      simp at hs
  · by_cases e2 : d = 1
    · subst e2
      rw [split_fmt_one, split_fmt_two e1] at hs
      simp at hs
    · rw [split_fmt_two e1, split_fmt_two e2] at hs
      obtain ⟨i1, i2⟩ := List.cons.inj hs
      exact ⟨itoa_inj (by omega) (by omega) (by omega) (by omega) i1, itoa_inj (by omega) (by omega) (by omega) (by omega) (List.cons.inj i2).1⟩
theorem PrsR.unique {t : List UInt8} {n d z a b y : Int} (h1 : PrsR t n d z) (h2 : PrsR t a b y) : n = a ∧ d = b ∧ z = y := by
  rcases h1 with ⟨rfl, v1, f1⟩ | ⟨rfl, rfl, rfl, g1⟩
  · rcases h2 with ⟨rfl, v2, f2⟩ | ⟨rfl, rfl, rfl, g2⟩
    · obtain ⟨rfl, rfl⟩ := fmtR_inj v1 v2 (f1.trans f2.symm)
      exact ⟨rfl, rfl, rfl⟩
    · exact absurd f1 (g2 _ _ v1)
  · rcases h2 with ⟨rfl, v2, f2⟩ | ⟨rfl, rfl, rfl, g2⟩
    · exact absurd f2 (g1 _ _ v2)
    · exact ⟨rfl, rfl, rfl⟩
end Go.Proofs.YtaadelcmhbgpnaaGreatDoor
/-
  ParseRat, THE REFERENCE'S.
-/
namespace Go.Proofs.YtaadelcmhbgpnaaGreatDoor
open Go.RowKit Go.Lib
def OutP (w : World) (t : List UInt8) (e : Ending) (w' : World) : Prop := ∃ n d z, e = .returned (.tuple #[.agg #[.int .i64 n, .int .i64 d], .int .i64 z]) ∧ PrsR t n d z ∧ Below w.heap.size w w'
/-- Number's answer, taken apart: of a text that is no numeral it says no. -/
theorem prs_no {t : List UInt8} (h : ∀ a b, vld a b = true → fmtR a b ≠ t) : PrsR t 0 0 3 := .inr ⟨rfl, rfl, rfl, h⟩
theorem splitL_len (b : UInt8) (l : List UInt8) : ∀ p ∈ splitL b l, p.length ≤ l.length := by
  induction l with
  | nil => intro p hp; simp [splitL] at hp; simp [hp]
  | cons c r ih =>
    intro p hp
    simp only [splitL] at hp
    split at hp
    · rcases List.mem_cons.1 hp with rfl | hp
      · simp
      · have := ih p hp; simp; omega
    · split at hp
      · simp at hp; simp [hp]
      · rename_i q ps he
        rcases List.mem_cons.1 hp with rfl | hp
        · have := ih q (by rw [he]; simp); simp; omega
        · have := ih p (by rw [he]; simp [hp]); simp; omega
theorem fmt_pieces {xs : List ByteArray} {t : List UInt8} {a c : Int} (hm : xs.map (·.data.toList) = splitL 47 t) (h : fmtR a c = t) : (c = 1 ∧ ∃ x, xs = [x] ∧ x.data.toList = itoa a) ∨ (c ≠ 1 ∧ ∃ x y, xs = [x, y] ∧ x.data.toList = itoa a ∧ y.data.toList = itoa c) := by
  subst h
  by_cases hc : c = 1
  · subst hc
    rw [split_fmt_one] at hm
    have hl : xs.length = 1 := by have := congrArg List.length hm; simpa using this
    match xs, hl with
    | [x], _ => exact .inl ⟨rfl, x, rfl, by simpa using hm⟩
  · rw [split_fmt_two hc] at hm
    have hl : xs.length = 2 := by have := congrArg List.length hm; simpa using this
    match xs, hl with
    | [x, y], _ =>
      simp only [List.map_cons, List.map_nil, List.cons.injEq, and_true] at hm
      exact .inr ⟨hc, x, y, rfl, hm.1, hm.2⟩
theorem Box2.set1 {w : World} {b : Nat} {x y : Value} (h : Box2 w b x y) (v : Value) : Box2 (w.setCell ⟨b, 1, none⟩ v) b x v := by
  obtain ⟨h1, h2, h3, h4, h5⟩ := h
  refine ⟨?_, World.cell?_setCell_same _ _ _ h2, ?_, ?_, by simpa [World.setCell] using h5⟩
  · rw [World.cell?_setCell_other _ _ _ _ (by simp)]; exact h1
  · rw [World.frozen?_setCell]; exact h3
  · rw [World.frozen?_setCell]; exact h4
end Go.Proofs.YtaadelcmhbgpnaaGreatDoor
