/-
  THE PROGRAM: equal, two, Same.
-/
import Derived.Test.YtlinldbbhdpgcaaGreatDoorPatH
import Derived.Test.YtlinldbbhdpgcaaGreatDoorLawP
import Derived.Test.YtlinldbbhdpgcaaGreatDoorShelf
import Derived.Test.YtlinldbbhdpgcaaGreatDoorEqS
import Derived.Test.YtlinldbbhdpgcaaGreatDoorRegQ
namespace Go.Proofs.YtlinldbbhdpgcaaGreatDoor
open Go.RowKit
theorem eqI_any (A : Option Addr) (n c : Nat) (B : Option Addr) (m d : Nat) (xs ys : List Int) (w : World) (hA : IsL w A n xs) (hB : IsL w B m ys) (hn : n ≤ 1000000000) (hm : m ≤ 1000000000) :
    Calls Tryz.prog 47 #[.slice A n c, .slice B m d] w fun e w' => e = .returned (.bool (decide (xs = ys))) ∧ Below w.heap.size w w' := by
  obtain ⟨hA1, hA2⟩ := hA
  obtain ⟨hB1, hB2⟩ := hB
  by_cases h : n = m
  · subst h
    by_cases h0 : n = 0
    · subst h0
      have e1 : xs = [] := List.length_eq_zero_iff.1 (by omega)
      have e2 : ys = [] := List.length_eq_zero_iff.1 (by omega)
      refine (Tryz.slices_Equal_int_empty A B c 0 d w (by omega)).mono ?_
      rintro e w' ⟨rfl, rfl⟩
      refine ⟨?_, Below.refl _ _⟩
      rw [e1, e2]; simp
    · obtain ⟨b1, o1, rfl, -, h1⟩ := hA2 (by omega)
      obtain ⟨b2, o2, rfl, -, h2⟩ := hB2 (by omega)
      refine (Tryz.slices_Equal_int b1 o1 n c b2 o2 n d xs ys w (by omega) (by omega) (by omega) (by omega) (fun j hj => h1 j (by omega)) (fun j hj => h2 j (by omega))).mono ?_
      rintro e w' ⟨rfl, q, rfl⟩
      refine ⟨?_, below_drewN (Below.refl _ _) _⟩
      rw [List.take_of_length_le (by omega), List.take_of_length_le (by omega)]
      congr 2
      rw [Bool.eq_iff_iff]; simp
  · have hne : xs ≠ ys := fun e => h (by rw [← hA1, ← hB1, e])
    refine (Tryz.slices_Equal_int_lens A B n c m d w h).mono ?_
    rintro e w' ⟨rfl, rfl⟩
    refine ⟨?_, Below.refl _ _⟩
    rw [decide_eq_false hne]
set_option maxRecDepth 100000 in
set_option maxHeartbeats 1000000 in
theorem pequal_any (p q : PatD) (hl : p.xs.length ≤ 1000000000) (hl2 : q.xs.length ≤ 1000000000) (r : Bool) (hr : r = true ↔ p = q) (A : Option Addr) (cap : Nat) (B : Option Addr) (cap2 : Nat) (w : World) (hi : PatIn w p A) (hq : PatIn w q B) :
    Calls Tryz.prog 44 #[.agg #[.int .i64 p.a, .int .i64 p.b, .int .i64 p.c, .slice A p.xs.length cap], .agg #[.int .i64 q.a, .int .i64 q.b, .int .i64 q.c, .slice B q.xs.length cap2]] w fun e w' => e = .returned (.bool r) ∧ Below w.heap.size w w' := by
  obtain ⟨a, b, c, xs⟩ := p
  obtain ⟨a', b', c', ys⟩ := q
  simp only at hl hl2 ⊢
  have HI := Lib.hid (show IsL w A xs.length xs from hi)
  have HQ := Lib.hid (show IsL w B ys.length ys from hq)
  rw [PatD.mk.injEq] at hr
  have HR := Lib.hid hr
  have hf : ¬ (a = a' ∧ b = b' ∧ c = c' ∧ xs = ys) → r = false := fun h => by
    cases r with
    | false => rfl
    | true => exact absurd (hr.1 rfl) h
  clear hi hq hr
  by_cases h1 : a = a'
  · subst h1
    have d1 : (a == a) = true := by simp
    by_cases h2 : b = b'
    · subst h2
      have d2 : (b == b) = true := by simp
      by_cases h3 : c = c'
      · subst h3
        have d3 : (c == c) = true := by simp
        have HE := Lib.hid (fun w hA hB => eqI_any A xs.length cap B ys.length cap2 xs ys w hA hB hl hl2)
        obtain ⟨t, ht⟩ : ∃ t, t = decide (xs = ys) := ⟨_, rfl⟩
        rw [← ht] at HE
        have HRT := Lib.hid (show r = t by
          rw [ht]
          by_cases h : xs = ys
          · rw [decide_eq_true h]; exact HR.out.2 ⟨rfl, rfl, rfl, h⟩
          · rw [decide_eq_false h]; exact hf (fun hh => h hh.2.2.2))
        clear ht HR hf
        go_enter Tryz.func44, Tryz.ntmps44
        go_wp2_with fail
        refine (HE.out _ (HI.out.below (by repeat' (first | (with_reducible exact Below.refl _ _) | (with_reducible assumption) | (with_reducible refine below_drewN ?_ _) | (with_reducible refine below_step (by assumption) ?_ ?_) | (with_reducible refine Below.alloc ?_ ?_ _) | (with_reducible refine Below.setCell ?_ ?_ _) | (with_reducible refine Below.drew ?_) | go_size | (exact Below.size (by assumption)) | (refine Nat.le_trans (Below.size (by assumption)) ?_)))) (HQ.out.below (by repeat' (first | (with_reducible exact Below.refl _ _) | (with_reducible assumption) | (with_reducible refine below_drewN ?_ _) | (with_reducible refine below_step (by assumption) ?_ ?_) | (with_reducible refine Below.alloc ?_ ?_ _) | (with_reducible refine Below.setCell ?_ ?_ _) | (with_reducible refine Below.drew ?_) | go_size | (exact Below.size (by assumption)) | (refine Nat.le_trans (Below.size (by assumption)) ?_))))).mono ?_
        rintro e w1 ⟨rfl, hb1⟩
        have HB := Lib.hid (show Below w.heap.size w w1 from (by repeat' (first | (with_reducible exact Below.refl _ _) | (with_reducible assumption) | (with_reducible refine below_drewN ?_ _) | (with_reducible refine below_step (by assumption) ?_ ?_) | (with_reducible refine Below.alloc ?_ ?_ _) | (with_reducible refine Below.setCell ?_ ?_ _) | (with_reducible refine Below.drew ?_) | go_size | (exact Below.size (by assumption)) | (refine Nat.le_trans (Below.size (by assumption)) ?_))))
        clear hb1 HE
        go_wp2
        go_ret
        exact ⟨by rw [HRT.out]; rfl, HB.out⟩
      · have d3 : (c == c') = false := by rw [beq_eq_false_iff_ne]; exact h3
        have HR2 := Lib.hid (hf (fun h => h3 h.2.2.1))
        clear h3 HR hf
        go_enter Tryz.func44, Tryz.ntmps44
        go_wp2
        go_ret
        exact ⟨by rw [HR2.out]; rfl, (by repeat' (first | (with_reducible exact Below.refl _ _) | (with_reducible assumption) | (with_reducible refine below_drewN ?_ _) | (with_reducible refine below_step (by assumption) ?_ ?_) | (with_reducible refine Below.alloc ?_ ?_ _) | (with_reducible refine Below.setCell ?_ ?_ _) | (with_reducible refine Below.drew ?_) | go_size | (exact Below.size (by assumption)) | (refine Nat.le_trans (Below.size (by assumption)) ?_)))⟩
    · have d2 : (b == b') = false := by rw [beq_eq_false_iff_ne]; exact h2
      have HR2 := Lib.hid (hf (fun h => h2 h.2.1))
      clear h2 HR hf
      go_enter Tryz.func44, Tryz.ntmps44
      go_wp2
      go_ret
      exact ⟨by rw [HR2.out]; rfl, (by repeat' (first | (with_reducible exact Below.refl _ _) | (with_reducible assumption) | (with_reducible refine below_drewN ?_ _) | (with_reducible refine below_step (by assumption) ?_ ?_) | (with_reducible refine Below.alloc ?_ ?_ _) | (with_reducible refine Below.setCell ?_ ?_ _) | (with_reducible refine Below.drew ?_) | go_size | (exact Below.size (by assumption)) | (refine Nat.le_trans (Below.size (by assumption)) ?_)))⟩
  · have d1 : (a == a') = false := by rw [beq_eq_false_iff_ne]; exact h1
    have HR2 := Lib.hid (hf (fun h => h1 h.1))
    clear h1 HR hf
    go_enter Tryz.func44, Tryz.ntmps44
    go_wp2
    go_ret
    exact ⟨by rw [HR2.out]; rfl, (by repeat' (first | (with_reducible exact Below.refl _ _) | (with_reducible assumption) | (with_reducible refine below_drewN ?_ _) | (with_reducible refine below_step (by assumption) ?_ ?_) | (with_reducible refine Below.alloc ?_ ?_ _) | (with_reducible refine Below.setCell ?_ ?_ _) | (with_reducible refine Below.drew ?_) | go_size | (exact Below.size (by assumption)) | (refine Nat.le_trans (Below.size (by assumption)) ?_)))⟩
/-- The error of two patterns, and their least patterns. -/
def twoZ (p q : PatD) : Int := if valP p ≠ 0 then valP p else valP q
theorem twoZ_zero {p q : PatD} (h : twoZ p q = 0) : valP p = 0 ∧ valP q = 0 := by
  unfold twoZ at h
  split at h
  · rename_i h1; exact absurd h h1
  · rename_i h1; exact ⟨by omega, h⟩
noncomputable def twoT (p q : PatD) : PatD × PatD := if twoZ p q ≠ 0 then (zeroP, zeroP) else (lst (colF p), lst (colF q))
/-- What a call answers: two patterns in new memory, and an error. -/
def OutP2 (w : World) (t : PatD × PatD) (z : Value) (e : Ending) (w' : World) : Prop := ∃ A1 k1 A2 k2, e = .returned (.tuple #[.agg #[.int .i64 t.1.a, .int .i64 t.1.b, .int .i64 t.1.c, .slice A1 t.1.xs.length k1], .agg #[.int .i64 t.2.a, .int .i64 t.2.b, .int .i64 t.2.c, .slice A2 t.2.xs.length k2], z]) ∧ PatIn w' t.1 A1 ∧ PatIn w' t.2 A2 ∧ Below w.heap.size w w' ∧ OwnI w' w.heap.size (.slice A1 t.1.xs.length k1) t.1.xs ∧ OwnI w' w.heap.size (.slice A2 t.2.xs.length k2) t.2.xs
theorem ret_two {w : World} {bx by' : Nat} {a b c a' b' c' : Int} {s s' z : Value} {tmps : Array Value} {fn : Func} {p q r : Tmp} (h : fn.results = #[.cell p 24, .cell q 24, .tmp r]) (hp : tmps.getD p undef = .pointer (some ⟨bx, 0, none⟩)) (hq : tmps.getD q undef = .pointer (some ⟨by', 0, none⟩)) (hr : tmps.getD r undef = z) (hg : PBox w bx a b c s) (hg' : PBox w by' a' b' c' s') : (results fn tmps).run Tryz.prog w = .ok (.tuple #[.agg #[.int .i64 a, .int .i64 b, .int .i64 c, s], .agg #[.int .i64 a', .int .i64 b', .int .i64 c', s'], z]) w := by
  have hp' : tmps[p]?.getD undef = .pointer (some ⟨bx, 0, none⟩) := by simpa using hp
  have hq' : tmps[q]?.getD undef = .pointer (some ⟨by', 0, none⟩) := by simpa using hq
  have hr' : tmps[r]?.getD undef = z := by simpa using hr
  simp [results, h, hp', hq', hr', asAddr, run_loadVar_row w bx 24 24 _ (0, 0) _ hg Tryz.underlying24 rfl (patSz a b c s), run_loadVar_row w by' 24 24 _ (0, 0) _ hg' Tryz.underlying24 rfl (patSz a' b' c' s')]
theorem al4 (w : World) (o0 o1 o2 o3 : Obj) : ((((w.alloc o0).alloc o1).alloc o2).alloc o3).heap.size = w.heap.size + 4 ∧ ((((w.alloc o0).alloc o1).alloc o2).alloc o3).heap[w.heap.size]? = some o0 ∧ ((((w.alloc o0).alloc o1).alloc o2).alloc o3).heap[w.heap.size + 1]? = some o1 ∧ ((((w.alloc o0).alloc o1).alloc o2).alloc o3).heap[w.heap.size + 1 + 1]? = some o2 ∧ ((((w.alloc o0).alloc o1).alloc o2).alloc o3).heap[w.heap.size + 1 + 1 + 1]? = some o3 ∧ Below w.heap.size w ((((w.alloc o0).alloc o1).alloc o2).alloc o3) := by
  have e1 : (w.alloc o0).heap.size = w.heap.size + 1 := by simp
  have e2 : ((w.alloc o0).alloc o1).heap.size = w.heap.size + 1 + 1 := by simp
  have e3 : (((w.alloc o0).alloc o1).alloc o2).heap.size = w.heap.size + 1 + 1 + 1 := by simp
  have h0 := heap_alloc_new w o0
  have h1 := heap_alloc_new (w.alloc o0) o1
  have h2 := heap_alloc_new ((w.alloc o0).alloc o1) o2
  have h3 := heap_alloc_new (((w.alloc o0).alloc o1).alloc o2) o3
  rw [e1] at h1
  rw [e2] at h2
  rw [e3] at h3
  refine ⟨by simp, ?_, ?_, ?_, h3, (by repeat' (first | (with_reducible exact Below.refl _ _) | (with_reducible assumption) | (with_reducible refine below_drewN ?_ _) | (with_reducible refine below_step (by assumption) ?_ ?_) | (with_reducible refine Below.alloc ?_ ?_ _) | (with_reducible refine Below.setCell ?_ ?_ _) | (with_reducible refine Below.drew ?_) | go_size | (exact Below.size (by assumption)) | (refine Nat.le_trans (Below.size (by assumption)) ?_)))⟩
  · exact (heap_alloc_old _ _ (by omega)).trans ((heap_alloc_old _ _ (by omega)).trans ((heap_alloc_old _ _ (by omega)).trans h0))
  · exact (heap_alloc_old _ _ (by omega)).trans ((heap_alloc_old _ _ (by omega)).trans h1)
  · exact (heap_alloc_old _ _ (by omega)).trans h2
/-- The boxes of two. -/
structure BB (w wr : World) (p q : PatD) (A : Option Addr) (k : Nat) (B : Option Addr) (m : Nat) : Prop where
  p : PBox wr w.heap.size p.a p.b p.c (.slice A p.xs.length k)
  q : PBox wr (w.heap.size + 1) q.a q.b q.c (.slice B q.xs.length m)
  r : PBox wr (w.heap.size + 1 + 1) 0 0 0 (.slice none 0 0)
  s : PBox wr (w.heap.size + 1 + 1 + 1) 0 0 0 (.slice none 0 0)
  b : Below w.heap.size w wr
theorem BB.keep {w wr w' : World} {p q : PatD} {A : Option Addr} {k : Nat} {B : Option Addr} {m : Nat} (h : BB w wr p q A k B m) (hb : Below wr.heap.size wr w') : BB w w' p q A k B m := ⟨h.p.keep hb, h.q.keep hb, h.r.keep hb, h.s.keep hb, h.b.trans (hb.mono h.b.size)⟩
theorem BB.lt {w wr : World} {p q : PatD} {A : Option Addr} {k : Nat} {B : Option Addr} {m : Nat} (h : BB w wr p q A k B m) : w.heap.size + 1 + 1 + 1 < wr.heap.size := (Array.getElem?_eq_some_iff.1 h.s).1
/-- Both results are nothing. -/
theorem put_zeros {w wr : World} {p q : PatD} {A : Option Addr} {k : Nat} {B : Option Addr} {m : Nat} (h : BB w wr p q A k B m) :
    PBox (set4 (set4 wr (w.heap.size + 1 + 1) 0 0 0 (.slice none 0 0)) (w.heap.size + 1 + 1 + 1) 0 0 0 (.slice none 0 0)) (w.heap.size + 1 + 1) 0 0 0 (.slice none 0 0) ∧
    PBox (set4 (set4 wr (w.heap.size + 1 + 1) 0 0 0 (.slice none 0 0)) (w.heap.size + 1 + 1 + 1) 0 0 0 (.slice none 0 0)) (w.heap.size + 1 + 1 + 1) 0 0 0 (.slice none 0 0) ∧
    Below w.heap.size w (set4 (set4 wr (w.heap.size + 1 + 1) 0 0 0 (.slice none 0 0)) (w.heap.size + 1 + 1 + 1) 0 0 0 (.slice none 0 0)) := by
  have h1 := set4_grown wr (w.heap.size + 1 + 1) 0 0 0 (.slice none 0 0)
  have h2 := set4_grown (set4 wr (w.heap.size + 1 + 1) 0 0 0 (.slice none 0 0)) (w.heap.size + 1 + 1 + 1) 0 0 0 (.slice none 0 0)
  have hz : (set4 wr (w.heap.size + 1 + 1) 0 0 0 (.slice none 0 0)).heap.size = wr.heap.size := by simp [set4]
  have hl := h.lt
  have k1 : PBox (set4 wr (w.heap.size + 1 + 1) 0 0 0 (.slice none 0 0)) (w.heap.size + 1 + 1) 0 0 0 (.slice none 0 0) := h.r.put _ _ _ _
  have k2 : PBox (set4 wr (w.heap.size + 1 + 1) 0 0 0 (.slice none 0 0)) (w.heap.size + 1 + 1 + 1) 0 0 0 (.slice none 0 0) := (h1.block _ (by omega) (by simp)).trans h.s
  refine ⟨(h2.block _ (by omega) (by simp)).trans k1, k2.put _ _ _ _, ?_⟩
  exact Below.grown (Below.grown h.b h1 h.b.size (fun g e => by cases e; omega)) h2 (by rw [hz]; exact h.b.size) (fun g e => by cases e; omega)
/-- Both results are put, and the answer. -/
theorem put_both {w wr : World} {p q : PatD} {A : Option Addr} {k : Nat} {B : Option Addr} {m : Nat} (h : BB w wr p q A k B m) (t1 t2 : PatD) (A1 : Option Addr) (k1 : Nat) (A2 : Option Addr) (k2 l1 l2 : Nat) (h1 : l1 = t1.xs.length) (h2 : l2 = t2.xs.length) (o1 : OwnI wr (w.heap.size + 1 + 1 + 1 + 1) (.slice A1 l1 k1) t1.xs) (o2 : OwnI wr (w.heap.size + 1 + 1 + 1 + 1) (.slice A2 l2 k2) t2.xs) (z : Value) :
    PBox ((wr.setRow (w.heap.size + 1 + 1) #[.int .i64 t1.a, .int .i64 t1.b, .int .i64 t1.c, .slice A1 l1 k1]).setRow (w.heap.size + 1 + 1 + 1) #[.int .i64 t2.a, .int .i64 t2.b, .int .i64 t2.c, .slice A2 l2 k2]) (w.heap.size + 1 + 1) t1.a t1.b t1.c (.slice A1 l1 k1) ∧
    PBox ((wr.setRow (w.heap.size + 1 + 1) #[.int .i64 t1.a, .int .i64 t1.b, .int .i64 t1.c, .slice A1 l1 k1]).setRow (w.heap.size + 1 + 1 + 1) #[.int .i64 t2.a, .int .i64 t2.b, .int .i64 t2.c, .slice A2 l2 k2]) (w.heap.size + 1 + 1 + 1) t2.a t2.b t2.c (.slice A2 l2 k2) ∧
    OutP2 w (t1, t2) z (.returned (.tuple #[.agg #[.int .i64 t1.a, .int .i64 t1.b, .int .i64 t1.c, .slice A1 l1 k1], .agg #[.int .i64 t2.a, .int .i64 t2.b, .int .i64 t2.c, .slice A2 l2 k2], z])) ((wr.setRow (w.heap.size + 1 + 1) #[.int .i64 t1.a, .int .i64 t1.b, .int .i64 t1.c, .slice A1 l1 k1]).setRow (w.heap.size + 1 + 1 + 1) #[.int .i64 t2.a, .int .i64 t2.b, .int .i64 t2.c, .slice A2 l2 k2]) := by
  subst h1
  subst h2
  have g1 := row_grown wr (w.heap.size + 1 + 1) #[.int .i64 t1.a, .int .i64 t1.b, .int .i64 t1.c, .slice A1 t1.xs.length k1]
  have b1 := h.r.row t1.a t1.b t1.c (.slice A1 t1.xs.length k1)
  have e1 : (wr.setRow (w.heap.size + 1 + 1) #[.int .i64 t1.a, .int .i64 t1.b, .int .i64 t1.c, .slice A1 t1.xs.length k1]).heap.size = wr.heap.size := by simp [World.setRow]
  have hl := h.lt
  have s1 : PBox (wr.setRow (w.heap.size + 1 + 1) #[.int .i64 t1.a, .int .i64 t1.b, .int .i64 t1.c, .slice A1 t1.xs.length k1]) (w.heap.size + 1 + 1 + 1) 0 0 0 (.slice none 0 0) := (g1.block _ (by omega) (by simp)).trans h.s
  obtain ⟨wm, hwm⟩ : ∃ wm, wm = wr.setRow (w.heap.size + 1 + 1) #[.int .i64 t1.a, .int .i64 t1.b, .int .i64 t1.c, .slice A1 t1.xs.length k1] := ⟨_, rfl⟩
  rw [← hwm] at g1 b1 e1 s1 ⊢
  have g2 := row_grown wm (w.heap.size + 1 + 1 + 1) #[.int .i64 t2.a, .int .i64 t2.b, .int .i64 t2.c, .slice A2 t2.xs.length k2]
  have b2 := s1.row t2.a t2.b t2.c (.slice A2 t2.xs.length k2)
  have away : ∀ {u : World} {v : Value} {xs : List Int} {g : Nat}, OwnI u (w.heap.size + 1 + 1 + 1 + 1) v xs → g < w.heap.size + 1 + 1 + 1 + 1 → v.ownBlock = none ∨ v.ownBlock ≠ some g := fun {u v xs g} ho hg => by
    rcases hv : v.ownBlock with _ | x
    · exact .inl rfl
    · exact .inr (fun e => by have := ho.lt' x hv; cases e; omega)
  have p1 := OwnI.grown (OwnI.grown o1 g1 (away o1 (by omega))) g2 (away o1 (by omega))
  have p2 := OwnI.grown (OwnI.grown o2 g1 (away o2 (by omega))) g2 (away o2 (by omega))
  refine ⟨(g2.block _ (by omega) (by simp)).trans b1, b2, A1, k1, A2, k2, rfl, ?_, ?_, ?_, OwnI.down p1 (by omega), OwnI.down p2 (by omega)⟩
  · obtain ⟨A', c', e, hh⟩ := p1.isL
    cases e
    exact hh
  · obtain ⟨A', c', e, hh⟩ := p2.isL
    cases e
    exact hh
  · exact Below.grown (Below.grown h.b g1 h.b.size (fun g e => by cases e; omega)) g2 (by rw [e1]; exact h.b.size) (fun g e => by cases e; omega)
attribute [local irreducible] RP.plainUpon RP.stepC
set_option maxRecDepth 100000 in
set_option maxHeartbeats 2000000 in
theorem two_any (p q : PatD) (hl : p.xs.length ≤ 1000000) (hl2 : q.xs.length ≤ 1000000) (A : Option Addr) (k : Nat) (B : Option Addr) (m : Nat) (w : World) (hi : PatIn w p A) (hq : PatIn w q B) :
    Calls Tryz.prog 38 #[.agg #[.int .i64 p.a, .int .i64 p.b, .int .i64 p.c, .slice A p.xs.length k], .agg #[.int .i64 q.a, .int .i64 q.b, .int .i64 q.c, .slice B q.xs.length m]] w (OutP2 w (twoT p q) (.int .i64 (twoZ p q))) := by
  obtain ⟨T, hT⟩ : ∃ T, T = twoT p q := ⟨_, rfl⟩
  obtain ⟨Z, hZ⟩ : ∃ Z, Z = twoZ p q := ⟨_, rfl⟩
  rw [← hT, ← hZ]
  unfold twoT at hT
  rw [← hZ] at hT
  unfold twoZ at hZ
  obtain ⟨E, hE⟩ : ∃ E, E = valP p := ⟨_, rfl⟩
  obtain ⟨D, hD⟩ : ∃ D, D = valP q := ⟨_, rfl⟩
  rw [← hE, ← hD] at hZ
  have HV1 := Lib.hid (fun w hi => validateP_any p hl E hE.symm A k w hi)
  have HV2 := Lib.hid (fun w hi => validateP_any q hl2 D hD.symm B m w hi)
  have HT := Lib.hid hT
  have HZ := Lib.hid hZ
  have HE := Lib.hid hE
  have HD := Lib.hid hD
  have HI := Lib.hid (And.intro hi hq)
  clear hi hq hT hZ hE hD
  go_enter Tryz.func38, Tryz.ntmps38
  go_wp2_with fail
  obtain ⟨a0, a1, a2, a3, a4, a5⟩ := al4 w (.cells #[.int .i64 p.a, .int .i64 p.b, .int .i64 p.c, .slice A p.xs.length k] 24) (.cells #[.int .i64 q.a, .int .i64 q.b, .int .i64 q.c, .slice B q.xs.length m] 24) (.cells #[.int .i64 0, .int .i64 0, .int .i64 0, .slice none 0 0] 24) (.cells #[.int .i64 0, .int .i64 0, .int .i64 0, .slice none 0 0] 24)
  obtain ⟨V, hV⟩ : ∃ V, V = (((w.alloc (.cells #[.int .i64 p.a, .int .i64 p.b, .int .i64 p.c, .slice A p.xs.length k] 24)).alloc (.cells #[.int .i64 q.a, .int .i64 q.b, .int .i64 q.c, .slice B q.xs.length m] 24)).alloc (.cells #[.int .i64 0, .int .i64 0, .int .i64 0, .slice none 0 0] 24)).alloc (.cells #[.int .i64 0, .int .i64 0, .int .i64 0, .slice none 0 0] 24) := ⟨_, rfl⟩
  rw [← hV] at a0 a1 a2 a3 a4 a5 ⊢
  have H0 := Lib.hid (show BB w V p q A k B m from ⟨a1, a2, a3, a4, a5⟩)
  clear hV a0 a1 a2 a3 a4 a5
  refine (HV1.out V (HI.out.1.below H0.out.b)).mono ?_
  rintro e w1 ⟨rfl, hb1⟩
  have H1 := Lib.hid (H0.out.keep hb1)
  clear H0 hb1 HV1 V
  by_cases hz : E = 0
  · subst hz
    have hZ := HZ.out
    rw [if_neg (by simp)] at hZ
    obtain ⟨q0, q1, q2, q3, q4⟩ := H1.out.q.cells
    go_wp2_with fail
    refine (HV2.out w1 (HI.out.2.below H1.out.b)).mono ?_
    rintro e w2 ⟨rfl, hb2⟩
    have H2 := Lib.hid (H1.out.keep hb2)
    clear H1 hb2 HV2 q0 q1 q2 q3 q4
    by_cases hy : D = 0
    · subst hy
      have hv1 : valP p = 0 := HE.out.symm
      have hv2 : valP q = 0 := HD.out.symm
      have hT := HT.out
      rw [if_neg (by omega)] at hT
      have hgp := valP_zero hv1
      have hgq := valP_zero hv2
      have HL1 := Lib.hid (fun fv w hF => pleast_lst p hv1 fv w hF)
      have HL2 := Lib.hid (fun fv w hF => pleast_lst q hv2 fv w hF)
      obtain ⟨t1, ht1⟩ : ∃ t, t = lst (colF p) := ⟨_, rfl⟩
      obtain ⟨t2, ht2⟩ : ∃ t, t = lst (colF q) := ⟨_, rfl⟩
      rw [← ht1] at hT HL1
      rw [← ht2] at hT HL2
      have HTT := Lib.hid (And.intro hT hZ)
      have HG := Lib.hid (And.intro hgp hgq)
      clear hv1 hv2 hT hZ hgp hgq ht1 ht2 HT HZ HE HD
      obtain ⟨q0, q1, q2, q3, q4⟩ := H2.out.p.cells
      go_wp2_with fail
      refine (of_any p HG.out.1.ok A k w2 (HI.out.1.below H2.out.b)).mono ?_
      rintro e w3 ⟨fv, rfl, hF, hb3⟩
      have H3 := Lib.hid (And.intro (H2.out.keep hb3) hF)
      clear hF hb3 q0 q1 q2 q3 q4 H2
      go_wp2_with fail
      refine (HL1.out fv w3 H3.out.2).mono ?_
      rintro e w4 ⟨v4, rfl, ho4, hb4⟩
      obtain ⟨A4, n4, hv4, -⟩ := ho4.isL
      obtain ⟨l4, hl4⟩ : ∃ l4, l4 = t1.xs.length := ⟨_, rfl⟩
      rw [← hl4] at hv4
      subst hv4
      have H4 := Lib.hid (And.intro (H3.out.1.keep hb4) (And.intro (OwnI.down ho4 (show w.heap.size + 1 + 1 + 1 + 1 ≤ w3.heap.size from H3.out.1.lt)) hl4))
      clear ho4 hb4 hl4 H3 HL1
      go_upto_region 8 with fail
      have hn4 := PBox.new w4 t1.a t1.b t1.c (.slice A4 l4 n4)
      have hal4 := below_new w4 (.cells #[.int .i64 t1.a, .int .i64 t1.b, .int .i64 t1.c, .slice A4 l4 n4] 24)
      obtain ⟨W4, hW4⟩ : ∃ W, W = w4.alloc (.cells #[.int .i64 t1.a, .int .i64 t1.b, .int .i64 t1.c, .slice A4 l4 n4] 24) := ⟨_, rfl⟩
      rw [← hW4] at hn4 hal4 ⊢
      have H5 := Lib.hid (And.intro (H4.out.1.keep hal4) (And.intro (OwnI.keep hal4 H4.out.2.1) (And.intro H4.out.2.2 (And.intro hn4 H4.out.1.lt))))
      clear hn4 hal4 hW4 H4
      obtain ⟨q0, q1, q2, q3, q4⟩ := H5.out.1.q.cells
      go_wp2_with fail
      refine (of_any q HG.out.2.ok B m W4 (HI.out.2.below H5.out.1.b)).mono ?_
      rintro e w6 ⟨fv2, rfl, hF, hb6⟩
      have H6 := Lib.hid (And.intro (H5.out.1.keep hb6) (And.intro hF (And.intro (OwnI.keep hb6 H5.out.2.1) (And.intro H5.out.2.2.1 (And.intro (H5.out.2.2.2.1.keep hb6) H5.out.2.2.2.2)))))
      clear hF hb6 q0 q1 q2 q3 q4 H5
      go_wp2_with fail
      refine (HL2.out fv2 w6 H6.out.2.1).mono ?_
      rintro e w7 ⟨v7, rfl, ho7, hb7⟩
      obtain ⟨A7, n7, hv7, -⟩ := ho7.isL
      obtain ⟨l7, hl7⟩ : ∃ l7, l7 = t2.xs.length := ⟨_, rfl⟩
      rw [← hl7] at hv7
      subst hv7
      have H7 := Lib.hid (And.intro (H6.out.1.keep hb7) (And.intro (OwnI.keep hb7 H6.out.2.2.1) (And.intro H6.out.2.2.2.1 (And.intro (H6.out.2.2.2.2.1.keep hb7) (And.intro H6.out.2.2.2.2.2 (And.intro (OwnI.down ho7 (show w.heap.size + 1 + 1 + 1 + 1 ≤ w6.heap.size from H6.out.1.lt)) hl7))))))
      clear ho7 hb7 hl7 H6 HL2
      go_upto_region 9 with fail
      have hn7 := PBox.new w7 t2.a t2.b t2.c (.slice A7 l7 n7)
      have hal7 := below_new w7 (.cells #[.int .i64 t2.a, .int .i64 t2.b, .int .i64 t2.c, .slice A7 l7 n7] 24)
      obtain ⟨W7, hW7⟩ : ∃ W, W = w7.alloc (.cells #[.int .i64 t2.a, .int .i64 t2.b, .int .i64 t2.c, .slice A7 l7 n7] 24) := ⟨_, rfl⟩
      rw [← hW7] at hn7 hal7 ⊢
      have H8 := Lib.hid (And.intro (H7.out.1.keep hal7) (And.intro (OwnI.keep hal7 H7.out.2.1) (And.intro H7.out.2.2.1 (And.intro (H7.out.2.2.2.1.keep hal7) (And.intro H7.out.2.2.2.2.1 (And.intro (OwnI.keep hal7 H7.out.2.2.2.2.2.1) (And.intro H7.out.2.2.2.2.2.2 (And.intro hn7 H7.out.1.lt))))))))
      clear hn7 hal7 hW7 H7
      refine RP.region_treeP (C := fun _ => True) (fun _ _ _ => False) [] (.two 0 (.two 1 (.one 2 (.one 3 .nil)) 2 (.one 1 (.one 3 .nil))) 1 (.one 0 (.one 2 (.one 3 .nil)))) 4 (fun _ _ _ h => h.elim) (by kernel_rfl) (by kernel_rfl) trivial ?_
      obtain ⟨wx, hwx⟩ : ∃ wx : World, wx = { W7 with drawn := W7.drawn + 1 } := ⟨_, rfl⟩
      have hbx : Below W7.heap.size W7 wx := by rw [hwx]; exact (Below.refl _ _).drew
      rw [← hwx]
      have hb11n : w.heap.size + 1 + 1 + 1 < w7.heap.size := H8.out.2.2.2.2.2.2.2.2
      have H9 := Lib.hid (And.intro (H8.out.1.keep hbx) (And.intro (OwnI.keep hbx H8.out.2.1) (And.intro H8.out.2.2.1 (And.intro (H8.out.2.2.2.1.keep hbx) (And.intro H8.out.2.2.2.2.1 (And.intro (OwnI.keep hbx H8.out.2.2.2.2.2.1) (And.intro H8.out.2.2.2.2.2.2.1 (H8.out.2.2.2.2.2.2.2.1.keep hbx))))))))
      obtain ⟨b9, hb9⟩ : ∃ b, b = w4.heap.size := ⟨_, rfl⟩
      obtain ⟨b11, hb11⟩ : ∃ b, b = w7.heap.size := ⟨_, rfl⟩
      rw [← hb9, ← hb11]
      rw [← hb9, ← hb11] at H9
      rw [← hb11] at hb11n
      clear hwx hbx hb9 hb11 H8 HI HG
      obtain ⟨x0, x1, x2, x3, x4⟩ := H9.out.2.2.2.1.cells
      obtain ⟨y0, y1, y2, y3, y4⟩ := H9.out.2.2.2.2.2.2.2.cells
      simp only [pickL]
      refine wpQuiet_nil ?_
      simp only [RP.treeS, atOp, List.getElem?_cons_zero, List.getElem?_cons_succ]
      have HP := Lib.hid (put_both H9.out.1 t1 t2 A4 n4 A7 n7 l4 l7 H9.out.2.2.1 H9.out.2.2.2.2.2.2.1 H9.out.2.1 H9.out.2.2.2.2.2.1 (.int .i64 0))
      have hr := Lib.hid H9.out.1.r
      have hs1 : PBox (wx.setRow (w.heap.size + 1 + 1) #[.int .i64 t1.a, .int .i64 t1.b, .int .i64 t1.c, .slice A4 l4 n4]) (w.heap.size + 1 + 1 + 1) 0 0 0 (.slice none 0 0) := ((row_grown wx (w.heap.size + 1 + 1) #[.int .i64 t1.a, .int .i64 t1.b, .int .i64 t1.c, .slice A4 l4 n4]).block _ (by have := H9.out.1.lt; omega) (by simp)).trans H9.out.1.s
      have hs := Lib.hid hs1
      clear hs1
      have hy1 : PBox (wx.setRow (w.heap.size + 1 + 1) #[.int .i64 t1.a, .int .i64 t1.b, .int .i64 t1.c, .slice A4 l4 n4]) b11 t2.a t2.b t2.c (.slice A7 l7 n7) := ((row_grown wx (w.heap.size + 1 + 1) #[.int .i64 t1.a, .int .i64 t1.b, .int .i64 t1.c, .slice A4 l4 n4]).block _ y4 (by simp; omega)).trans H9.out.2.2.2.2.2.2.2
      obtain ⟨ww, hww⟩ : ∃ ww, ww = wx.setRow (w.heap.size + 1 + 1) #[.int .i64 t1.a, .int .i64 t1.b, .int .i64 t1.c, .slice A4 l4 n4] := ⟨_, rfl⟩
      have HWW := Lib.hid hww
      rw [← hww] at hy1 HP hs
      obtain ⟨z0, z1, z2, z3, z4⟩ := hy1.cells
      have hst : ∀ (o : Oper) (a : Act) (x y : Operand), o.op = .store 24 x y → a.eval x = .pointer (some ⟨w.heap.size + 1 + 1, 0, none⟩) → a.eval y = .agg #[.int .i64 t1.a, .int .i64 t1.b, .int .i64 t1.c, .slice A4 l4 n4] → (execOp a.eval o).run Tryz.prog wx = .ok .skip ww := fun o a x y ho hx hy => by
        rw [HWW.out]; exact st_pat_run x y ho hr.out _ _ _ _ _ _ hx hy
      have HST := Lib.hid hst
      clear hww hy1 hst HWW
      refine ⟨trivial, ?_, ?_⟩
      · refine RP.p_val (.agg #[.int .i64 t1.a, .int .i64 t1.b, .int .i64 t1.c, .slice A4 l4 n4]) wx rfl (by go_simp) ?_
        refine ⟨trivial, ?_, ?_⟩
        · refine RP.p_val (.agg #[.int .i64 t2.a, .int .i64 t2.b, .int .i64 t2.c, .slice A7 l7 n7]) wx rfl (by go_simp) ?_
          refine ⟨trivial, ?_⟩
          refine RP.p_skip ww rfl (HST.out _ _ _ _ rfl (by go_simp) (by go_simp)) ?_
          refine ⟨trivial, ?_⟩
          refine RP.p_skip (ww.setRow (w.heap.size + 1 + 1 + 1) #[.int .i64 t2.a, .int .i64 t2.b, .int .i64 t2.c, .slice A7 l7 n7]) rfl (st_pat_run _ _ rfl hs.out _ _ _ _ _ _ (by go_simp) (by go_simp)) ?_
          refine ⟨trivial, ?_⟩
          refine RP.p_val (.int .i64 0) (ww.setRow (w.heap.size + 1 + 1 + 1) #[.int .i64 t2.a, .int .i64 t2.b, .int .i64 t2.c, .slice A7 l7 n7]) rfl (by go_simp) ?_
          go_simp
          go_wp2_with fail
          refine bodyPost_ret (v := .tuple #[.agg #[.int .i64 t1.a, .int .i64 t1.b, .int .i64 t1.c, .slice A4 l4 n4], .agg #[.int .i64 t2.a, .int .i64 t2.b, .int .i64 t2.c, .slice A7 l7 n7], .int .i64 0]) (ret_two rfl rfl rfl rfl HP.out.1 HP.out.2.1) rfl ?_
          rw [HTT.out.1, HTT.out.2]
          exact HP.out.2.2
        · refine RP.p_skip ww rfl (HST.out _ _ _ _ rfl (by go_simp) (by go_simp)) ?_
          refine ⟨trivial, ?_⟩
          refine RP.p_val (.agg #[.int .i64 t2.a, .int .i64 t2.b, .int .i64 t2.c, .slice A7 l7 n7]) ww rfl (by go_simp) ?_
          refine ⟨trivial, ?_⟩
          refine RP.p_skip (ww.setRow (w.heap.size + 1 + 1 + 1) #[.int .i64 t2.a, .int .i64 t2.b, .int .i64 t2.c, .slice A7 l7 n7]) rfl (st_pat_run _ _ rfl hs.out _ _ _ _ _ _ (by go_simp) (by go_simp)) ?_
          refine ⟨trivial, ?_⟩
          refine RP.p_val (.int .i64 0) (ww.setRow (w.heap.size + 1 + 1 + 1) #[.int .i64 t2.a, .int .i64 t2.b, .int .i64 t2.c, .slice A7 l7 n7]) rfl (by go_simp) ?_
          go_simp
          go_wp2_with fail
          refine bodyPost_ret (v := .tuple #[.agg #[.int .i64 t1.a, .int .i64 t1.b, .int .i64 t1.c, .slice A4 l4 n4], .agg #[.int .i64 t2.a, .int .i64 t2.b, .int .i64 t2.c, .slice A7 l7 n7], .int .i64 0]) (ret_two rfl rfl rfl rfl HP.out.1 HP.out.2.1) rfl ?_
          rw [HTT.out.1, HTT.out.2]
          exact HP.out.2.2
      · refine RP.p_val (.agg #[.int .i64 t2.a, .int .i64 t2.b, .int .i64 t2.c, .slice A7 l7 n7]) wx rfl (by go_simp) ?_
        refine ⟨trivial, ?_⟩
        refine RP.p_val (.agg #[.int .i64 t1.a, .int .i64 t1.b, .int .i64 t1.c, .slice A4 l4 n4]) wx rfl (by go_simp) ?_
        refine ⟨trivial, ?_⟩
        refine RP.p_skip ww rfl (HST.out _ _ _ _ rfl (by go_simp) (by go_simp)) ?_
        refine ⟨trivial, ?_⟩
        refine RP.p_skip (ww.setRow (w.heap.size + 1 + 1 + 1) #[.int .i64 t2.a, .int .i64 t2.b, .int .i64 t2.c, .slice A7 l7 n7]) rfl (st_pat_run _ _ rfl hs.out _ _ _ _ _ _ (by go_simp) (by go_simp)) ?_
        refine ⟨trivial, ?_⟩
        refine RP.p_val (.int .i64 0) (ww.setRow (w.heap.size + 1 + 1 + 1) #[.int .i64 t2.a, .int .i64 t2.b, .int .i64 t2.c, .slice A7 l7 n7]) rfl (by go_simp) ?_
        go_simp
        go_wp2_with fail
        refine bodyPost_ret (v := .tuple #[.agg #[.int .i64 t1.a, .int .i64 t1.b, .int .i64 t1.c, .slice A4 l4 n4], .agg #[.int .i64 t2.a, .int .i64 t2.b, .int .i64 t2.c, .slice A7 l7 n7], .int .i64 0]) (ret_two rfl rfl rfl rfl HP.out.1 HP.out.2.1) rfl ?_
        rw [HTT.out.1, HTT.out.2]
        exact HP.out.2.2
    · have d1 : (D == 0) = false := by rw [beq_eq_false_iff_ne]; exact hy
      have d2 : (D != 0) = true := by rw [bne_iff_ne]; exact hy
      have HTT := Lib.hid (show T = (zeroP, zeroP) ∧ Z = D from ⟨by rw [HT.out, if_pos (by omega)], hZ⟩)
      have HP := Lib.hid (put_zeros H2.out)
      obtain ⟨r0, r1, r2, r3, r4⟩ := PBox.cells H2.out.r
      have fr0 : (w2).frozen? ⟨w.heap.size + 1 + 1, 0, none⟩ = false := frozen_of_row (w2) (w.heap.size + 1 + 1) 0 _ _ H2.out.r
      have fr1 : (w2).frozen? ⟨w.heap.size + 1 + 1, 1, none⟩ = false := frozen_of_row (w2) (w.heap.size + 1 + 1) 1 _ _ H2.out.r
      have fr2 : (w2).frozen? ⟨w.heap.size + 1 + 1, 2, none⟩ = false := frozen_of_row (w2) (w.heap.size + 1 + 1) 2 _ _ H2.out.r
      have fr3 : (w2).frozen? ⟨w.heap.size + 1 + 1, 3, none⟩ = false := frozen_of_row (w2) (w.heap.size + 1 + 1) 3 _ _ H2.out.r
      obtain ⟨s0, s1, s2, s3, s4⟩ := PBox.cells H2.out.s
      have fs0 : (w2).frozen? ⟨w.heap.size + 1 + 1 + 1, 0, none⟩ = false := frozen_of_row (w2) (w.heap.size + 1 + 1 + 1) 0 _ _ H2.out.s
      have fs1 : (w2).frozen? ⟨w.heap.size + 1 + 1 + 1, 1, none⟩ = false := frozen_of_row (w2) (w.heap.size + 1 + 1 + 1) 1 _ _ H2.out.s
      have fs2 : (w2).frozen? ⟨w.heap.size + 1 + 1 + 1, 2, none⟩ = false := frozen_of_row (w2) (w.heap.size + 1 + 1 + 1) 2 _ _ H2.out.s
      have fs3 : (w2).frozen? ⟨w.heap.size + 1 + 1 + 1, 3, none⟩ = false := frozen_of_row (w2) (w.heap.size + 1 + 1 + 1) 3 _ _ H2.out.s
      clear hy hZ HT HZ HE HD
      go_wp2
      refine bodyPost_ret (v := .tuple #[.agg #[.int .i64 0, .int .i64 0, .int .i64 0, .slice none 0 0], .agg #[.int .i64 0, .int .i64 0, .int .i64 0, .slice none 0 0], .int .i64 D]) (ret_two rfl rfl rfl rfl HP.out.1 HP.out.2.1) rfl ?_
      rw [HTT.out.1, HTT.out.2]
      exact ⟨none, 0, none, 0, rfl, ⟨rfl, fun h => absurd h (by simp [zeroP])⟩, ⟨rfl, fun h => absurd h (by simp [zeroP])⟩, HP.out.2.2, OwnI.nil _ _, OwnI.nil _ _⟩
  · have d1 : (E == 0) = false := by rw [beq_eq_false_iff_ne]; exact hz
    have d2 : (E != 0) = true := by rw [bne_iff_ne]; exact hz
    have hZ : Z = E := by rw [HZ.out, if_pos hz]
    have HTT := Lib.hid (show T = (zeroP, zeroP) ∧ Z = E from ⟨by rw [HT.out, if_pos (by omega)], hZ⟩)
    have hy := hz
    have HP := Lib.hid (put_zeros H1.out)
    obtain ⟨r0, r1, r2, r3, r4⟩ := PBox.cells H1.out.r
    have fr0 : (w1).frozen? ⟨w.heap.size + 1 + 1, 0, none⟩ = false := frozen_of_row (w1) (w.heap.size + 1 + 1) 0 _ _ H1.out.r
    have fr1 : (w1).frozen? ⟨w.heap.size + 1 + 1, 1, none⟩ = false := frozen_of_row (w1) (w.heap.size + 1 + 1) 1 _ _ H1.out.r
    have fr2 : (w1).frozen? ⟨w.heap.size + 1 + 1, 2, none⟩ = false := frozen_of_row (w1) (w.heap.size + 1 + 1) 2 _ _ H1.out.r
    have fr3 : (w1).frozen? ⟨w.heap.size + 1 + 1, 3, none⟩ = false := frozen_of_row (w1) (w.heap.size + 1 + 1) 3 _ _ H1.out.r
    obtain ⟨s0, s1, s2, s3, s4⟩ := PBox.cells H1.out.s
    have fs0 : (w1).frozen? ⟨w.heap.size + 1 + 1 + 1, 0, none⟩ = false := frozen_of_row (w1) (w.heap.size + 1 + 1 + 1) 0 _ _ H1.out.s
    have fs1 : (w1).frozen? ⟨w.heap.size + 1 + 1 + 1, 1, none⟩ = false := frozen_of_row (w1) (w.heap.size + 1 + 1 + 1) 1 _ _ H1.out.s
    have fs2 : (w1).frozen? ⟨w.heap.size + 1 + 1 + 1, 2, none⟩ = false := frozen_of_row (w1) (w.heap.size + 1 + 1 + 1) 2 _ _ H1.out.s
    have fs3 : (w1).frozen? ⟨w.heap.size + 1 + 1 + 1, 3, none⟩ = false := frozen_of_row (w1) (w.heap.size + 1 + 1 + 1) 3 _ _ H1.out.s
    clear hy hZ HT HZ HE HD
    go_wp2
    refine bodyPost_ret (v := .tuple #[.agg #[.int .i64 0, .int .i64 0, .int .i64 0, .slice none 0 0], .agg #[.int .i64 0, .int .i64 0, .int .i64 0, .slice none 0 0], .int .i64 E]) (ret_two rfl rfl rfl rfl HP.out.1 HP.out.2.1) rfl ?_
    rw [HTT.out.1, HTT.out.2]
    exact ⟨none, 0, none, 0, rfl, ⟨rfl, fun h => absurd h (by simp [zeroP])⟩, ⟨rfl, fun h => absurd h (by simp [zeroP])⟩, HP.out.2.2, OwnI.nil _ _, OwnI.nil _ _⟩
/-- Whether two patterns are the same. -/
noncomputable def samT (p q : PatD) : Bool := by
  classical
  exact if twoZ p q ≠ 0 then false else decide (colF p = colF q)
theorem samT_bad {p q : PatD} (h : twoZ p q ≠ 0) : samT p q = false := by unfold samT; rw [if_pos h]
theorem samT_iff {p q : PatD} (h : twoZ p q = 0) : samT p q = true ↔ colF p = colF q := by
  classical
  unfold samT
  rw [if_neg (by simp [h])]
  exact decide_eq_true_iff
theorem lst_len144 {p : PatD} (hv : valP p = 0) : (lst (colF p)).xs.length ≤ 144 := by
  have h := lst_good hv
  have h1 := h.len
  have h2 := h.ac
  omega
set_option maxRecDepth 100000 in
set_option maxHeartbeats 1000000 in
theorem psame_any (p q : PatD) (hl : p.xs.length ≤ 1000000) (hl2 : q.xs.length ≤ 1000000) (A : Option Addr) (k : Nat) (B : Option Addr) (m : Nat) (w : World) (hi : PatIn w p A) (hq : PatIn w q B) :
    Calls Tryz.prog 17 #[.agg #[.int .i64 p.a, .int .i64 p.b, .int .i64 p.c, .slice A p.xs.length k], .agg #[.int .i64 q.a, .int .i64 q.b, .int .i64 q.c, .slice B q.xs.length m]] w fun e w' => e = .returned (.tuple #[.bool (samT p q), .int .i64 (twoZ p q)]) ∧ Below w.heap.size w w' := by
  have HC := Lib.hid (fun w hi hq => two_any p q hl hl2 A k B m w hi hq)
  obtain ⟨T, hT⟩ : ∃ T, T = twoT p q := ⟨_, rfl⟩
  obtain ⟨S, hS⟩ : ∃ S, S = samT p q := ⟨_, rfl⟩
  have h0 := fun h => samT_bad (p := p) (q := q) h
  have h1 := fun h => samT_iff (p := p) (q := q) h
  have hz0 := fun h => twoZ_zero (p := p) (q := q) h
  have hTu : twoZ p q = 0 → T = (lst (colF p), lst (colF q)) := fun h => by rw [hT]; unfold twoT; rw [if_neg (by simp [h])]
  obtain ⟨Z, hZ⟩ : ∃ Z, Z = twoZ p q := ⟨_, rfl⟩
  rw [← hS] at h0 h1
  rw [← hZ] at HC h0 h1 hz0 hTu
  rw [← hT] at HC
  rw [← hS, ← hZ]
  have HI := Lib.hid (And.intro hi hq)
  have H01 := Lib.hid (And.intro h0 (And.intro h1 (And.intro hz0 hTu)))
  clear hi hq h0 h1 hz0 hTu hS hT hZ
  go_enter Tryz.func17, Tryz.ntmps17
  go_wp2_with fail
  obtain ⟨a0, a1, a2, a3⟩ := al2 w (.cells #[.int .i64 p.a, .int .i64 p.b, .int .i64 p.c, .slice A p.xs.length k] 24) (.cells #[.int .i64 q.a, .int .i64 q.b, .int .i64 q.c, .slice B q.xs.length m] 24)
  obtain ⟨V, hV⟩ : ∃ V, V = (w.alloc (.cells #[.int .i64 p.a, .int .i64 p.b, .int .i64 p.c, .slice A p.xs.length k] 24)).alloc (.cells #[.int .i64 q.a, .int .i64 q.b, .int .i64 q.c, .slice B q.xs.length m] 24) := ⟨_, rfl⟩
  rw [← hV] at a0 a1 a2 a3 ⊢
  have HV := Lib.hid a3
  refine (HC.out V (HI.out.1.below a3) (HI.out.2.below a3)).mono ?_
  clear hV a0 a1 a2 a3
  rintro e w1 ⟨A1, k1, A2, k2, rfl, i1, i2, hb1, -⟩
  obtain ⟨t1, t2⟩ := T
  simp only at i1 i2 ⊢
  have H1 := Lib.hid (And.intro i1 (And.intro i2 (HV.out.trans (hb1.mono HV.out.size))))
  clear i1 i2 hb1 HC HV
  by_cases hz : Z = 0
  · subst hz
    obtain ⟨hv1, hv2⟩ := H01.out.2.2.1 rfl
    have hTu := H01.out.2.2.2 rfl
    simp only [Prod.mk.injEq] at hTu
    have HT1 := hTu.1
    have HT2 := hTu.2
    have l1 : t1.xs.length ≤ 144 := by rw [HT1]; exact lst_len144 hv1
    have l2 : t2.xs.length ≤ 144 := by rw [HT2]; exact lst_len144 hv2
    have hrs : S = true ↔ t1 = t2 := by rw [HT1, HT2, lst_inj (lst_pat hv1) (lst_pat hv2)]; exact H01.out.2.1 rfl
    have HEQ := Lib.hid (fun A1 k1 A2 k2 w i1 i2 => pequal_any t1 t2 (by omega) (by omega) S hrs A1 k1 A2 k2 w i1 i2)
    obtain ⟨l3, hl3⟩ : ∃ l, l = t1.xs.length := ⟨_, rfl⟩
    obtain ⟨l4, hl4⟩ : ∃ l, l = t2.xs.length := ⟨_, rfl⟩
    have HL3 := Lib.hid hl3
    have HL4 := Lib.hid hl4
    rw [← hl3, ← hl4]
    rw [← hl3, ← hl4] at HEQ
    clear hTu HT1 HT2 l1 l2 hrs hv1 hv2 H01 hl3 hl4
    go_wp2_with fail
    refine (HEQ.out A1 k1 A2 k2 _ (H1.out.1.below (by repeat' (first | (with_reducible exact Below.refl _ _) | (with_reducible assumption) | (with_reducible refine below_drewN ?_ _) | (with_reducible refine below_step (by assumption) ?_ ?_) | (with_reducible refine Below.alloc ?_ ?_ _) | (with_reducible refine Below.setCell ?_ ?_ _) | (with_reducible refine Below.drew ?_) | go_size | (exact Below.size (by assumption)) | (refine Nat.le_trans (Below.size (by assumption)) ?_)))) (H1.out.2.1.below (by repeat' (first | (with_reducible exact Below.refl _ _) | (with_reducible assumption) | (with_reducible refine below_drewN ?_ _) | (with_reducible refine below_step (by assumption) ?_ ?_) | (with_reducible refine Below.alloc ?_ ?_ _) | (with_reducible refine Below.setCell ?_ ?_ _) | (with_reducible refine Below.drew ?_) | go_size | (exact Below.size (by assumption)) | (refine Nat.le_trans (Below.size (by assumption)) ?_))))).mono ?_
    rintro e w2 ⟨rfl, hb2⟩
    have HB := Lib.hid (show Below w.heap.size w w2 from H1.out.2.2.trans ((show Below w1.heap.size w1 w2 from (by repeat' (first | (with_reducible exact Below.refl _ _) | (with_reducible assumption) | (with_reducible refine below_drewN ?_ _) | (with_reducible refine below_step (by assumption) ?_ ?_) | (with_reducible refine Below.alloc ?_ ?_ _) | (with_reducible refine Below.setCell ?_ ?_ _) | (with_reducible refine Below.drew ?_) | go_size | (exact Below.size (by assumption)) | (refine Nat.le_trans (Below.size (by assumption)) ?_)))).mono H1.out.2.2.size))
    clear hb2 HEQ
    go_wp2
    go_ret2
    exact ⟨rfl, HB.out⟩
  · have d1 : (Z == 0) = false := by rw [beq_eq_false_iff_ne]; exact hz
    have d2 : (Z != 0) = true := by rw [bne_iff_ne]; exact hz
    have HS := Lib.hid (H01.out.1 hz)
    obtain ⟨l3, hl3⟩ : ∃ l, l = t1.xs.length := ⟨_, rfl⟩
    obtain ⟨l4, hl4⟩ : ∃ l, l = t2.xs.length := ⟨_, rfl⟩
    rw [← hl3, ← hl4]
    clear hz H01 hl3 hl4
    go_wp2
    go_ret2
    refine ⟨by rw [HS.out] <;> rfl, ?_⟩
    exact H1.out.2.2.trans ((show Below w1.heap.size w1 _ from (by repeat' (first | (with_reducible exact Below.refl _ _) | (with_reducible assumption) | (with_reducible refine below_drewN ?_ _) | (with_reducible refine below_step (by assumption) ?_ ?_) | (with_reducible refine Below.alloc ?_ ?_ _) | (with_reducible refine Below.setCell ?_ ?_ _) | (with_reducible refine Below.drew ?_) | go_size | (exact Below.size (by assumption)) | (refine Nat.le_trans (Below.size (by assumption)) ?_)))).mono H1.out.2.2.size)
end Go.Proofs.YtlinldbbhdpgcaaGreatDoor
