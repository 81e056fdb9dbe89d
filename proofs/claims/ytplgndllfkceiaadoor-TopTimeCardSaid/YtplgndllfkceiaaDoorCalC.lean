/-
  week, isOpen AND open.
-/
import Derived.Test.YtplgndllfkceiaaDoorCalB
namespace Go.Proofs.YtplgndllfkceiaaDoor
open Go.RowKit
theorem Seven.congr {b : Nat} {w : World} {f g : Nat → Bool} (h : Seven w b f) (hg : ∀ j, f j = g j) : Seven w b g := by
  rwa [← (funext hg : f = g)]
theorem Seven.new (w : World) (t : TypeId) : Seven (w.alloc (.cells #[.bool false, .bool false, .bool false, .bool false, .bool false, .bool false, .bool false] t)) w.heap.size (fun _ => false) := by
  refine ⟨fun j hj => ?_, by simp⟩
  have : j = 0 ∨ j = 1 ∨ j = 2 ∨ j = 3 ∨ j = 4 ∨ j = 5 ∨ j = 6 := by omega
  rcases this with rfl | rfl | rfl | rfl | rfl | rfl | rfl <;> exact ⟨by simp, by simp⟩
theorem Seven.new1 (w : World) (o : Obj) (t : TypeId) : Seven ((w.alloc o).alloc (.cells #[.bool false, .bool false, .bool false, .bool false, .bool false, .bool false, .bool false] t)) (w.heap.size + 1) (fun _ => false) := by
  have := Seven.new (w.alloc o) t
  rwa [World.size_alloc] at this
theorem Seven.new2 (w : World) (o o' : Obj) (t : TypeId) : Seven (((w.alloc o).alloc o').alloc (.cells #[.bool false, .bool false, .bool false, .bool false, .bool false, .bool false, .bool false] t)) (w.heap.size + 1 + 1) (fun _ => false) := by
  have := Seven.new1 (w.alloc o) o' t
  rwa [World.size_alloc] at this
/-- A calendar's fields, and what its lists hold. -/
structure Cal where
  s : Int
  e : Int
  A1 : Option Addr
  n1 : Nat
  c1 : Nat
  A2 : Option Addr
  n2 : Nat
  c2 : Nat
  rs : List Int
  hs : List Int
def Cal.v (k : Cal) : Value := .agg #[.int .i64 k.s, .int .i64 k.e, .slice k.A1 k.n1 k.c1, .slice k.A2 k.n2 k.c2]
structure CalIn (w : World) (k : Cal) : Prop where
  l1 : IsL w k.A1 k.n1 k.rs
  l2 : IsL w k.A2 k.n2 k.hs
  b1 : k.n1 ≤ 4611686018427387904
  b2 : k.n2 ≤ 4611686018427387904
  s1 : -9223372036854775808 ≤ k.s
  s2 : k.s ≤ 9223372036854775807
  e1 : -9223372036854775808 ≤ k.e
  e2 : k.e ≤ 9223372036854775807
theorem CalIn.below {w w' : World} {k : Cal} (hb : Below w.heap.size w w') (h : CalIn w k) : CalIn w' k := ⟨h.l1.below hb, h.l2.below hb, h.b1, h.b2, h.s1, h.s2, h.e1, h.e2⟩
/-- Whether a day is open. -/
def opn (k : Cal) (day : Int) : Bool := !decide (day % 7 ∈ k.rs) && !decide (day ∈ k.hs)
/-- Block b holds a calendar, and may be written. -/
def Box4 (w : World) (b : Nat) (k : Cal) : Prop :=
  w.cell? ⟨b, 0, none⟩ = some (.int .i64 k.s) ∧ w.cell? ⟨b, 1, none⟩ = some (.int .i64 k.e) ∧ w.cell? ⟨b, 2, none⟩ = some (.slice k.A1 k.n1 k.c1) ∧ w.cell? ⟨b, 3, none⟩ = some (.slice k.A2 k.n2 k.c2) ∧ b < w.heap.size
theorem Box4.below {B b : Nat} {W w1 : World} {k : Cal} (hb : Below B W w1) (hB : b < B) (h : Box4 W b k) : Box4 w1 b k := by
  obtain ⟨h1, h2, h3, h4, h5⟩ := h
  exact ⟨(hb.cell (p := ⟨b, 0, none⟩) hB).trans h1, (hb.cell (p := ⟨b, 1, none⟩) hB).trans h2, (hb.cell (p := ⟨b, 2, none⟩) hB).trans h3, (hb.cell (p := ⟨b, 3, none⟩) hB).trans h4, Nat.lt_of_lt_of_le h5 hb.size⟩
theorem Box4.keep {b : Nat} {W w1 : World} {k : Cal} (hb : Below W.heap.size W w1) (h : Box4 W b k) : Box4 w1 b k := h.below hb h.2.2.2.2
theorem Box4.new (w : World) (k : Cal) (t : TypeId) : Box4 (w.alloc (.cells #[.int .i64 k.s, .int .i64 k.e, .slice k.A1 k.n1 k.c1, .slice k.A2 k.n2 k.c2] t)) w.heap.size k := by
  refine ⟨by simp, by simp, by simp, by simp, by simp⟩
set_option maxRecDepth 100000 in
set_option maxHeartbeats 4000000 in
theorem week_any (K : Cal) (w : World) (hk : CalIn w K) (hs : SetTo K.rs 6 K.n1) :
    Calls Tryd.prog 13 #[K.v] w fun e w' => e = .returned (wkv fun j => decide ((j : Int) ∈ K.rs)) ∧ Below w.heap.size w w' := by
  obtain ⟨s, e, A1, n1, c1, A2, n2, c2, rs, hs'⟩ := K
  obtain ⟨l1, -, b1, -, -, -, -, -⟩ := hk
  simp only at l1 b1 hs
  have HS := Lib.hid hs
  have HL := Lib.hid l1
  clear hs
  simp only [Cal.v]
  go_enter Tryd.func13, Tryd.ntmps13
  go_wp2
  go_loopw [5, 9] (fun _ i wr => ∃ k : Nat, i = .int .i64 k ∧ k ≤ n1 ∧ Hid (Below w.heap.size w wr ∧ Seven wr (w.heap.size + 1) (fun _ => false) ∧ Seven wr (w.heap.size + 1 + 1) (isIn rs k))) (fun _ i _ => n1 - (intOf i).toNat)
  case atStart =>
    refine ⟨0, rfl, by omega, ⟨(by repeat' (first | (with_reducible exact Below.refl _ _) | (with_reducible assumption) | (with_reducible refine below_drewN ?_ _) | (with_reducible refine below_step (by assumption) ?_ ?_) | (with_reducible refine Below.alloc ?_ ?_ _) | (with_reducible refine Below.setCell ?_ ?_ _) | (with_reducible refine Below.drew ?_) | go_size | (exact Below.size (by assumption)) | (refine Nat.le_trans (Below.size (by assumption)) ?_))), ?_, ?_⟩⟩
    · exact (Seven.new1 _ _ 41).alloc _
    · exact (Seven.new2 _ _ _ 41).congr fun j => (isIn_zero rs j).symm
  case round =>
    obtain ⟨k, rfl, hk, hs⟩ := hrel
    by_cases hlt : k < n1
    · obtain ⟨hb, h1, h2⟩ := hs.out
      obtain ⟨bk, o, hA, hlt', hc⟩ := (l1.below hb).2 (by omega)
      have h0 := hc k hlt
      obtain ⟨x, hxx⟩ : ∃ x, rs.getD k 0 = x := ⟨_, rfl⟩
      have hx0 := (HS.out k hlt).1
      have hx6 := (HS.out k hlt).2.1
      rw [hxx] at h0 hx0 hx6
      obtain ⟨d, rfl⟩ := Int.eq_ofNat_of_zero_le hx0
      have hd6 : d < 7 := by omega
      have c2 := (h2.1 d hd6).1
      have f2 := (h2.1 d hd6).2
      have h3 := h2.set d true (isIn_succ rs k (by rw [HL.out.1]; exact hlt) d hxx)
      have h4 := h1.other (p := ⟨w.heap.size + 1 + 1, d, none⟩) (by simp) (.bool true)
      have hb' := hb.setCell (p := ⟨w.heap.size + 1 + 1, d, none⟩) (by simp; omega) (.bool true)
      have HH := Lib.hid (And.intro hb' (And.intro h4 h3))
      subst hA
      clear hxx hc hs h1 h2 h3 h4 hb hb' l1
      go_wp2
      go_roundw
      case rel => exact ⟨k + 1, by go_num, by omega, HH⟩
      case measure => simp [intOf]; omega
    · have : k = n1 := by omega
      subst this
      obtain ⟨hb, h1, h2⟩ := hs.out
      obtain ⟨p0, q0⟩ := h1.1 0 (by omega)
      have r0 := (h2.1 0 (by omega)).1
      obtain ⟨p1, q1⟩ := h1.1 1 (by omega)
      have r1 := (h2.1 1 (by omega)).1
      obtain ⟨p2, q2⟩ := h1.1 2 (by omega)
      have r2 := (h2.1 2 (by omega)).1
      obtain ⟨p3, q3⟩ := h1.1 3 (by omega)
      have r3 := (h2.1 3 (by omega)).1
      obtain ⟨p4, q4⟩ := h1.1 4 (by omega)
      have r4 := (h2.1 4 (by omega)).1
      obtain ⟨p5, q5⟩ := h1.1 5 (by omega)
      have r5 := (h2.1 5 (by omega)).1
      obtain ⟨p6, q6⟩ := h1.1 6 (by omega)
      have r6 := (h2.1 6 (by omega)).1
      have HB := Lib.hid hb
      clear hs h1 h2 hb l1
      go_wp2
      refine bodyPost_ret (v := wkv (isIn rs k)) (by simp only [wkv, results, Tryd.results13]; go_simp) rfl ⟨?_, ?_⟩
      · rw [← HL.out.1]
        simp only [wkv, isIn_all]
      · repeat refine Below.setCell ?_ (by simp) _
        exact HB.out
theorem opn_eq (k : Cal) (day r : Int) (hr : day % 7 = r) : opn k day = (!decide (r ∈ k.rs) && !decide (day ∈ k.hs)) := by rw [opn, hr]
theorem tmod7 {day : Int} (h : 0 ≤ day) : Int.tmod day 7 = day % 7 := Int.tmod_eq_emod_of_nonneg h
theorem ret_bool2 {a b : Bool} (h : b = a) : Ending.returned (.bool a) = .returned (.bool b) := by rw [h]
set_option maxHeartbeats 4000000 in
theorem isOpen_any (K : Cal) (f : Nat → Bool) (day : Int) (hf : ∀ j, f j = decide ((j : Int) ∈ K.rs)) (h0 : 0 ≤ day) (w : World) (hk : CalIn w K) :
    Calls Tryd.prog 14 #[K.v, wkv f, .int .i64 day] w fun e w' => e = .returned (.bool (opn K day)) ∧ Below w.heap.size w w' := by
  obtain ⟨r, hr⟩ : ∃ r, day % 7 = r := ⟨_, rfl⟩
  have ho := opn_eq K day r hr
  have hl2 := hk.l2
  have hb2 := hk.b2
  obtain ⟨s, e, A1, n1, c1, A2, n2, c2, rs, hs⟩ := K
  simp only at hl2 hb2 hf
  simp only [Cal.v, wkv]
  have ht := tmod7 h0
  rw [hr] at ht
  have hr0 : 0 ≤ r := by omega
  have hr7 : r < 7 := by omega
  obtain ⟨g0, hg0⟩ : ∃ g, f 0 = g := ⟨_, rfl⟩
  obtain ⟨g1, hg1⟩ : ∃ g, f 1 = g := ⟨_, rfl⟩
  obtain ⟨g2, hg2⟩ : ∃ g, f 2 = g := ⟨_, rfl⟩
  obtain ⟨g3, hg3⟩ : ∃ g, f 3 = g := ⟨_, rfl⟩
  obtain ⟨g4, hg4⟩ : ∃ g, f 4 = g := ⟨_, rfl⟩
  obtain ⟨g5, hg5⟩ : ∃ g, f 5 = g := ⟨_, rfl⟩
  obtain ⟨g6, hg6⟩ : ∃ g, f 6 = g := ⟨_, rfl⟩
  have hg : ∀ j : Nat, (j : Int) = r → f j = decide (r ∈ rs) := fun j hj => by rw [hf, hj]
  obtain ⟨x, hx⟩ : ∃ x, decide (r ∈ rs) = x := ⟨_, rfl⟩
  have HX := Lib.hid hx
  rw [hx] at hg
  have HO := Lib.hid ho
  have HR := Lib.hid hr
  clear ho hk hr hx hf
  rw [hg0, hg1, hg2, hg3, hg4, hg5, hg6]
  have hcase : r = 0 ∨ r = 1 ∨ r = 2 ∨ r = 3 ∨ r = 4 ∨ r = 5 ∨ r = 6 := by omega
  have hgg : (r = 0 → g0 = x) ∧ (r = 1 → g1 = x) ∧ (r = 2 → g2 = x) ∧ (r = 3 → g3 = x) ∧ (r = 4 → g4 = x) ∧ (r = 5 → g5 = x) ∧ (r = 6 → g6 = x) :=
    ⟨fun h => hg0.symm.trans (hg 0 h.symm), fun h => hg1.symm.trans (hg 1 h.symm), fun h => hg2.symm.trans (hg 2 h.symm), fun h => hg3.symm.trans (hg 3 h.symm), fun h => hg4.symm.trans (hg 4 h.symm), fun h => hg5.symm.trans (hg 5 h.symm), fun h => hg6.symm.trans (hg 6 h.symm)⟩
  obtain ⟨k0, k1, k2, k3, k4, k5, k6⟩ := hgg
  clear hg hg0 hg1 hg2 hg3 hg4 hg5 hg6
  obtain ⟨y, hy⟩ : ∃ y, decide (day ∈ hs) = y := ⟨_, rfl⟩
  have HY := Lib.hid hy
  clear hy
  rcases hcase with rfl | rfl | rfl | rfl | rfl | rfl | rfl
  · obtain rfl := k0 rfl
    clear k1 k2 k3 k4 k5 k6
    cases g0
    · go_enter Tryd.func14, Tryd.ntmps14
      go_wp2_with fail
      refine (contains_any _ _ _ hs day _ ((hl2.alloc _).alloc _) hb2).mono ?_
      rw [HY.out]
      rintro e' w1 ⟨rfl, rfl⟩
      go_wp2
      go_ret
      exact ⟨ret_bool2 (by rw [HO.out, HX.out, HY.out]; cases y <;> rfl), (by repeat' (first | (with_reducible exact Below.refl _ _) | (with_reducible assumption) | (with_reducible refine below_drewN ?_ _) | (with_reducible refine below_step (by assumption) ?_ ?_) | (with_reducible refine Below.alloc ?_ ?_ _) | (with_reducible refine Below.setCell ?_ ?_ _) | (with_reducible refine Below.drew ?_) | go_size | (exact Below.size (by assumption)) | (refine Nat.le_trans (Below.size (by assumption)) ?_)))⟩
    · go_enter Tryd.func14, Tryd.ntmps14
      go_wp2
      go_ret
      exact ⟨ret_bool2 (by rw [HO.out, HX.out]; rfl), (by repeat' (first | (with_reducible exact Below.refl _ _) | (with_reducible assumption) | (with_reducible refine below_drewN ?_ _) | (with_reducible refine below_step (by assumption) ?_ ?_) | (with_reducible refine Below.alloc ?_ ?_ _) | (with_reducible refine Below.setCell ?_ ?_ _) | (with_reducible refine Below.drew ?_) | go_size | (exact Below.size (by assumption)) | (refine Nat.le_trans (Below.size (by assumption)) ?_)))⟩
  · obtain rfl := k1 rfl
    clear k0 k2 k3 k4 k5 k6
    cases g1
    · go_enter Tryd.func14, Tryd.ntmps14
      go_wp2_with fail
      refine (contains_any _ _ _ hs day _ ((hl2.alloc _).alloc _) hb2).mono ?_
      rw [HY.out]
      rintro e' w1 ⟨rfl, rfl⟩
      go_wp2
      go_ret
      exact ⟨ret_bool2 (by rw [HO.out, HX.out, HY.out]; cases y <;> rfl), (by repeat' (first | (with_reducible exact Below.refl _ _) | (with_reducible assumption) | (with_reducible refine below_drewN ?_ _) | (with_reducible refine below_step (by assumption) ?_ ?_) | (with_reducible refine Below.alloc ?_ ?_ _) | (with_reducible refine Below.setCell ?_ ?_ _) | (with_reducible refine Below.drew ?_) | go_size | (exact Below.size (by assumption)) | (refine Nat.le_trans (Below.size (by assumption)) ?_)))⟩
    · go_enter Tryd.func14, Tryd.ntmps14
      go_wp2
      go_ret
      exact ⟨ret_bool2 (by rw [HO.out, HX.out]; rfl), (by repeat' (first | (with_reducible exact Below.refl _ _) | (with_reducible assumption) | (with_reducible refine below_drewN ?_ _) | (with_reducible refine below_step (by assumption) ?_ ?_) | (with_reducible refine Below.alloc ?_ ?_ _) | (with_reducible refine Below.setCell ?_ ?_ _) | (with_reducible refine Below.drew ?_) | go_size | (exact Below.size (by assumption)) | (refine Nat.le_trans (Below.size (by assumption)) ?_)))⟩
  · obtain rfl := k2 rfl
    clear k0 k1 k3 k4 k5 k6
    cases g2
    · go_enter Tryd.func14, Tryd.ntmps14
      go_wp2_with fail
      refine (contains_any _ _ _ hs day _ ((hl2.alloc _).alloc _) hb2).mono ?_
      rw [HY.out]
      rintro e' w1 ⟨rfl, rfl⟩
      go_wp2
      go_ret
      exact ⟨ret_bool2 (by rw [HO.out, HX.out, HY.out]; cases y <;> rfl), (by repeat' (first | (with_reducible exact Below.refl _ _) | (with_reducible assumption) | (with_reducible refine below_drewN ?_ _) | (with_reducible refine below_step (by assumption) ?_ ?_) | (with_reducible refine Below.alloc ?_ ?_ _) | (with_reducible refine Below.setCell ?_ ?_ _) | (with_reducible refine Below.drew ?_) | go_size | (exact Below.size (by assumption)) | (refine Nat.le_trans (Below.size (by assumption)) ?_)))⟩
    · go_enter Tryd.func14, Tryd.ntmps14
      go_wp2
      go_ret
      exact ⟨ret_bool2 (by rw [HO.out, HX.out]; rfl), (by repeat' (first | (with_reducible exact Below.refl _ _) | (with_reducible assumption) | (with_reducible refine below_drewN ?_ _) | (with_reducible refine below_step (by assumption) ?_ ?_) | (with_reducible refine Below.alloc ?_ ?_ _) | (with_reducible refine Below.setCell ?_ ?_ _) | (with_reducible refine Below.drew ?_) | go_size | (exact Below.size (by assumption)) | (refine Nat.le_trans (Below.size (by assumption)) ?_)))⟩
  · obtain rfl := k3 rfl
    clear k0 k1 k2 k4 k5 k6
    cases g3
    · go_enter Tryd.func14, Tryd.ntmps14
      go_wp2_with fail
      refine (contains_any _ _ _ hs day _ ((hl2.alloc _).alloc _) hb2).mono ?_
      rw [HY.out]
      rintro e' w1 ⟨rfl, rfl⟩
      go_wp2
      go_ret
      exact ⟨ret_bool2 (by rw [HO.out, HX.out, HY.out]; cases y <;> rfl), (by repeat' (first | (with_reducible exact Below.refl _ _) | (with_reducible assumption) | (with_reducible refine below_drewN ?_ _) | (with_reducible refine below_step (by assumption) ?_ ?_) | (with_reducible refine Below.alloc ?_ ?_ _) | (with_reducible refine Below.setCell ?_ ?_ _) | (with_reducible refine Below.drew ?_) | go_size | (exact Below.size (by assumption)) | (refine Nat.le_trans (Below.size (by assumption)) ?_)))⟩
    · go_enter Tryd.func14, Tryd.ntmps14
      go_wp2
      go_ret
      exact ⟨ret_bool2 (by rw [HO.out, HX.out]; rfl), (by repeat' (first | (with_reducible exact Below.refl _ _) | (with_reducible assumption) | (with_reducible refine below_drewN ?_ _) | (with_reducible refine below_step (by assumption) ?_ ?_) | (with_reducible refine Below.alloc ?_ ?_ _) | (with_reducible refine Below.setCell ?_ ?_ _) | (with_reducible refine Below.drew ?_) | go_size | (exact Below.size (by assumption)) | (refine Nat.le_trans (Below.size (by assumption)) ?_)))⟩
  · obtain rfl := k4 rfl
    clear k0 k1 k2 k3 k5 k6
    cases g4
    · go_enter Tryd.func14, Tryd.ntmps14
      go_wp2_with fail
      refine (contains_any _ _ _ hs day _ ((hl2.alloc _).alloc _) hb2).mono ?_
      rw [HY.out]
      rintro e' w1 ⟨rfl, rfl⟩
      go_wp2
      go_ret
      exact ⟨ret_bool2 (by rw [HO.out, HX.out, HY.out]; cases y <;> rfl), (by repeat' (first | (with_reducible exact Below.refl _ _) | (with_reducible assumption) | (with_reducible refine below_drewN ?_ _) | (with_reducible refine below_step (by assumption) ?_ ?_) | (with_reducible refine Below.alloc ?_ ?_ _) | (with_reducible refine Below.setCell ?_ ?_ _) | (with_reducible refine Below.drew ?_) | go_size | (exact Below.size (by assumption)) | (refine Nat.le_trans (Below.size (by assumption)) ?_)))⟩
    · go_enter Tryd.func14, Tryd.ntmps14
      go_wp2
      go_ret
      exact ⟨ret_bool2 (by rw [HO.out, HX.out]; rfl), (by repeat' (first | (with_reducible exact Below.refl _ _) | (with_reducible assumption) | (with_reducible refine below_drewN ?_ _) | (with_reducible refine below_step (by assumption) ?_ ?_) | (with_reducible refine Below.alloc ?_ ?_ _) | (with_reducible refine Below.setCell ?_ ?_ _) | (with_reducible refine Below.drew ?_) | go_size | (exact Below.size (by assumption)) | (refine Nat.le_trans (Below.size (by assumption)) ?_)))⟩
  · obtain rfl := k5 rfl
    clear k0 k1 k2 k3 k4 k6
    cases g5
    · go_enter Tryd.func14, Tryd.ntmps14
      go_wp2_with fail
      refine (contains_any _ _ _ hs day _ ((hl2.alloc _).alloc _) hb2).mono ?_
      rw [HY.out]
      rintro e' w1 ⟨rfl, rfl⟩
      go_wp2
      go_ret
      exact ⟨ret_bool2 (by rw [HO.out, HX.out, HY.out]; cases y <;> rfl), (by repeat' (first | (with_reducible exact Below.refl _ _) | (with_reducible assumption) | (with_reducible refine below_drewN ?_ _) | (with_reducible refine below_step (by assumption) ?_ ?_) | (with_reducible refine Below.alloc ?_ ?_ _) | (with_reducible refine Below.setCell ?_ ?_ _) | (with_reducible refine Below.drew ?_) | go_size | (exact Below.size (by assumption)) | (refine Nat.le_trans (Below.size (by assumption)) ?_)))⟩
    · go_enter Tryd.func14, Tryd.ntmps14
      go_wp2
      go_ret
      exact ⟨ret_bool2 (by rw [HO.out, HX.out]; rfl), (by repeat' (first | (with_reducible exact Below.refl _ _) | (with_reducible assumption) | (with_reducible refine below_drewN ?_ _) | (with_reducible refine below_step (by assumption) ?_ ?_) | (with_reducible refine Below.alloc ?_ ?_ _) | (with_reducible refine Below.setCell ?_ ?_ _) | (with_reducible refine Below.drew ?_) | go_size | (exact Below.size (by assumption)) | (refine Nat.le_trans (Below.size (by assumption)) ?_)))⟩
  · obtain rfl := k6 rfl
    clear k0 k1 k2 k3 k4 k5
    cases g6
    · go_enter Tryd.func14, Tryd.ntmps14
      go_wp2_with fail
      refine (contains_any _ _ _ hs day _ ((hl2.alloc _).alloc _) hb2).mono ?_
      rw [HY.out]
      rintro e' w1 ⟨rfl, rfl⟩
      go_wp2
      go_ret
      exact ⟨ret_bool2 (by rw [HO.out, HX.out, HY.out]; cases y <;> rfl), (by repeat' (first | (with_reducible exact Below.refl _ _) | (with_reducible assumption) | (with_reducible refine below_drewN ?_ _) | (with_reducible refine below_step (by assumption) ?_ ?_) | (with_reducible refine Below.alloc ?_ ?_ _) | (with_reducible refine Below.setCell ?_ ?_ _) | (with_reducible refine Below.drew ?_) | go_size | (exact Below.size (by assumption)) | (refine Nat.le_trans (Below.size (by assumption)) ?_)))⟩
    · go_enter Tryd.func14, Tryd.ntmps14
      go_wp2
      go_ret
      exact ⟨ret_bool2 (by rw [HO.out, HX.out]; rfl), (by repeat' (first | (with_reducible exact Below.refl _ _) | (with_reducible assumption) | (with_reducible refine below_drewN ?_ _) | (with_reducible refine below_step (by assumption) ?_ ?_) | (with_reducible refine Below.alloc ?_ ?_ _) | (with_reducible refine Below.setCell ?_ ?_ _) | (with_reducible refine Below.drew ?_) | go_size | (exact Below.size (by assumption)) | (refine Nat.le_trans (Below.size (by assumption)) ?_)))⟩
end Go.Proofs.YtplgndllfkceiaaDoor
