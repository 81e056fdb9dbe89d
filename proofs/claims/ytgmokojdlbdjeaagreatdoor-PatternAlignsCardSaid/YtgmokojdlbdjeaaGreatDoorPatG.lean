/-
  THE PROGRAM: Validate, near, check; Least.
-/
import Derived.Test.YtgmokojdlbdjeaaGreatDoorPatF
import Derived.Test.YtgmokojdlbdjeaaGreatDoorCalA
namespace Go.Proofs.YtgmokojdlbdjeaaGreatDoor
open Go.RowKit
def badC (x : Int) : Bool := decide (x < 0) || decide (8 ≤ x)
/-- The first error of a pattern. -/
def valP (p : PatD) : Int :=
  if p.a < 1 ∨ 144 < p.a ∨ p.c < 1 ∨ 144 < p.c ∨ p.b < 0 ∨ p.a ≤ p.b then 1
  else if 144 < p.a * p.c then 4
  else if (p.xs.length : Int) ≠ p.a * p.c ∨ p.xs.any badC = true then 1 else 0
structure GoodP (p : PatD) : Prop where
  a0 : 0 < p.a
  a1 : p.a ≤ 144
  b0 : 0 ≤ p.b
  b1 : p.b < p.a
  c0 : 0 < p.c
  c1 : p.c ≤ 144
  ac : p.a * p.c ≤ 144
  len : p.a * p.c = p.xs.length
  col : ∀ x ∈ p.xs, 0 ≤ x ∧ x < 8
theorem valP_zero {p : PatD} (h : valP p = 0) : GoodP p := by
  unfold valP at h
  split at h
  · cases h
  · split at h
    · cases h
    · split at h
      · cases h
      · rename_i h1 h2 h3
        refine ⟨by omega, by omega, by omega, by omega, by omega, by omega, by omega, by omega, fun x hx => ?_⟩
        have h4 : ¬ p.xs.any badC = true := fun e => h3 (.inr e)
        rw [Bool.not_eq_true, List.any_eq_false] at h4
        have := h4 x hx
        simp only [badC, Bool.or_eq_true, decide_eq_true_eq] at this
        omega
theorem GoodP.ok {p : PatD} (h : GoodP p) : PatOK p := ⟨h.a0, by have := h.a1; omega, h.b0, by have := h.b1; have := h.a1; omega, h.c0, by have := h.c1; omega, h.len⟩
theorem enter_val (args : Array Value) (w : World) : (callFunc 87 args).run Tryz.prog w = .ok (.enter 87 args) w := by go_simp
set_option maxRecDepth 100000 in
theorem pred_val (w : World) (xs : List Int) : PPred 87 #[] badC w xs := fun w' x _ _ => by
  show Calls Tryz.prog 87 #[.int .i64 x] w' _
  obtain ⟨r, hr⟩ : ∃ r, r = badC x := ⟨_, rfl⟩
  rw [← hr]
  unfold badC at hr
  by_cases h : x < 0
  · have HR := Lib.hid (show true = r by rw [hr, decide_eq_true h]; rfl)
    have d1 : decide (x < 0) = true := decide_eq_true h
    clear hr
    go_enter Tryz.func87, Tryz.ntmps87
    go_wp2
    go_ret
    exact ⟨by rw [← HR.out]; rfl, Below.refl _ _⟩
  · have HR := Lib.hid (show decide (8 ≤ x) = r by rw [hr, decide_eq_false h]; rfl)
    have d1 : decide (x < 0) = false := decide_eq_false h
    clear hr
    go_enter Tryz.func87, Tryz.ntmps87
    go_wp2
    go_ret
    exact ⟨by rw [← HR.out]; rfl, Below.refl _ _⟩
set_option maxRecDepth 100000 in
set_option maxHeartbeats 1000000 in
theorem validateP_any (p : PatD) (hl : p.xs.length ≤ 1000000) (z : Int) (hz : valP p = z) (A : Option Addr) (cap : Nat) (w : World) (hi : PatIn w p A) :
    Calls Tryz.prog 39 #[.agg #[.int .i64 p.a, .int .i64 p.b, .int .i64 p.c, .slice A p.xs.length cap]] w fun e w' => e = .returned (.int .i64 z) ∧ Below w.heap.size w w' := by
  obtain ⟨a, b, c, xs⟩ := p
  simp only at hl ⊢
  have HI := Lib.hid (show IsL w A xs.length xs from hi)
  have HZ := Lib.hid (show (if a < 1 ∨ 144 < a ∨ c < 1 ∨ 144 < c ∨ b < 0 ∨ a ≤ b then 1 else if 144 < a * c then 4 else if (xs.length : Int) ≠ a * c ∨ xs.any badC = true then 1 else 0) = z from hz)
  clear hi hz
  by_cases h1 : a < 1 ∨ 144 < a ∨ c < 1 ∨ 144 < c ∨ b < 0 ∨ a ≤ b
  · have HR := Lib.hid (show 1 = z by rw [← HZ.out, if_pos h1])
    clear HZ
    by_cases e0 : a < 1
    · have d0 : decide (a < 1) = true := decide_eq_true e0
      clear h1
      go_enter Tryz.func39, Tryz.ntmps39
      go_wp2
      go_ret
      exact ⟨by rw [← HR.out]; rfl, (by repeat' (first | (with_reducible exact Below.refl _ _) | (with_reducible assumption) | (with_reducible refine below_drewN ?_ _) | (with_reducible refine below_step (by assumption) ?_ ?_) | (with_reducible refine Below.alloc ?_ ?_ _) | (with_reducible refine Below.setCell ?_ ?_ _) | (with_reducible refine Below.drew ?_) | go_size | (exact Below.size (by assumption)) | (refine Nat.le_trans (Below.size (by assumption)) ?_)))⟩
    have d0 : decide (a < 1) = false := decide_eq_false e0
    by_cases e1 : 144 < a
    · have d1 : decide (144 < a) = true := decide_eq_true e1
      clear h1
      go_enter Tryz.func39, Tryz.ntmps39
      go_wp2
      go_ret
      exact ⟨by rw [← HR.out]; rfl, (by repeat' (first | (with_reducible exact Below.refl _ _) | (with_reducible assumption) | (with_reducible refine below_drewN ?_ _) | (with_reducible refine below_step (by assumption) ?_ ?_) | (with_reducible refine Below.alloc ?_ ?_ _) | (with_reducible refine Below.setCell ?_ ?_ _) | (with_reducible refine Below.drew ?_) | go_size | (exact Below.size (by assumption)) | (refine Nat.le_trans (Below.size (by assumption)) ?_)))⟩
    have d1 : decide (144 < a) = false := decide_eq_false e1
    by_cases e2 : c < 1
    · have d2 : decide (c < 1) = true := decide_eq_true e2
      clear h1
      go_enter Tryz.func39, Tryz.ntmps39
      go_wp2
      go_ret
      exact ⟨by rw [← HR.out]; rfl, (by repeat' (first | (with_reducible exact Below.refl _ _) | (with_reducible assumption) | (with_reducible refine below_drewN ?_ _) | (with_reducible refine below_step (by assumption) ?_ ?_) | (with_reducible refine Below.alloc ?_ ?_ _) | (with_reducible refine Below.setCell ?_ ?_ _) | (with_reducible refine Below.drew ?_) | go_size | (exact Below.size (by assumption)) | (refine Nat.le_trans (Below.size (by assumption)) ?_)))⟩
    have d2 : decide (c < 1) = false := decide_eq_false e2
    by_cases e3 : 144 < c
    · have d3 : decide (144 < c) = true := decide_eq_true e3
      clear h1
      go_enter Tryz.func39, Tryz.ntmps39
      go_wp2
      go_ret
      exact ⟨by rw [← HR.out]; rfl, (by repeat' (first | (with_reducible exact Below.refl _ _) | (with_reducible assumption) | (with_reducible refine below_drewN ?_ _) | (with_reducible refine below_step (by assumption) ?_ ?_) | (with_reducible refine Below.alloc ?_ ?_ _) | (with_reducible refine Below.setCell ?_ ?_ _) | (with_reducible refine Below.drew ?_) | go_size | (exact Below.size (by assumption)) | (refine Nat.le_trans (Below.size (by assumption)) ?_)))⟩
    have d3 : decide (144 < c) = false := decide_eq_false e3
    by_cases e4 : b < 0
    · have d4 : decide (b < 0) = true := decide_eq_true e4
      clear h1
      go_enter Tryz.func39, Tryz.ntmps39
      go_wp2
      go_ret
      exact ⟨by rw [← HR.out]; rfl, (by repeat' (first | (with_reducible exact Below.refl _ _) | (with_reducible assumption) | (with_reducible refine below_drewN ?_ _) | (with_reducible refine below_step (by assumption) ?_ ?_) | (with_reducible refine Below.alloc ?_ ?_ _) | (with_reducible refine Below.setCell ?_ ?_ _) | (with_reducible refine Below.drew ?_) | go_size | (exact Below.size (by assumption)) | (refine Nat.le_trans (Below.size (by assumption)) ?_)))⟩
    have d4 : decide (b < 0) = false := decide_eq_false e4
    have d5 : decide (a ≤ b) = true := decide_eq_true (by omega)
    clear h1
    go_enter Tryz.func39, Tryz.ntmps39
    go_wp2
    go_ret
    exact ⟨by rw [← HR.out]; rfl, (by repeat' (first | (with_reducible exact Below.refl _ _) | (with_reducible assumption) | (with_reducible refine below_drewN ?_ _) | (with_reducible refine below_step (by assumption) ?_ ?_) | (with_reducible refine Below.alloc ?_ ?_ _) | (with_reducible refine Below.setCell ?_ ?_ _) | (with_reducible refine Below.drew ?_) | go_size | (exact Below.size (by assumption)) | (refine Nat.le_trans (Below.size (by assumption)) ?_)))⟩
  · have hz2 := HZ.out
    rw [if_neg h1] at hz2
    have d1 : decide (a < 1) = false := decide_eq_false (by omega)
    have d2 : decide (144 < a) = false := decide_eq_false (by omega)
    have d3 : decide (c < 1) = false := decide_eq_false (by omega)
    have d4 : decide (144 < c) = false := decide_eq_false (by omega)
    have d5 : decide (b < 0) = false := decide_eq_false (by omega)
    have d6 : decide (a ≤ b) = false := decide_eq_false (by omega)
    have a0 : 1 ≤ a := by omega
    have c0 : 1 ≤ c := by omega
    have a1 : a ≤ 144 := by omega
    have c1 : c ≤ 144 := by omega
    have hac : a * c ≤ 144 * 144 := Int.mul_le_mul a1 c1 (by omega) (by omega)
    have hac0 : 0 ≤ a * c := Int.mul_nonneg (by omega) (by omega)
    obtain ⟨m, hm⟩ : ∃ m, m = a * c := ⟨_, rfl⟩
    have k1 : IntKind.i64.wrap (a * c) = m := by rw [hm]; exact IntWalk.i64_in _ (by omega)
    rw [← hm] at hz2 hac hac0
    clear h1 hm HZ
    by_cases h2 : 144 < m
    · have HR := Lib.hid (show 4 = z by rw [← hz2, if_pos h2])
      have d7 : decide (144 < m) = true := decide_eq_true h2
      clear hz2
      go_enter Tryz.func39, Tryz.ntmps39
      go_wp2
      go_ret
      exact ⟨by rw [← HR.out]; rfl, (by repeat' (first | (with_reducible exact Below.refl _ _) | (with_reducible assumption) | (with_reducible refine below_drewN ?_ _) | (with_reducible refine below_step (by assumption) ?_ ?_) | (with_reducible refine Below.alloc ?_ ?_ _) | (with_reducible refine Below.setCell ?_ ?_ _) | (with_reducible refine Below.drew ?_) | go_size | (exact Below.size (by assumption)) | (refine Nat.le_trans (Below.size (by assumption)) ?_)))⟩
    · rw [if_neg h2] at hz2
      have d7 : decide (144 < m) = false := decide_eq_false h2
      by_cases h3 : (xs.length : Int) = m
      · have d8 : ((xs.length : Int) != m) = false := by simp [h3]
        have HC := Lib.hid (fun w hi => pcontainsFunc 87 #[] badC enter_val A xs.length cap xs hl w hi (pred_val w xs))
        have HR := Lib.hid (show (if xs.any badC = true then 1 else 0) = z by
          rw [← hz2]
          by_cases hb : xs.any badC = true
          · rw [if_pos hb, if_pos (.inr hb)]
          · rw [if_neg hb, if_neg (fun h => h.elim (fun h => h h3) hb)])
        obtain ⟨t, ht⟩ : ∃ t, t = xs.any badC := ⟨_, rfl⟩
        rw [← ht] at HC HR
        clear hz2 h3 ht h2
        go_enter Tryz.func39, Tryz.ntmps39
        go_wp2_with fail
        refine (HC.out _ (IsL.below (by repeat' (first | (with_reducible exact Below.refl _ _) | (with_reducible assumption) | (with_reducible refine below_drewN ?_ _) | (with_reducible refine below_step (by assumption) ?_ ?_) | (with_reducible refine Below.alloc ?_ ?_ _) | (with_reducible refine Below.setCell ?_ ?_ _) | (with_reducible refine Below.drew ?_) | go_size | (exact Below.size (by assumption)) | (refine Nat.le_trans (Below.size (by assumption)) ?_))) HI.out)).mono ?_
        rintro e w1 ⟨rfl, hb1⟩
        cases t with
        | true =>
          go_wp2
          go_ret
          exact ⟨by rw [← HR.out]; rfl, (by repeat' (first | (with_reducible exact Below.refl _ _) | (with_reducible assumption) | (with_reducible refine below_drewN ?_ _) | (with_reducible refine below_step (by assumption) ?_ ?_) | (with_reducible refine Below.alloc ?_ ?_ _) | (with_reducible refine Below.setCell ?_ ?_ _) | (with_reducible refine Below.drew ?_) | go_size | (exact Below.size (by assumption)) | (refine Nat.le_trans (Below.size (by assumption)) ?_)))⟩
        | false =>
          go_wp2
          go_ret
          exact ⟨by rw [← HR.out]; rfl, (by repeat' (first | (with_reducible exact Below.refl _ _) | (with_reducible assumption) | (with_reducible refine below_drewN ?_ _) | (with_reducible refine below_step (by assumption) ?_ ?_) | (with_reducible refine Below.alloc ?_ ?_ _) | (with_reducible refine Below.setCell ?_ ?_ _) | (with_reducible refine Below.drew ?_) | go_size | (exact Below.size (by assumption)) | (refine Nat.le_trans (Below.size (by assumption)) ?_)))⟩
      · have d8 : ((xs.length : Int) != m) = true := by rw [bne_iff_ne]; exact h3
        have HR := Lib.hid (show 1 = z by rw [← hz2, if_pos (.inl h3)])
        clear hz2 h3 h2
        go_enter Tryz.func39, Tryz.ntmps39
        go_wp2
        go_ret
        exact ⟨by rw [← HR.out]; rfl, (by repeat' (first | (with_reducible exact Below.refl _ _) | (with_reducible assumption) | (with_reducible refine below_drewN ?_ _) | (with_reducible refine below_step (by assumption) ?_ ?_) | (with_reducible refine Below.alloc ?_ ?_ _) | (with_reducible refine Below.setCell ?_ ?_ _) | (with_reducible refine Below.drew ?_) | go_size | (exact Below.size (by assumption)) | (refine Nat.le_trans (Below.size (by assumption)) ?_)))⟩
def farC (x : Int) : Bool := decide (x < -100000) || decide (100000 < x)
theorem enter_near (args : Array Value) (w : World) : (callFunc 112 args).run Tryz.prog w = .ok (.enter 112 args) w := by go_simp
set_option maxRecDepth 100000 in
theorem pred_near (w : World) (xs : List Int) : PPred 112 #[] farC w xs := fun w' x _ _ => by
  show Calls Tryz.prog 112 #[.int .i64 x] w' _
  obtain ⟨r, hr⟩ : ∃ r, r = farC x := ⟨_, rfl⟩
  rw [← hr]
  unfold farC at hr
  by_cases h : x < -100000
  · have HR := Lib.hid (show true = r by rw [hr, decide_eq_true h]; rfl)
    have d1 : decide (x < -100000) = true := decide_eq_true h
    clear hr
    go_enter Tryz.func112, Tryz.ntmps112
    go_wp2
    go_ret
    exact ⟨by rw [← HR.out]; rfl, Below.refl _ _⟩
  · have HR := Lib.hid (show decide (100000 < x) = r by rw [hr, decide_eq_false h]; rfl)
    have d1 : decide (x < -100000) = false := decide_eq_false h
    clear hr
    go_enter Tryz.func112, Tryz.ntmps112
    go_wp2
    go_ret
    exact ⟨by rw [← HR.out]; rfl, Below.refl _ _⟩
set_option maxRecDepth 100000 in
theorem near_any (A : Option Addr) (n cap : Nat) (xs : List Int) (hl : xs.length ≤ 1000000) (w : World) (hi : IsL w A n xs) :
    Calls Tryz.prog 84 #[.slice A n cap] w fun e w' => e = .returned (.bool (!xs.any farC)) ∧ Below w.heap.size w w' := by
  have hc := pcontainsFunc 112 #[] farC enter_near A n cap xs hl w hi (pred_near w xs)
  obtain ⟨t, ht⟩ : ∃ t, t = xs.any farC := ⟨_, rfl⟩
  rw [← ht] at hc ⊢
  clear ht
  go_enter Tryz.func84, Tryz.ntmps84
  go_wp2_with fail
  refine hc.mono ?_
  rintro e w1 ⟨rfl, hb1⟩
  clear hc
  go_wp2
  go_ret
  exact ⟨rfl, hb1⟩
/-- The errors of a pattern and of coordinates. -/
def chkP (p : PatD) (xs : List Int) : Int := if valP p ≠ 0 then valP p else if xs.any farC = true then 1 else 0
set_option maxRecDepth 100000 in
set_option maxHeartbeats 1000000 in
theorem checkP_any (p : PatD) (hl : p.xs.length ≤ 1000000) (xs : List Int) (hxl : xs.length ≤ 1000000) (z : Int) (hz : chkP p xs = z) (A : Option Addr) (cap : Nat) (B : Option Addr) (n c2 : Nat) (w : World) (hi : PatIn w p A) (hx : IsL w B n xs) :
    Calls Tryz.prog 58 #[.agg #[.int .i64 p.a, .int .i64 p.b, .int .i64 p.c, .slice A p.xs.length cap], .slice B n c2] w fun e w' => e = .returned (.int .i64 z) ∧ Below w.heap.size w w' := by
  have HI := Lib.hid hi
  have HX := Lib.hid hx
  have HV := Lib.hid (fun w hi => validateP_any p hl (valP p) rfl A cap w hi)
  unfold chkP at hz
  have HZ := Lib.hid hz
  obtain ⟨E, hE⟩ : ∃ E, E = valP p := ⟨_, rfl⟩
  rw [← hE] at HV HZ
  clear hi hx hz hE
  go_enter Tryz.func58, Tryz.ntmps58
  go_wp2_with fail
  refine (HV.out _ (HI.out.below (by repeat' (first | (with_reducible exact Below.refl _ _) | (with_reducible assumption) | (with_reducible refine below_drewN ?_ _) | (with_reducible refine below_step (by assumption) ?_ ?_) | (with_reducible refine Below.alloc ?_ ?_ _) | (with_reducible refine Below.setCell ?_ ?_ _) | (with_reducible refine Below.drew ?_) | go_size | (exact Below.size (by assumption)) | (refine Nat.le_trans (Below.size (by assumption)) ?_))))).mono ?_
  rintro e w1 ⟨rfl, hb1⟩
  have ib := Lib.hid (show Below w.heap.size w w1 from (by repeat' (first | (with_reducible exact Below.refl _ _) | (with_reducible assumption) | (with_reducible refine below_drewN ?_ _) | (with_reducible refine below_step (by assumption) ?_ ?_) | (with_reducible refine Below.alloc ?_ ?_ _) | (with_reducible refine Below.setCell ?_ ?_ _) | (with_reducible refine Below.drew ?_) | go_size | (exact Below.size (by assumption)) | (refine Nat.le_trans (Below.size (by assumption)) ?_))))
  clear hb1
  by_cases hz : E = 0
  · subst hz
    have HZ2 := Lib.hid (show (if xs.any farC = true then 1 else 0) = z by
      have := HZ.out
      rw [if_neg (by simp : ¬ (0 : Int) ≠ 0)] at this
      exact this)
    have hn := near_any B n c2 xs hxl w1 (HX.out.below ib.out)
    obtain ⟨t, ht⟩ : ∃ t, t = xs.any farC := ⟨_, rfl⟩
    rw [← ht] at hn HZ2
    have HN := Lib.hid hn
    clear hn ht HZ
    go_wp2_with fail
    refine HN.out.mono ?_
    rintro e w2 ⟨rfl, hb2⟩
    have jb := Lib.hid (ib.out.trans (hb2.mono ib.out.size))
    clear hb2 ib HN
    cases t with
    | true =>
      go_wp2
      go_ret
      exact ⟨by rw [← HZ2.out]; rfl, jb.out⟩
    | false =>
      go_wp2
      go_ret
      exact ⟨by rw [← HZ2.out]; rfl, jb.out⟩
  · have d1 : (E == 0) = false := by rw [beq_eq_false_iff_ne]; exact hz
    have d2 : (E != 0) = true := by rw [bne_iff_ne]; exact hz
    have HZ2 := Lib.hid (show E = z by rw [← HZ.out, if_pos hz])
    clear hz HZ
    go_wp2
    go_ret
    exact ⟨by rw [HZ2.out]; rfl, ib.out⟩
/-- A pattern's answer: of a pattern p, whose least basis is (a1, 0), (b1, c1). -/
def leastO (p : PatD) (a1 b1 c1 : Int) : PatD := if valP p ≠ 0 then zeroP else leastP (colF p) a1 b1 c1
def LeastOf (p : PatD) (a1 b1 c1 : Int) : Prop := valP p = 0 → Least (colF p) a1 b1 c1
theorem LeastOf.some (p : PatD) : ∃ a1 b1 c1, LeastOf p a1 b1 c1 := by
  by_cases h : valP p = 0
  · obtain ⟨a1, b1, c1, hl⟩ := (col_base (valP_zero h).ok).least
    exact ⟨a1, b1, c1, fun _ => hl⟩
  · exact ⟨0, 0, 0, fun h' => absurd h' h⟩
theorem LeastOf.small {p : PatD} {a1 b1 c1 : Int} (hv : valP p = 0) (h : LeastOf p a1 b1 c1) : a1 * c1 ≤ 144 := by
  have hg := valP_zero hv
  have := (h hv).cells (col_base hg.ok)
  have := hg.ac
  omega
set_option maxRecDepth 100000 in
set_option maxHeartbeats 1000000 in
theorem least_any (p : PatD) (hl : p.xs.length ≤ 1000000) (a1 b1 c1 : Int) (hL : LeastOf p a1 b1 c1) (A : Option Addr) (cap : Nat) (w : World) (hi : PatIn w p A) :
    Calls Tryz.prog 18 #[.agg #[.int .i64 p.a, .int .i64 p.b, .int .i64 p.c, .slice A p.xs.length cap]] w (OutP w (leastO p a1 b1 c1) (.int .i64 (valP p))) := by
  have HI := Lib.hid hi
  have HV := Lib.hid (fun w hi => validateP_any p hl (valP p) rfl A cap w hi)
  obtain ⟨r, hr⟩ : ∃ r, r = OutP w (leastO p a1 b1 c1) (.int .i64 (valP p)) := ⟨_, rfl⟩
  rw [← hr]
  have HLE := Lib.hid hL
  obtain ⟨E, hE⟩ : ∃ E, E = valP p := ⟨_, rfl⟩
  unfold leastO at hr
  rw [← hE] at HV hr
  have HR := Lib.hid hr
  have HE := Lib.hid hE
  clear hi hL hr hE
  go_enter Tryz.func18, Tryz.ntmps18
  go_wp2_with fail
  have T0 : PBox ((w.alloc (.cells #[.int .i64 p.a, .int .i64 p.b, .int .i64 p.c, .slice A p.xs.length cap] 24)).alloc (.cells #[.int .i64 0, .int .i64 0, .int .i64 0, .slice none 0 0] 24)) w.heap.size p.a p.b p.c (.slice A p.xs.length cap) := (heap_alloc_old _ _ (by simp)).trans (heap_alloc_new w _)
  have U0 : PBox ((w.alloc (.cells #[.int .i64 p.a, .int .i64 p.b, .int .i64 p.c, .slice A p.xs.length cap] 24)).alloc (.cells #[.int .i64 0, .int .i64 0, .int .i64 0, .slice none 0 0] 24)) (w.heap.size + 1) 0 0 0 (.slice none 0 0) := by
    have := heap_alloc_new (w.alloc (.cells #[.int .i64 p.a, .int .i64 p.b, .int .i64 p.c, .slice A p.xs.length cap] 24)) (.cells #[.int .i64 0, .int .i64 0, .int .i64 0, .slice none 0 0] 24)
    unfold PBox
    simpa using this
  obtain ⟨W, hW⟩ : ∃ W, W = (w.alloc (.cells #[.int .i64 p.a, .int .i64 p.b, .int .i64 p.c, .slice A p.xs.length cap] 24)).alloc (.cells #[.int .i64 0, .int .i64 0, .int .i64 0, .slice none 0 0] 24) := ⟨_, rfl⟩
  have hb0 : Below w.heap.size w W := by rw [hW]; exact (by repeat' (first | (with_reducible exact Below.refl _ _) | (with_reducible assumption) | (with_reducible refine below_drewN ?_ _) | (with_reducible refine below_step (by assumption) ?_ ?_) | (with_reducible refine Below.alloc ?_ ?_ _) | (with_reducible refine Below.setCell ?_ ?_ _) | (with_reducible refine Below.drew ?_) | go_size | (exact Below.size (by assumption)) | (refine Nat.le_trans (Below.size (by assumption)) ?_)))
  rw [← hW] at T0 U0 ⊢
  obtain ⟨rb, hrb⟩ : ∃ rb, rb = w.heap.size + 1 := ⟨_, rfl⟩
  rw [← hrb] at U0 ⊢
  have hwr : w.heap.size ≤ rb := by omega
  have H0 := Lib.hid (And.intro T0 (And.intro U0 hb0))
  clear hW hrb T0 U0 hb0
  refine (HV.out W (HI.out.below H0.out.2.2)).mono ?_
  rintro e w1 ⟨rfl, hb1⟩
  have H1 := Lib.hid (And.intro (H0.out.1.keep hb1) (And.intro (H0.out.2.1.keep hb1) (H0.out.2.2.trans (hb1.mono H0.out.2.2.size))))
  clear H0 hb1 HV
  obtain ⟨q0, q1, q2, q3, q4⟩ := H1.out.1.cells
  obtain ⟨r0, r1, r2, r3, r4⟩ := H1.out.2.1.cells
  have f0 : w1.frozen? ⟨rb, 0, none⟩ = false := frozen_of_row w1 rb 0 _ _ H1.out.2.1
  have f1 : w1.frozen? ⟨rb, 1, none⟩ = false := frozen_of_row w1 rb 1 _ _ H1.out.2.1
  have f2 : w1.frozen? ⟨rb, 2, none⟩ = false := frozen_of_row w1 rb 2 _ _ H1.out.2.1
  have f3 : w1.frozen? ⟨rb, 3, none⟩ = false := frozen_of_row w1 rb 3 _ _ H1.out.2.1
  by_cases hz : E = 0
  · subst hz
    have hrf := HR.out
    rw [if_neg (by simp : ¬ (0 : Int) ≠ 0)] at hrf
    have HRF := Lib.hid hrf
    have hg := valP_zero HE.out.symm
    have HG := Lib.hid hg
    have hll := HLE.out HE.out.symm
    have hsm := LeastOf.small HE.out.symm HLE.out
    have hres := fun fv w hF => presult_any (colF p) p.a p.b p.c a1 b1 c1 (col_base hg.ok) hll (by have := hg.a1; omega) (by have := hg.c1; omega) fv w hF
    unfold leastT tooBig at hres
    rw [if_pos hsm, if_pos hsm] at hres
    have HRES := Lib.hid hres
    obtain ⟨P, hP⟩ : ∃ P, P = leastP (colF p) a1 b1 c1 := ⟨_, rfl⟩
    rw [← hP] at HRES HRF
    clear hrf hg hll hsm hres HR HE HLE hP
    go_wp2_with fail
    refine (of_any p HG.out.ok A cap w1 (HI.out.below H1.out.2.2)).mono ?_
    rintro e w2 ⟨fv, rfl, hfv, hb2⟩
    have H2 := Lib.hid (And.intro (H1.out.2.1.keep hb2) (H1.out.2.2.trans (hb2.mono H1.out.2.2.size)))
    have HFV := Lib.hid hfv
    clear hfv hb2 H1 q0 q1 q2 q3 q4 r0 r1 r2 r3 r4 f0 f1 f2 f3
    go_wp2_with fail
    refine (HRES.out fv w2 HFV.out).mono ?_
    rintro e w3 ⟨v, rfl, hown, hb3⟩
    obtain ⟨A3, n3, rfl, -⟩ := hown.isL
    have H3 := Lib.hid (And.intro (H2.out.1.keep hb3) (H2.out.2.trans (hb3.mono H2.out.2.size)))
    have HP3 := Lib.hid (put_ret H3.out.1 H3.out.2 hwr P _ hown H2.out.2.size (Array.getElem?_eq_some_iff.1 H2.out.1).1)
    clear hown hb3 H2
    obtain ⟨r0, r1, r2, r3, r4⟩ := H3.out.1.cells
    have f0 : w3.frozen? ⟨rb, 0, none⟩ = false := frozen_of_row w3 rb 0 _ _ H3.out.1
    have f1 : w3.frozen? ⟨rb, 1, none⟩ = false := frozen_of_row w3 rb 1 _ _ H3.out.1
    have f2 : w3.frozen? ⟨rb, 2, none⟩ = false := frozen_of_row w3 rb 2 _ _ H3.out.1
    have f3 : w3.frozen? ⟨rb, 3, none⟩ = false := frozen_of_row w3 rb 3 _ _ H3.out.1
    go_wp2
    refine bodyPost_ret (v := .tuple #[.agg #[.int .i64 P.a, .int .i64 P.b, .int .i64 P.c, .slice A3 P.xs.length n3], .int .i64 0]) (ret_pat2 rfl rfl rfl HP3.out.1) rfl ?_
    rw [HRF.out]
    exact ⟨_, rfl, HP3.out.2⟩
  · have d1 : (E == 0) = false := by rw [beq_eq_false_iff_ne]; exact hz
    have d2 : (E != 0) = true := by rw [bne_iff_ne]; exact hz
    have hrf := HR.out
    rw [if_pos hz] at hrf
    have HRF := Lib.hid hrf
    have HP3 := Lib.hid (put_zero H1.out.2.1 H1.out.2.2 hwr)
    clear hrf HR hz HE H1
    go_wp2
    refine bodyPost_ret (v := .tuple #[.agg #[.int .i64 0, .int .i64 0, .int .i64 0, .slice none 0 0], .int .i64 E]) (ret_pat2 rfl rfl rfl HP3.out.1) rfl ?_
    rw [HRF.out]
    exact OutP.zero HP3.out.2
end Go.Proofs.YtgmokojdlbdjeaaGreatDoor
