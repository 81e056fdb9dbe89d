/-
  THE PROGRAM: floor, mod, home, color.
-/
import Derived.Test.YtlinldbbhdpgcaaGreatDoorPatM
import Derived.Test.YtlinldbbhdpgcaaGreatDoorCalA
import Derived.Deep.QuietTactic
import Derived.BigQuiet
import Derived.Lib.Hide
import Derived.IntWalk
import Derived.Deep.DeepCutAuto
namespace Go.Proofs.YtlinldbbhdpgcaaGreatDoor
open Go.RowKit
theorem fl_of {n d q r : Int} (h : d * q + r = n) (h0 : 0 ≤ r) (h1 : r < d) : n / d = q ∧ n % d = r := by
  have hd : 0 < d := by omega
  exact (Int.ediv_emod_unique hd).2 ⟨by omega, h0, h1⟩
theorem tmod_gt (n : Int) {d : Int} (hd : 0 < d) : -d < n.tmod d := by
  have h := Int.tmod_lt_of_pos (-n) hd
  rw [Int.neg_tmod] at h
  omega
theorem fl_neg {n d : Int} (hd : 0 < d) (h : n.tmod d < 0) : n.tdiv d - 1 = n / d := by
  have h1 := Int.mul_tdiv_add_tmod n d
  have h2 := tmod_gt n hd
  refine ((fl_of (r := n.tmod d + d) ?_ (by omega) (by omega)).1).symm
  rw [Int.mul_sub, Int.mul_one]; omega
theorem fl_pos {n d : Int} (hd : 0 < d) (h : ¬ n.tmod d < 0) : n.tdiv d = n / d := by
  have h1 := Int.mul_tdiv_add_tmod n d
  have h2 := Int.tmod_lt_of_pos n hd
  exact ((fl_of h1 (by omega) (by omega)).1).symm
theorem tdiv_bd {n d B : Int} (hd : 0 < d) (h0 : -B ≤ n) (h1 : n ≤ B) : -B ≤ n.tdiv d ∧ n.tdiv d ≤ B := by
  have h2 := Int.mul_tdiv_add_tmod n d
  have h3 := tmod_gt n hd
  have h4 := Int.tmod_lt_of_pos n hd
  rcases Int.lt_or_le (n.tdiv d) 0 with h5 | h5
  · refine ⟨?_, by omega⟩
    have : d * n.tdiv d ≤ 1 * n.tdiv d := Int.mul_le_mul_of_nonpos_right (by omega) (by omega)
    rcases Int.lt_or_le n 0 with h6 | h6
    · have h7 := Int.tmod_nonneg d (show 0 ≤ -n by omega)
      rw [Int.neg_tmod] at h7
      omega
    · have := Int.tdiv_nonneg h6 (show 0 ≤ d by omega)
      omega
  · refine ⟨by omega, ?_⟩
    have : 1 * n.tdiv d ≤ d * n.tdiv d := Int.mul_le_mul_of_nonneg_right (by omega) h5
    rcases Int.lt_or_le n 0 with h6 | h6
    · have h7 := Int.tdiv_nonneg (show 0 ≤ -n by omega) (show 0 ≤ d by omega)
      rw [Int.neg_tdiv] at h7
      omega
    · have := Int.tmod_nonneg d h6
      omega
set_option maxRecDepth 100000 in
theorem pfloor_any (n d : Int) (hd : 0 < d) (h0 : -4000000000000 ≤ n) (h1 : n ≤ 4000000000000) (h2 : d ≤ 4000000000000) (w : World) :
    Calls Tryz.prog 43 #[.int .i64 n, .int .i64 d] w fun e w' => e = .returned (.int .i64 (n / d)) ∧ w = w' := by
  have hb := tdiv_bd hd h0 h1
  have hne : (d == 0) = false := by rw [beq_eq_false_iff_ne]; omega
  have hmb1 := tmod_gt n hd
  have hmb2 := Int.tmod_lt_of_pos n hd
  by_cases h : n.tmod d < 0
  · have HR := Lib.hid (fl_neg hd h)
    have d1 : decide (n.tmod d < 0) = true := decide_eq_true h
    go_enter Tryz.func43, Tryz.ntmps43
    go_wp2
    go_ret
    exact ⟨congrArg (fun z => Ending.returned (.int .i64 z)) HR.out, rfl⟩
  · have HR := Lib.hid (fl_pos hd h)
    have d1 : decide (n.tmod d < 0) = false := decide_eq_false h
    go_enter Tryz.func43, Tryz.ntmps43
    go_wp2
    go_ret
    exact ⟨congrArg (fun z => Ending.returned (.int .i64 z)) HR.out, rfl⟩
set_option maxRecDepth 100000 in
theorem pmod_any (n d : Int) (hd : 0 < d) (h0 : -4000000000000 ≤ n) (h1 : n ≤ 4000000000000) (h2 : d ≤ 2000000) (w : World) :
    Calls Tryz.prog 36 #[.int .i64 n, .int .i64 d] w fun e w' => e = .returned (.int .i64 (n % d)) ∧ w = w' := by
  have e1 := Int.mul_ediv_add_emod n d
  have e2 := Int.emod_nonneg n (show d ≠ 0 by omega)
  have e3 := Int.emod_lt_of_pos n hd
  have e4 : n / d * d = d * (n / d) := Int.mul_comm _ _
  have HR := Lib.hid (show n - n / d * d = n % d by omega)
  have hb : -4000004000000 ≤ n / d * d ∧ n / d * d ≤ 4000004000000 := by omega
  have HC := Lib.hid (pfloor_any n d hd h0 h1 (by omega))
  clear e1 e2 e3 e4
  go_enter Tryz.func36, Tryz.ntmps36
  go_wp2_with fail
  refine (HC.out w).mono ?_
  rintro e w' ⟨rfl, rfl⟩
  obtain ⟨q, hq⟩ : ∃ q, q = n / d := ⟨_, rfl⟩
  rw [← hq] at HR hb ⊢
  clear hq
  go_wp2
  go_ret
  exact ⟨congrArg (fun z => Ending.returned (.int .i64 z)) HR.out, rfl⟩
end Go.Proofs.YtlinldbbhdpgcaaGreatDoor
/-
  THE PROGRAM: home, color. Patterns in memory.
-/
namespace Go.Proofs.YtlinldbbhdpgcaaGreatDoor
open Go.RowKit
/-- A pattern: A, B, C, its cells. -/
structure PatD where
  a : Int
  b : Int
  c : Int
  xs : List Int
deriving Inhabited
/-- Where a cell is at home. -/
def homeX (a b c x y : Int) : Int := (x - y / c * b) % a
def colF (p : PatD) (x y : Int) : Int := p.xs.getD ((y % p.c * p.a + homeX p.a p.b p.c x y).toNat) 0
/-- A pattern's value. -/
def patV (a b c : Int) (s : Value) : Value := .agg #[.int .i64 a, .int .i64 b, .int .i64 c, s]
/-- A box that holds a pattern. -/
def PBox (w : World) (bx : Nat) (a b c : Int) (s : Value) : Prop := w.heap[bx]? = some (.cells #[.int .i64 a, .int .i64 b, .int .i64 c, s] 24 (0, 0))
theorem PBox.keep {w w' : World} {bx : Nat} {a b c : Int} {s : Value} (h : PBox w bx a b c s) (hb : Below w.heap.size w w') : PBox w' bx a b c s := (hb.block _ (Array.getElem?_eq_some_iff.1 h).1).trans h
theorem PBox.below {w w' : World} {B bx : Nat} {a b c : Int} {s : Value} (h : PBox w bx a b c s) (hb : Below B w w') (hB : bx < B) : PBox w' bx a b c s := (hb.block _ hB).trans h
theorem PBox.cells {w : World} {bx : Nat} {a b c : Int} {s : Value} (h : PBox w bx a b c s) : w.cell? ⟨bx, 0, none⟩ = some (.int .i64 a) ∧ w.cell? ⟨bx, 1, none⟩ = some (.int .i64 b) ∧ w.cell? ⟨bx, 2, none⟩ = some (.int .i64 c) ∧ w.cell? ⟨bx, 3, none⟩ = some s ∧ bx < w.heap.size :=
  ⟨(cell_of_row w bx 0 _ _ (0, 0) h).trans rfl, (cell_of_row w bx 1 _ _ (0, 0) h).trans rfl, (cell_of_row w bx 2 _ _ (0, 0) h).trans rfl, (cell_of_row w bx 3 _ _ (0, 0) h).trans rfl, (Array.getElem?_eq_some_iff.1 h).1⟩
theorem PBox.new (w : World) (a b c : Int) (s : Value) : PBox (w.alloc (.cells #[.int .i64 a, .int .i64 b, .int .i64 c, s] 24)) w.heap.size a b c s := heap_alloc_new w _
theorem pmul_bd {q b B M : Int} (h0 : -B ≤ q) (h1 : q ≤ B) (h2 : 0 ≤ b) (h3 : b ≤ M) : -(B * M) ≤ q * b ∧ q * b ≤ B * M := by
  have hB : 0 ≤ B := by omega
  have a1 : B * b ≤ B * M := Int.mul_le_mul_of_nonneg_left h3 hB
  have a2 : q * b ≤ B * b := Int.mul_le_mul_of_nonneg_right h1 h2
  have a3 : -B * b ≤ q * b := Int.mul_le_mul_of_nonneg_right h0 h2
  rw [Int.neg_mul] at a3
  omega
theorem ediv_bd {n d B : Int} (hd : 0 < d) (h0 : -B ≤ n) (h1 : n ≤ B) : -B ≤ n / d ∧ n / d ≤ B := by
  have e1 := Int.mul_ediv_add_emod n d
  have e2 := Int.emod_nonneg n (show d ≠ 0 by omega)
  have e3 := Int.emod_lt_of_pos n hd
  rcases Int.lt_or_le (n / d) 0 with h | h
  · have : d * (n / d) ≤ 1 * (n / d) := Int.mul_le_mul_of_nonpos_right (by omega) (by omega)
    refine ⟨?_, by omega⟩
    rcases Int.lt_or_le n 0 with h6 | h6
    · rcases Int.lt_or_le (n / d) n with h7 | h7
      · have h8 : d * (n / d) ≤ d * (n - 1) := Int.mul_le_mul_of_nonneg_left (by omega) (by omega)
        have h9 : d * n ≤ 1 * n := Int.mul_le_mul_of_nonpos_right (by omega) (by omega)
        rw [Int.mul_sub, Int.mul_one] at h8
        omega
      · omega
    · have := Int.ediv_nonneg h6 (show 0 ≤ d by omega); omega
  · have : 1 * (n / d) ≤ d * (n / d) := Int.mul_le_mul_of_nonneg_right (by omega) h
    exact ⟨by omega, by omega⟩
set_option maxRecDepth 100000 in
theorem phome_any (a b c : Int) (s : Value) (x y : Int) (ha : 0 < a) (ha2 : a ≤ 2000) (hb0 : 0 ≤ b) (hb2 : b ≤ 2000) (hc : 0 < c) (hc2 : c ≤ 2000) (hx : -100000000 ≤ x) (hx2 : x ≤ 100000000) (hy : -100000000 ≤ y) (hy2 : y ≤ 100000000) (w : World) :
    Calls Tryz.prog 67 #[.agg #[.int .i64 a, .int .i64 b, .int .i64 c, s], .int .i64 x, .int .i64 y] w fun e w' => e = .returned (.tuple #[.int .i64 (homeX a b c x y), .int .i64 (y % c)]) ∧ Below w.heap.size w w' := by
  obtain ⟨q, hq⟩ : ∃ q, q = y / c := ⟨_, rfl⟩
  have hqb := ediv_bd hc hy hy2
  rw [← hq] at hqb
  have h1 := pmul_bd hqb.1 hqb.2 hb0 hb2
  have h2 := pmul_bd hqb.1 hqb.2 (show 0 ≤ c by omega) hc2
  have e1 := Int.mul_ediv_add_emod y c
  have e4 : y / c * c = c * (y / c) := Int.mul_comm _ _
  have HR := Lib.hid (show homeX a b c x y = (x - q * b) % a by rw [hq]; rfl)
  have HM := Lib.hid (show y - q * c = y % c by rw [hq]; omega)
  have HF := Lib.hid (pfloor_any y c hc (by omega) (by omega) (by omega))
  rw [← hq] at HF
  have HC := Lib.hid (pmod_any (x - q * b) a ha (by omega) (by omega) (by omega))
  obtain ⟨r, hr⟩ : ∃ r, r = (x - q * b) % a := ⟨_, rfl⟩
  rw [← hr] at HR HC
  clear hq e1 e4 hr
  go_enter Tryz.func67, Tryz.ntmps67
  go_wp2_with fail
  obtain ⟨W, hW⟩ : ∃ W, W = w.alloc (.cells #[.int .i64 a, .int .i64 b, .int .i64 c, s] 24) := ⟨_, rfl⟩
  rw [← hW]
  have hbl := Lib.hid (show Below w.heap.size w W by rw [hW]; exact (by repeat' (first | (with_reducible exact Below.refl _ _) | (with_reducible assumption) | (with_reducible refine below_drewN ?_ _) | (with_reducible refine below_step (by assumption) ?_ ?_) | (with_reducible refine Below.alloc ?_ ?_ _) | (with_reducible refine Below.setCell ?_ ?_ _) | (with_reducible refine Below.drew ?_) | go_size | (exact Below.size (by assumption)) | (refine Nat.le_trans (Below.size (by assumption)) ?_))))
  obtain ⟨q0, q1, q2, q3, q4⟩ := (show PBox W w.heap.size a b c s by rw [hW]; exact PBox.new w a b c s).cells
  clear hW
  refine (HF.out W).mono ?_
  rintro e w' ⟨rfl, rfl⟩
  have k1 : IntKind.i64.wrap (q * b) = q * b := IntWalk.i64_in _ (by omega)
  have k2 : IntKind.i64.wrap (x - q * b) = x - q * b := IntWalk.i64_in _ (by omega)
  have k3 : IntKind.i64.wrap (q * c) = q * c := IntWalk.i64_in _ (by omega)
  have k4 : IntKind.i64.wrap (y - q * c) = y - q * c := IntWalk.i64_in _ (by omega)
  go_upto_region 2 with fail
  go_quiet ((go_at_call 36; exact Calls.quiet_of_same ((HC.out _).mono fun _ _ h => ⟨h.1, h.2.symm⟩)))
  clear k1 k2 k3 k4
  go_wp2
  go_ret2
  exact ⟨by rw [HR.out, ← HM.out]; rfl, below_drewN hbl.out _⟩
/-- A pattern that is no table of another size than it says. -/
structure PatOK (p : PatD) : Prop where
  a0 : 0 < p.a
  a1 : p.a ≤ 2000
  b0 : 0 ≤ p.b
  b1 : p.b ≤ 2000
  c0 : 0 < p.c
  c1 : p.c ≤ 2000
  len : p.a * p.c = p.xs.length
theorem home_bd {a b c x y : Int} (ha : 0 < a) (hc : 0 < c) : 0 ≤ homeX a b c x y ∧ homeX a b c x y < a ∧ 0 ≤ y % c ∧ y % c < c :=
  ⟨Int.emod_nonneg _ (by omega), Int.emod_lt_of_pos _ ha, Int.emod_nonneg _ (by omega), Int.emod_lt_of_pos _ hc⟩
theorem cell_bd {a c i j : Int} (h0 : 0 ≤ i) (h1 : i < a) (h2 : 0 ≤ j) (h3 : j < c) : 0 ≤ j * a ∧ j * a + i < a * c := by
  have h4 : 0 ≤ j * a := Int.mul_nonneg h2 (by omega)
  have h5 : (j + 1) * a ≤ c * a := Int.mul_le_mul_of_nonneg_right (by omega) (by omega)
  rw [Int.add_mul, Int.one_mul, Int.mul_comm c a] at h5
  exact ⟨h4, by omega⟩
set_option maxRecDepth 100000 in
theorem pcolor_any (p : PatD) (hp : PatOK p) (A : Option Addr) (n cap : Nat) (x y : Int) (hx : -100000000 ≤ x) (hx2 : x ≤ 100000000) (hy : -100000000 ≤ y) (hy2 : y ≤ 100000000) (w : World) (hL : IsL w A n p.xs) :
    Calls Tryz.prog 32 #[.agg #[.int .i64 p.a, .int .i64 p.b, .int .i64 p.c, .slice A n cap], .int .i64 x, .int .i64 y] w fun e w' => e = .returned (.int .i64 (colF p x y)) ∧ Below w.heap.size w w' := by
  obtain ⟨a, b, c, xs⟩ := p
  obtain ⟨a0, a1, b0, b1, c0, c1, hlen⟩ := hp
  simp only at a0 a1 b0 b1 c0 c1 hlen hL ⊢
  have HH := Lib.hid (fun w => phome_any a b c (.slice A n cap) x y a0 a1 b0 b1 c0 c1 hx hx2 hy hy2 w)
  obtain ⟨g1, g2, g3, g4⟩ := home_bd (b := b) (x := x) (y := y) a0 c0
  have hl : (xs.length : Int) = n := by rw [hL.1]
  have hcol : colF ⟨a, b, c, xs⟩ x y = xs.getD ((y % c * a + homeX a b c x y).toNat) 0 := rfl
  obtain ⟨i, hi⟩ : ∃ i, i = homeX a b c x y := ⟨_, rfl⟩
  obtain ⟨j, hj⟩ : ∃ j, j = y % c := ⟨_, rfl⟩
  rw [← hi] at g1 g2 HH hcol
  rw [← hj] at g3 g4 HH hcol
  obtain ⟨g5, g6⟩ := cell_bd g1 g2 g3 g4
  have g7 : a * c ≤ 4000000 := by
    have := Int.mul_le_mul a1 c1 (by omega) (show (0 : Int) ≤ 2000 by omega)
    omega
  have g8 : j * a + i < n := by omega
  have HC := Lib.hid hcol
  have HL := Lib.hid hL
  clear hi hj hcol hL hl hlen
  go_enter Tryz.func32, Tryz.ntmps32
  go_wp2_with fail
  obtain ⟨W, hW⟩ : ∃ W, W = w.alloc (.cells #[.int .i64 a, .int .i64 b, .int .i64 c, .slice A n cap] 24) := ⟨_, rfl⟩
  rw [← hW]
  have hbl := Lib.hid (show Below w.heap.size w W by rw [hW]; exact (by repeat' (first | (with_reducible exact Below.refl _ _) | (with_reducible assumption) | (with_reducible refine below_drewN ?_ _) | (with_reducible refine below_step (by assumption) ?_ ?_) | (with_reducible refine Below.alloc ?_ ?_ _) | (with_reducible refine Below.setCell ?_ ?_ _) | (with_reducible refine Below.drew ?_) | go_size | (exact Below.size (by assumption)) | (refine Nat.le_trans (Below.size (by assumption)) ?_))))
  have HBX := Lib.hid (show PBox W w.heap.size a b c (.slice A n cap) by rw [hW]; exact PBox.new w a b c _)
  clear hW
  refine (HH.out W).mono ?_
  rintro e w1 ⟨rfl, hb1⟩
  obtain ⟨q0, q1, q2, q3, q4⟩ := (HBX.out.keep hb1).cells
  have hb2 := Lib.hid (hbl.out.trans (hb1.mono hbl.out.size))
  obtain ⟨bk, o, rfl, hbz, hcx⟩ := (HL.out.below hb2.out).2 (by omega)
  obtain ⟨t, ht⟩ : ∃ t, t = j * a := ⟨_, rfl⟩
  have k1 : IntKind.i64.wrap (j * a) = t := by rw [ht]; exact IntWalk.i64_in _ (by omega)
  rw [← ht] at g5 g6 g8 HC
  obtain ⟨k, hk⟩ : ∃ k : Nat, t + i = k := ⟨(t + i).toNat, by omega⟩
  have r1 := hcx k (by omega)
  have HK := Lib.hid (show colF ⟨a, b, c, xs⟩ x y = xs.getD k 0 by rw [HC.out, hk, Int.toNat_natCast])
  obtain ⟨z, hz⟩ : ∃ z, z = xs.getD k 0 := ⟨_, rfl⟩
  rw [← hz] at r1 HK
  have g9 : k < n := by omega
  have hkk : t + i = k := hk
  clear hb1 hbl HBX hcx ht hz HC HH hk
  go_wp2
  go_ret
  exact ⟨by rw [HK.out]; rfl, hb2.out⟩
end Go.Proofs.YtlinldbbhdpgcaaGreatDoor
