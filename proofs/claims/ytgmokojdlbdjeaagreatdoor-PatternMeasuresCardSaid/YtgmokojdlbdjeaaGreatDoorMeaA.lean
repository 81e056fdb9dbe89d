/-
  THE PROGRAM: Share, Walls, Drum.
-/
import Derived.Test.YtgmokojdlbdjeaaGreatDoorPatX
import Derived.Test.YtgmokojdlbdjeaaGreatDoorDenM
import Derived.Test.YtgmokojdlbdjeaaGreatDoorNumC
namespace Go.Proofs.YtgmokojdlbdjeaaGreatDoor
open Go.RowKit
/-- How many of the first k numbers are c. -/
def cntS (xs : List Int) (c : Int) (k : Nat) : Int := sumN (fun i => if xs.getD i 0 = c then 1 else 0) k
theorem sumN_bd {g : Nat → Int} {b : Int} (h : ∀ i, 0 ≤ g i ∧ g i ≤ b) : ∀ k : Nat, 0 ≤ sumN g k ∧ sumN g k ≤ k * b
  | 0 => ⟨Int.le_refl 0, by show (0 : Int) ≤ ((0 : Nat) : Int) * b; simp⟩
  | k + 1 => by
    have h1 := sumN_bd h k
    have h2 := h k
    show 0 ≤ sumN g k + g k ∧ sumN g k + g k ≤ ((k + 1 : Nat) : Int) * b
    rw [show ((k + 1 : Nat) : Int) = k + 1 by omega, Int.add_mul, Int.one_mul]
    omega
theorem cntS_bd (xs : List Int) (c : Int) (k : Nat) : 0 ≤ cntS xs c k ∧ cntS xs c k ≤ k := by
  have := sumN_bd (g := fun i => if xs.getD i 0 = c then (1 : Int) else 0) (b := 1) (fun i => by split <;> omega) k
  unfold cntS
  omega
theorem cntS_step (xs : List Int) (c : Int) (k : Nat) : cntS xs c (k + 1) = cntS xs c k + if xs.getD k 0 = c then 1 else 0 := rfl
def shaZ (p : PatD) (c : Int) : Int := if valP p ≠ 0 then valP p else if c < 0 ∨ 7 < c then 1 else 0
def shaT (p : PatD) (c : Int) : Int × Int × Int := if shaZ p c ≠ 0 then (0, 0, shaZ p c) else mk (cntS p.xs c p.xs.length) p.xs.length
set_option maxRecDepth 100000 in
set_option maxHeartbeats 1000000 in
theorem pshare_any (p : PatD) (hl : p.xs.length ≤ 1000000) (c : Int) (A : Option Addr) (cap : Nat) (w : World) (hi : PatIn w p A) :
    Calls Tryz.prog 49 #[.agg #[.int .i64 p.a, .int .i64 p.b, .int .i64 p.c, .slice A p.xs.length cap], .int .i64 c] w fun e w' => e = .returned (.tuple #[.agg #[.int .i64 (shaT p c).1, .int .i64 (shaT p c).2.1], .int .i64 (shaT p c).2.2]) ∧ Below w.heap.size w w' := by
  obtain ⟨⟨T1, T2, T3⟩, ht⟩ : ∃ t, shaT p c = t := ⟨_, rfl⟩
  rw [ht]
  unfold shaT at ht
  simp only
  obtain ⟨Z, hZ⟩ : ∃ Z, Z = shaZ p c := ⟨_, rfl⟩
  rw [← hZ] at ht
  unfold shaZ at hZ
  obtain ⟨E, hE⟩ : ∃ E, E = valP p := ⟨_, rfl⟩
  rw [← hE] at hZ
  obtain ⟨n, hn⟩ : ∃ n, n = p.xs.length := ⟨_, rfl⟩
  have HV := Lib.hid (fun w hi => validateP_any p hl E hE.symm A cap w hi)
  rw [← hn] at HV ht ⊢
  have HT := Lib.hid ht
  have HZ := Lib.hid hZ
  have HI := Lib.hid (And.intro hi hn)
  have hn9 : n ≤ 1000000 := by omega
  have HE := Lib.hid hE
  clear hi ht hZ hE hn
  go_enter Tryz.func49, Tryz.ntmps49
  go_wp2_with fail
  obtain ⟨a0, a1, a2, a3⟩ := al2 w (.cells #[.int .i64 p.a, .int .i64 p.b, .int .i64 p.c, .slice A n cap] 24) (.cells #[.int .i64 0, .int .i64 0] 54)
  have a4 := Box2.new1 w (.cells #[.int .i64 p.a, .int .i64 p.b, .int .i64 p.c, .slice A n cap] 24) (.int .i64 0) (.int .i64 0) 54
  obtain ⟨V, hV⟩ : ∃ V, V = (w.alloc (.cells #[.int .i64 p.a, .int .i64 p.b, .int .i64 p.c, .slice A n cap] 24)).alloc (.cells #[.int .i64 0, .int .i64 0] 54) := ⟨_, rfl⟩
  rw [← hV] at a0 a1 a2 a3 a4 ⊢
  refine (HV.out V (HI.out.1.below a3)).mono ?_
  rintro e w1 ⟨rfl, hb1⟩
  have H1 := Lib.hid (show PBox w1 w.heap.size p.a p.b p.c (.slice A n cap) ∧ Box2 w1 (w.heap.size + 1) (.int .i64 0) (.int .i64 0) ∧ Below w.heap.size w w1 from ⟨PBox.keep (w := V) a1 hb1, Box2.keep hb1 a4, a3.trans (hb1.mono a3.size)⟩)
  clear hV a0 a1 a2 a3 a4 hb1 HV V
  by_cases hz : E = 0
  · subst hz
    have hZ := HZ.out
    rw [if_neg (by simp)] at hZ
    by_cases hc : c < 0 ∨ 7 < c
    · rw [if_pos hc] at hZ
      subst hZ
      have ht := HT.out
      rw [if_pos (by decide)] at ht
      have HTT := Lib.hid ht
      by_cases c0 : c < 0
      · have d1 : decide (c < 0) = true := decide_eq_true c0
        clear hc HT HZ HE ht
        obtain ⟨c0a, c1a, f0a, f1a, za⟩ := H1.out.2.1
        have HB := Lib.hid H1.out.2.2
        go_wp2
        refine bodyPost_ret (v := .tuple #[.agg #[.int .i64 (0), .int .i64 (0)], .int .i64 (1)]) (by simp only [results, Tryz.results49]; go_simp) rfl ⟨?_, ?_⟩
        · exact ret_rat HTT.out
        · exact Below.setCell (Below.setCell HB.out (by show w.heap.size ≤ w.heap.size + 1; omega) _) (by show w.heap.size ≤ w.heap.size + 1; omega) _
      · have d1 : decide (c < 0) = false := decide_eq_false c0
        have d2 : decide (8 ≤ c) = true := decide_eq_true (by omega)
        clear hc HT HZ HE ht
        obtain ⟨c0a, c1a, f0a, f1a, za⟩ := H1.out.2.1
        have HB := Lib.hid H1.out.2.2
        go_wp2
        refine bodyPost_ret (v := .tuple #[.agg #[.int .i64 (0), .int .i64 (0)], .int .i64 (1)]) (by simp only [results, Tryz.results49]; go_simp) rfl ⟨?_, ?_⟩
        · exact ret_rat HTT.out
        · exact Below.setCell (Below.setCell HB.out (by show w.heap.size ≤ w.heap.size + 1; omega) _) (by show w.heap.size ≤ w.heap.size + 1; omega) _
    · rw [if_neg hc] at hZ
      subst hZ
      have ht := HT.out
      rw [if_neg (by simp)] at ht
      have d1 : decide (c < 0) = false := decide_eq_false (by omega)
      have d2 : decide (8 ≤ c) = false := decide_eq_false (by omega)
      have hbd := cntS_bd p.xs c n
      have HTT := Lib.hid (make_any (cntS p.xs c n) n T1 T2 T3 ht (by omega) (by omega) (by omega) (by omega))
      have hin := (HI.out.1.below H1.out.2.2).2
      rw [← HI.out.2] at hin
      have HIN := Lib.hid hin
      obtain ⟨q0, q1, q2, q3, q4⟩ := H1.out.1.cells
      clear hc HT HZ HE ht hbd hin
      go_upto_region 8 with fail
      go_loopw [7, 26] (fun s t wr => ∃ (x : Int) (i : Nat), s = .int .i64 x ∧ t = .int .i64 i ∧ i ≤ n ∧ 0 ≤ x ∧ x ≤ i ∧ wr = w1 ∧ Hid (x = cntS p.xs c i)) (fun _ t _ => n - (intOf t).toNat)
      case atStart => exact ⟨0, 0, rfl, rfl, by omega, by omega, by omega, rfl, rfl⟩
      case round =>
        obtain ⟨x, i, rfl, rfl, hin, hx0, hx1, rfl, hx⟩ := hrel
        by_cases hlt : i < n
        · have dl : decide ((i : Int) < (n : Int)) = true := decide_eq_true (by omega)
          obtain ⟨b, o, rfl, -, hcx⟩ := HIN.out (by omega)
          have r1 := hcx i hlt
          have HS := Lib.hid (show cntS p.xs c (i + 1) = x + if p.xs.getD i 0 = c then 1 else 0 by rw [cntS_step, hx.out])
          obtain ⟨u, hu⟩ : ∃ u, u = p.xs.getD i 0 := ⟨_, rfl⟩
          rw [← hu] at r1 HS
          clear hu hcx hx HIN
          by_cases huc : u = c
          · subst huc
            have d3 : (u == u) = true := by simp
            have HS2 := Lib.hid (show x + 1 = cntS p.xs u (i + 1) by rw [HS.out, if_pos rfl])
            clear HS
            go_wp2
            go_roundw
            case rel => exact ⟨x + 1, i + 1, by go_num, by go_num, by omega, by omega, by omega, trivial, HS2⟩
            case measure => simp [intOf]; omega
          · have d3 : (u == c) = false := by rw [beq_eq_false_iff_ne]; exact huc
            have HS2 := Lib.hid (show x = cntS p.xs c (i + 1) by rw [HS.out, if_neg huc]; omega)
            clear HS huc
            go_wp2
            go_roundw
            case rel => exact ⟨x, i + 1, rfl, by go_num, by omega, by omega, by omega, trivial, HS2⟩
            case measure => simp [intOf]; omega
        · obtain rfl : n = i := by omega
          have dl : decide ((n : Int) < (n : Int)) = false := decide_eq_false (by omega)
          rw [← hx.out] at HTT
          clear hx HIN hlt
          go_wp2_with fail
          refine (HTT.out _).mono ?_
          rintro e w2 ⟨rfl, hb2⟩
          obtain ⟨c0a, c1a, f0a, f1a, za⟩ := Box2.keep hb2 H1.out.2.1
          have HB := Lib.hid (H1.out.2.2.trans (hb2.mono H1.out.2.2.size))
          clear hb2 HTT
          go_wp2
          refine bodyPost_ret (v := .tuple #[.agg #[.int .i64 (T1), .int .i64 (T2)], .int .i64 (T3)]) (by simp only [results, Tryz.results49]; go_simp) rfl ⟨?_, ?_⟩
          · rfl
          · exact Below.setCell (Below.setCell HB.out (by show w.heap.size ≤ w.heap.size + 1; omega) _) (by show w.heap.size ≤ w.heap.size + 1; omega) _
  · have d1 : (E == 0) = false := by rw [beq_eq_false_iff_ne]; exact hz
    have d2 : (E != 0) = true := by rw [bne_iff_ne]; exact hz
    have hZ := HZ.out
    rw [if_pos hz] at hZ
    subst hZ
    have ht := HT.out
    rw [if_pos hz] at ht
    have HTT := Lib.hid ht
    clear hz HT HZ HE ht
    obtain ⟨c0a, c1a, f0a, f1a, za⟩ := H1.out.2.1
    have HB := Lib.hid H1.out.2.2
    go_wp2
    refine bodyPost_ret (v := .tuple #[.agg #[.int .i64 (0), .int .i64 (0)], .int .i64 (Z)]) (by simp only [results, Tryz.results49]; go_simp) rfl ⟨?_, ?_⟩
    · exact ret_rat HTT.out
    · exact Below.setCell (Below.setCell HB.out (by show w.heap.size ≤ w.heap.size + 1; omega) _) (by show w.heap.size ≤ w.heap.size + 1; omega) _
/-- How many walls there are in so many rows, and in so many cells of a row. -/
def rowsW (F : Int → Int → Int) (n k : Nat) : Int := sumN (fun y => sumN (fun x => wallF F x y) n) k
def rowW (F : Int → Int → Int) (k i : Nat) : Int := sumN (fun x => wallF F x k) i
theorem wallF_bd (F : Int → Int → Int) (x y : Int) : 0 ≤ wallF F x y ∧ wallF F x y ≤ 2 := by
  unfold wallF rightW upW
  split <;> split <;> omega
theorem rowW_step (F : Int → Int → Int) (k i : Nat) : rowW F k (i + 1) = rowW F k i + wallF F i k := rfl
theorem rowsW_step (F : Int → Int → Int) (n k : Nat) : rowsW F n (k + 1) = rowsW F n k + rowW F k n := rfl
def walT (p : PatD) : Int × Int × Int := if valP p ≠ 0 then (0, 0, valP p) else mk (boxS (wallF (colF p)) p.a.toNat p.c.toNat) p.xs.length
set_option maxRecDepth 100000 in
set_option maxHeartbeats 1000000 in
theorem pwalls_any (p : PatD) (hl : p.xs.length ≤ 1000000) (A : Option Addr) (cap : Nat) (w : World) (hi : PatIn w p A) :
    Calls Tryz.prog 51 #[.agg #[.int .i64 p.a, .int .i64 p.b, .int .i64 p.c, .slice A p.xs.length cap]] w fun e w' => e = .returned (.tuple #[.agg #[.int .i64 (walT p).1, .int .i64 (walT p).2.1], .int .i64 (walT p).2.2]) ∧ Below w.heap.size w w' := by
  obtain ⟨⟨T1, T2, T3⟩, ht⟩ : ∃ t, walT p = t := ⟨_, rfl⟩
  rw [ht]
  unfold walT at ht
  simp only
  obtain ⟨E, hE⟩ : ∃ E, E = valP p := ⟨_, rfl⟩
  rw [← hE] at ht
  obtain ⟨n, hn⟩ : ∃ n, n = p.xs.length := ⟨_, rfl⟩
  have HV := Lib.hid (fun w hi => validateP_any p hl E hE.symm A cap w hi)
  rw [← hn] at HV ht ⊢
  have HT := Lib.hid ht
  have HI := Lib.hid (And.intro hi hn)
  have hn9 : n ≤ 1000000 := by omega
  have HE := Lib.hid hE
  clear hi ht hE hn
  go_enter Tryz.func51, Tryz.ntmps51
  go_wp2_with fail
  obtain ⟨a0, a1, a2, a3⟩ := al2 w (.cells #[.int .i64 p.a, .int .i64 p.b, .int .i64 p.c, .slice A n cap] 24) (.cells #[.int .i64 0, .int .i64 0] 54)
  have a4 := Box2.new1 w (.cells #[.int .i64 p.a, .int .i64 p.b, .int .i64 p.c, .slice A n cap] 24) (.int .i64 0) (.int .i64 0) 54
  obtain ⟨V, hV⟩ : ∃ V, V = (w.alloc (.cells #[.int .i64 p.a, .int .i64 p.b, .int .i64 p.c, .slice A n cap] 24)).alloc (.cells #[.int .i64 0, .int .i64 0] 54) := ⟨_, rfl⟩
  rw [← hV] at a0 a1 a2 a3 a4 ⊢
  refine (HV.out V (HI.out.1.below a3)).mono ?_
  rintro e w1 ⟨rfl, hb1⟩
  have H1 := Lib.hid (show PBox w1 w.heap.size p.a p.b p.c (.slice A n cap) ∧ Box2 w1 (w.heap.size + 1) (.int .i64 0) (.int .i64 0) ∧ Below w.heap.size w w1 from ⟨PBox.keep (w := V) a1 hb1, Box2.keep hb1 a4, a3.trans (hb1.mono a3.size)⟩)
  clear hV a0 a1 a2 a3 a4 hb1 HV V
  by_cases hz : E = 0
  · subst hz
    have ht := HT.out
    rw [if_neg (by simp)] at ht
    have hg := valP_zero HE.out.symm
    obtain ⟨N, hN⟩ : ∃ N : Nat, p.a = N := ⟨p.a.toNat, by have := hg.a0; omega⟩
    obtain ⟨M, hM⟩ : ∃ M : Nat, p.c = M := ⟨p.c.toNat, by have := hg.c0; omega⟩
    have hN9 : N ≤ 144 := by have := hg.a1; omega
    have hM9 : M ≤ 144 := by have := hg.c1; omega
    rw [hN, hM, Int.toNat_natCast, Int.toNat_natCast] at ht
    have HC := Lib.hid (fun x y h1 h2 h3 h4 w hL => pcolor_any p hg.ok A n cap x y h1 h2 h3 h4 w hL)
    obtain ⟨F, hF⟩ : ∃ F, F = colF p := ⟨_, rfl⟩
    obtain ⟨b, hb⟩ : ∃ b, b = p.b := ⟨_, rfl⟩
    rw [← hF] at HC ht
    rw [hN, hM, ← hb] at HC H1
    have HTT := Lib.hid (show ∀ x, x = rowsW F N M → mk x n = (T1, T2, T3) from fun x hx => by rw [hx]; exact ht)
    have R0 := Lib.hid (show PBox w1 w.heap.size N b M (.slice A n cap) ∧ Box2 w1 (w.heap.size + 1) (.int .i64 0) (.int .i64 0) ∧ Below w.heap.size w w1 ∧ (0 : Int) = rowsW F N 0 from ⟨H1.out.1, H1.out.2.1, H1.out.2.2, rfl⟩)
    obtain ⟨q0, q1, q2, q3, q4⟩ := H1.out.1.cells
    clear HT HE ht hg hN hM hF hb H1
    go_upto_region 6 with fail
    clear q0 q1 q2 q3 q4
    go_loopw [5, 17] (fun s t wr => ∃ (x : Int) (K : Nat), s = .int .i64 x ∧ t = .int .i64 K ∧ K ≤ M ∧ 0 ≤ x ∧ x ≤ 288 * K ∧ Hid (PBox wr w.heap.size N b M (.slice A n cap) ∧ Box2 wr (w.heap.size + 1) (.int .i64 0) (.int .i64 0) ∧ Below w.heap.size w wr ∧ x = rowsW F N K)) (fun _ t _ => M - (intOf t).toNat)
    case atStart => exact ⟨0, 0, rfl, rfl, by omega, by omega, by omega, R0⟩
    case round =>
      clear R0
      obtain ⟨x, K, rfl, rfl, hK, hx0, hx1, hr⟩ := hrel
      obtain ⟨q0, q1, q2, q3, q4⟩ := hr.out.1.cells
      by_cases hlt : K < M
      · have dl : decide ((K : Int) < (M : Int)) = true := decide_eq_true (by omega)
        have R1 := Lib.hid (show PBox wr w.heap.size N b M (.slice A n cap) ∧ Box2 wr (w.heap.size + 1) (.int .i64 0) (.int .i64 0) ∧ Below w.heap.size w wr ∧ x = rowsW F N K + rowW F K 0 from ⟨hr.out.1, hr.out.2.1, hr.out.2.2.1, by rw [hr.out.2.2.2]; show _ = _ + 0; omega⟩)
        clear hr
        go_upto_region 9 with fail
        clear q0 q1 q2 q3 q4
        go_loopw [5, 22] (fun s t wq => ∃ (x : Int) (i : Nat), s = .int .i64 x ∧ t = .int .i64 i ∧ i ≤ N ∧ 0 ≤ x ∧ x ≤ 288 * K + 2 * i ∧ Hid (PBox wq w.heap.size N b M (.slice A n cap) ∧ Box2 wq (w.heap.size + 1) (.int .i64 0) (.int .i64 0) ∧ Below w.heap.size w wq ∧ x = rowsW F N K + rowW F K i)) (fun _ t _ => N - (intOf t).toNat)
        case atStart => exact ⟨x, 0, rfl, rfl, by omega, by omega, by omega, R1⟩
        case round =>
          clear R1 hx0 hx1
          obtain ⟨x, i, rfl, rfl, hi, hx0, hx1, hr⟩ := hrel
          obtain ⟨q0, q1, q2, q3, q4⟩ := hr.out.1.cells
          by_cases hil : i < N
          · have dl2 : decide ((i : Int) < (N : Int)) = true := decide_eq_true (by omega)
            have HW := Lib.hid (show x + ((if F (i + 1) K ≠ F i K then 1 else 0) + (if F i (K + 1) ≠ F i K then 1 else 0)) = rowsW F N K + rowW F K (i + 1) by rw [rowW_step, hr.out.2.2.2, Int.add_assoc]; rfl)
            have HC0 := Lib.hid (HC.out (i : Int) (K : Int) (by omega) (by omega) (by omega) (by omega) wr (by rw [HI.out.2]; exact HI.out.1.below hr.out.2.2.1))
            have HC1 := Lib.hid (fun w hL => HC.out ((i : Int) + 1) (K : Int) (by omega) (by omega) (by omega) (by omega) w hL)
            have HC2 := Lib.hid (fun w hL => HC.out (i : Int) ((K : Int) + 1) (by omega) (by omega) (by omega) (by omega) w hL)
            obtain ⟨z0, hz0⟩ : ∃ z, z = F i K := ⟨_, rfl⟩
            obtain ⟨z1, hz1⟩ : ∃ z, z = F (i + 1) K := ⟨_, rfl⟩
            obtain ⟨z2, hz2⟩ : ∃ z, z = F i (K + 1) := ⟨_, rfl⟩
            rw [← hz0, ← hz1, ← hz2] at HW
            rw [← hz0] at HC0
            rw [← hz1] at HC1
            rw [← hz2] at HC2
            clear hz0 hz1 hz2
            go_wp2_with fail
            refine HC0.out.mono ?_
            rintro e w2 ⟨rfl, hb2⟩
            have R2 := Lib.hid (And.intro (hr.out.1.keep hb2) (And.intro (Box2.keep hb2 hr.out.2.1) (hr.out.2.2.1.trans (hb2.mono hr.out.2.2.1.size))))
            clear hr hb2 HC0 q0 q1 q2 q3 q4
            obtain ⟨q0, q1, q2, q3, q4⟩ := R2.out.1.cells
            go_wp2_with fail
            refine (HC1.out w2 (by rw [HI.out.2]; exact HI.out.1.below R2.out.2.2)).mono ?_
            rintro e w3 ⟨rfl, hb3⟩
            have R3 := Lib.hid (And.intro (R2.out.1.keep hb3) (And.intro (Box2.keep hb3 R2.out.2.1) (R2.out.2.2.trans (hb3.mono R2.out.2.2.size))))
            clear R2 hb3 HC1 q0 q1 q2 q3 q4
            obtain ⟨q0, q1, q2, q3, q4⟩ := R3.out.1.cells
            by_cases h1 : z1 = z0
            · subst h1
              have e1 : (z1 != z1) = false := by simp
              have HW1 := Lib.hid (show x + (if z2 ≠ z1 then 1 else 0) = rowsW F N K + rowW F K (i + 1) by rw [← HW.out, if_neg (show ¬ z1 ≠ z1 from fun h => h rfl)]; omega)
              clear HW
              go_wp2_with fail
              refine (HC2.out w3 (by rw [HI.out.2]; exact HI.out.1.below R3.out.2.2)).mono ?_
              rintro e w4 ⟨rfl, hb4⟩
              have R4 := Lib.hid (And.intro (R3.out.1.keep hb4) (And.intro (Box2.keep hb4 R3.out.2.1) (R3.out.2.2.trans (hb4.mono R3.out.2.2.size))))
              clear R3 hb4 HC2 q0 q1 q2 q3 q4
              by_cases h2 : z2 = z1
              · subst h2
                have e2 : (z2 != z2) = false := by simp
                have R5 := Lib.hid (And.intro R4.out.1 (And.intro R4.out.2.1 (And.intro R4.out.2.2 (show x = rowsW F N K + rowW F K (i + 1) by rw [← HW1.out, if_neg (show ¬ z2 ≠ z2 from fun h => h rfl)]; omega))))
                clear HW1 R4
                go_wp2
                go_roundw
                case rel => exact ⟨x, i + 1, by go_num, by go_num, by omega, by omega, by omega, R5⟩
                case measure => simp [intOf]; omega
              · have e2 : (z2 != z1) = true := by rw [bne_iff_ne]; exact h2
                have R5 := Lib.hid (And.intro R4.out.1 (And.intro R4.out.2.1 (And.intro R4.out.2.2 (show x + 1 = rowsW F N K + rowW F K (i + 1) by rw [← HW1.out, if_pos h2]))))
                clear HW1 R4 h2
                go_wp2
                go_roundw
                case rel => exact ⟨x + 1, i + 1, by go_num, by go_num, by omega, by omega, by omega, R5⟩
                case measure => simp [intOf]; omega
            · have e1 : (z1 != z0) = true := by rw [bne_iff_ne]; exact h1
              have HW1 := Lib.hid (show x + 1 + (if z2 ≠ z0 then 1 else 0) = rowsW F N K + rowW F K (i + 1) by rw [← HW.out, if_pos h1]; omega)
              clear HW h1
              obtain ⟨z1, hz1⟩ : ∃ z, z = z0 := ⟨_, rfl⟩
              rw [← hz1] at HW1
              rw [← hz1] at e1
              subst hz1
              go_wp2_with fail
              refine (HC2.out w3 (by rw [HI.out.2]; exact HI.out.1.below R3.out.2.2)).mono ?_
              rintro e w4 ⟨rfl, hb4⟩
              have R4 := Lib.hid (And.intro (R3.out.1.keep hb4) (And.intro (Box2.keep hb4 R3.out.2.1) (R3.out.2.2.trans (hb4.mono R3.out.2.2.size))))
              clear R3 hb4 HC2 q0 q1 q2 q3 q4
              by_cases h2 : z2 = z1
              · subst h2
                have e2 : (z2 != z2) = false := by simp
                have R5 := Lib.hid (And.intro R4.out.1 (And.intro R4.out.2.1 (And.intro R4.out.2.2 (show x + 1 = rowsW F N K + rowW F K (i + 1) by rw [← HW1.out, if_neg (show ¬ z2 ≠ z2 from fun h => h rfl)]; omega))))
                clear HW1 R4
                go_wp2
                go_roundw
                case rel => exact ⟨x + 1, i + 1, by go_num, by go_num, by omega, by omega, by omega, R5⟩
                case measure => simp [intOf]; omega
              · have e2 : (z2 != z1) = true := by rw [bne_iff_ne]; exact h2
                have R5 := Lib.hid (And.intro R4.out.1 (And.intro R4.out.2.1 (And.intro R4.out.2.2 (show x + 1 + 1 = rowsW F N K + rowW F K (i + 1) by rw [← HW1.out, if_pos h2]))))
                clear HW1 R4 h2
                go_wp2
                go_roundw
                case rel => exact ⟨x + 1 + 1, i + 1, by go_num, by go_num, by omega, by omega, by omega, R5⟩
                case measure => simp [intOf]; omega
          · obtain rfl : N = i := by omega
            have dl2 : decide ((N : Int) < (N : Int)) = false := decide_eq_false (by omega)
            have R2 := Lib.hid (show PBox wr w.heap.size N b M (.slice A n cap) ∧ Box2 wr (w.heap.size + 1) (.int .i64 0) (.int .i64 0) ∧ Below w.heap.size w wr ∧ x = rowsW F N (K + 1) from ⟨hr.out.1, hr.out.2.1, hr.out.2.2.1, by rw [rowsW_step]; exact hr.out.2.2.2⟩)
            clear hr
            go_wp2
            go_roundw
            case rel => exact ⟨x, K + 1, rfl, by go_num, by omega, by omega, by omega, R2⟩
            case measure => simp [intOf]; omega
      · obtain rfl : M = K := by omega
        have dl : decide ((M : Int) < (M : Int)) = false := decide_eq_false (by omega)
        have hmk := make_any x n T1 T2 T3 (HTT.out x hr.out.2.2.2) (by omega) (by omega) (by omega) (by omega)
        have HTT := Lib.hid hmk
        have H1 := Lib.hid (show PBox wr w.heap.size N b M (.slice A n cap) ∧ Box2 wr (w.heap.size + 1) (.int .i64 0) (.int .i64 0) ∧ Below w.heap.size w wr from ⟨hr.out.1, hr.out.2.1, hr.out.2.2.1⟩)
        clear hr hmk hlt
        go_wp2_with fail
        refine (HTT.out _).mono ?_
        rintro e w2 ⟨rfl, hb2⟩
        obtain ⟨c0a, c1a, f0a, f1a, za⟩ := Box2.keep hb2 H1.out.2.1
        have HB := Lib.hid (H1.out.2.2.trans (hb2.mono H1.out.2.2.size))
        clear hb2 HTT
        go_wp2
        refine bodyPost_ret (v := .tuple #[.agg #[.int .i64 (T1), .int .i64 (T2)], .int .i64 (T3)]) (by simp only [results, Tryz.results51]; go_simp) rfl ⟨?_, ?_⟩
        · rfl
        · exact Below.setCell (Below.setCell HB.out (by show w.heap.size ≤ w.heap.size + 1; omega) _) (by show w.heap.size ≤ w.heap.size + 1; omega) _
  · have d1 : (E == 0) = false := by rw [beq_eq_false_iff_ne]; exact hz
    have d2 : (E != 0) = true := by rw [bne_iff_ne]; exact hz
    have ht := HT.out
    rw [if_pos hz] at ht
    have HTT := Lib.hid ht
    clear hz HT HE ht
    obtain ⟨c0a, c1a, f0a, f1a, za⟩ := H1.out.2.1
    have HB := Lib.hid H1.out.2.2
    go_wp2
    refine bodyPost_ret (v := .tuple #[.agg #[.int .i64 (0), .int .i64 (0)], .int .i64 (E)]) (by simp only [results, Tryz.results51]; go_simp) rfl ⟨?_, ?_⟩
    · exact ret_rat HTT.out
    · exact Below.setCell (Below.setCell HB.out (by show w.heap.size ≤ w.heap.size + 1; omega) _) (by show w.heap.size ≤ w.heap.size + 1; omega) _
/-- The drum. -/
noncomputable def druT (p : PatD) : Int × Int := if valP p ≠ 0 then (0, 0) else (drumY (lst (colF p)).a (lst (colF p)).b (lst (colF p)).c, (lst (colF p)).a)
set_option maxRecDepth 100000 in
set_option maxHeartbeats 1000000 in
theorem pdrum_any (p : PatD) (hl : p.xs.length ≤ 1000000) (A : Option Addr) (cap : Nat) (w : World) (hi : PatIn w p A) :
    Calls Tryz.prog 53 #[.agg #[.int .i64 p.a, .int .i64 p.b, .int .i64 p.c, .slice A p.xs.length cap]] w fun e w' => e = .returned (.tuple #[.int .i64 (druT p).1, .int .i64 (druT p).2, .int .i64 (valP p)]) ∧ Below w.heap.size w w' := by
  obtain ⟨T, hT⟩ : ∃ T, T = druT p := ⟨_, rfl⟩
  obtain ⟨E, hE⟩ : ∃ E, E = valP p := ⟨_, rfl⟩
  rw [← hT, ← hE]
  unfold druT at hT
  rw [← hE] at hT
  have HC := Lib.hid (fun w hi => validateP_any p hl E hE.symm A cap w hi)
  have HT := Lib.hid hT
  have HE := Lib.hid hE
  have HI := Lib.hid hi
  clear hi hT hE
  go_enter Tryz.func53, Tryz.ntmps53
  go_wp2_with fail
  obtain ⟨a0, a1, a2⟩ := al1 w (.cells #[.int .i64 p.a, .int .i64 p.b, .int .i64 p.c, .slice A p.xs.length cap] 24)
  obtain ⟨V, hV⟩ : ∃ V, V = w.alloc (.cells #[.int .i64 p.a, .int .i64 p.b, .int .i64 p.c, .slice A p.xs.length cap] 24) := ⟨_, rfl⟩
  rw [← hV] at a0 a1 a2 ⊢
  refine (HC.out V (HI.out.below a2)).mono ?_
  rintro e w1 ⟨rfl, hb1⟩
  have H1 := Lib.hid (show PBox w1 w.heap.size p.a p.b p.c (.slice A p.xs.length cap) ∧ Below w.heap.size w w1 from ⟨PBox.keep (w := V) a1 hb1, a2.trans (hb1.mono a2.size)⟩)
  clear hV a0 a1 a2 HC hb1 V
  by_cases hz : E = 0
  · subst hz
    have hv : valP p = 0 := HE.out.symm
    have hT := HT.out
    rw [if_neg (by simp)] at hT
    have HL := Lib.hid (fun fv w hF => pleast_lst p hv fv w hF)
    have hg := lst_good hv
    have hgp := valP_zero hv
    obtain ⟨q, hq⟩ : ∃ q, q = lst (colF p) := ⟨_, rfl⟩
    rw [← hq] at hT HL hg
    have ga0 := hg.a0
    have ga1 := hg.a1
    have gb0 := hg.b0
    have gb1 := hg.b1
    have gc0 := hg.c0
    have gc1 := hg.c1
    have hac := hg.ac
    obtain ⟨k1, k2, -, -⟩ := drum_spec (b := q.b) ga0 gc0
    have hgc := (lcmP_spec (b := q.a) ga0 ga0).1
    have HGC := Lib.hid (fun w => pgcd_any q.a q.b (by omega) (by omega) (by omega) (by omega) w)
    obtain ⟨a, ha⟩ : ∃ a, a = q.a := ⟨_, rfl⟩
    obtain ⟨b, hb⟩ : ∃ a, a = q.b := ⟨_, rfl⟩
    obtain ⟨c, hc⟩ : ∃ a, a = q.c := ⟨_, rfl⟩
    rw [← ha] at hT ga0 ga1 gb1 hac k1 k2 HGC
    rw [← hb] at hT gb0 gb1 k1 k2 HGC
    rw [← hc] at hT gc0 gc1 hac k1 k2
    have hg0 : 0 < (Int.gcd a b : Int) := by
      have : Int.gcd a b ≠ 0 := fun h => by have := (Int.gcd_eq_zero_iff.1 h).1; omega
      omega
    have hd : drumY a b c = c * a / (Int.gcd a b : Int) := rfl
    obtain ⟨g, hgg⟩ : ∃ g : Int, g = (Int.gcd a b : Int) := ⟨_, rfl⟩
    rw [← hgg] at HGC hg0 hd
    obtain ⟨dd, hdd⟩ : ∃ d, d = drumY a b c := ⟨_, rfl⟩
    rw [← hdd] at hT k1 k2 hd
    rw [Int.mul_comm a c] at hac
    obtain ⟨m, hm⟩ : ∃ m, m = c * a := ⟨_, rfl⟩
    rw [← hm] at hd hac k2
    have km : IntKind.i64.wrap (c * a) = m := by rw [← hm]; exact IntWalk.i64_in _ (by omega)
    have kd1 : m / g = dd := hd.symm
    have hm0 : 0 ≤ m := by omega
    have kd2 : m.tdiv g = dd := by rw [Int.tdiv_eq_ediv_of_nonneg hm0]; exact kd1
    have kd3 : IntKind.i64.wrap dd = dd := IntWalk.i64_in _ (by omega)
    have eg : ¬ g = 0 := by omega
    have eg2 : (g == 0) = false := by rw [beq_eq_false_iff_ne]; omega
    have HGP := Lib.hid hgp
    have HTT := Lib.hid hT
    have HABC := Lib.hid (And.intro ha (And.intro hb hc))
    obtain ⟨l3, hl3⟩ : ∃ l3, l3 = q.xs.length := ⟨_, rfl⟩
    clear hv hg hq hT HT HE hgp ha hb hc hgg hdd hm hd hac hgc
    obtain ⟨q0, q1, q2, q3, q4⟩ := H1.out.1.cells
    go_wp2_with fail
    refine (of_any p HGP.out.ok A cap w1 (HI.out.below H1.out.2)).mono ?_
    rintro e w2 ⟨fv, rfl, hF, hb2⟩
    have H2 := Lib.hid (show Below w.heap.size w w2 ∧ FunV w2 fv (colF p) 50000000 from ⟨H1.out.2.trans (hb2.mono H1.out.2.size), hF⟩)
    clear hF hb2 q0 q1 q2 q3 q4 H1
    go_wp2_with fail
    refine (HL.out fv w2 H2.out.2).mono ?_
    rintro e w3 ⟨v, rfl, ho, hb3⟩
    obtain ⟨A3, n3, rfl, -⟩ := ho.isL
    rw [← hl3, ← HABC.out.1, ← HABC.out.2.1, ← HABC.out.2.2]
    have H3 := Lib.hid (H2.out.1.trans (hb3.mono H2.out.1.size))
    clear ho hb3 hl3 H2 HL
    go_upto_region 5 with fail
    obtain ⟨a0, a1, a2⟩ := al1 w3 (.cells #[.int .i64 a, .int .i64 b, .int .i64 c, .slice A3 l3 n3] 24)
    obtain ⟨V, hV⟩ : ∃ V, V = w3.alloc (.cells #[.int .i64 a, .int .i64 b, .int .i64 c, .slice A3 l3 n3] 24) := ⟨_, rfl⟩
    rw [← hV] at a0 a1 a2 ⊢
    have H4 := Lib.hid (H3.out.trans (a2.mono H3.out.size))
    obtain ⟨q0, q1, q2, q3, q4⟩ := PBox.cells a1
    clear hV a0 a1 a2 H3
    go_quiet ((go_at_call 101; exact Calls.quiet_of (HGC.out _)))
    go_wp2
    go_ret3
    exact ⟨by rw [HTT.out] <;> rfl, below_drewN H4.out _⟩
  · have d1 : (E == 0) = false := by rw [beq_eq_false_iff_ne]; exact hz
    have d2 : (E != 0) = true := by rw [bne_iff_ne]; exact hz
    have HT2 := Lib.hid (show T = (0, 0) by rw [HT.out, if_pos hz])
    clear hz HT HE
    go_wp2
    go_ret3
    exact ⟨by rw [HT2.out] <;> rfl, H1.out.2⟩
end Go.Proofs.YtgmokojdlbdjeaaGreatDoor
