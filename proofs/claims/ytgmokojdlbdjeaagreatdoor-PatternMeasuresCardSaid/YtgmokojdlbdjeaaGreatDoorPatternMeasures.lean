/-
  The law PatternMeasures returns true for every pattern and color.
-/
import Derived.Test.YtgmokojdlbdjeaaGreatDoorLawP
import Derived.Test.YtgmokojdlbdjeaaGreatDoorMeaB
namespace Go.Proofs.YtgmokojdlbdjeaaGreatDoor
open Go.RowKit
theorem turnT_facts {p : PatD} (hv : valP p = 0) : turnT p = lst (turnF (colF p)) ∧ GoodP (turnT p) ∧ colF (turnT p) = turnF (colF p) := by
  have hg := valP_zero hv
  obtain ⟨A1, B1, C1, ⟨h1, h2, h3, h4, h5, h6, h7⟩, h8, -, h9, -⟩ := turn_lat (b := p.b) hg.a0 hg.c0
  have hb : Base (turnF (colF p)) A1 B1 C1 := (lst_pat hv).turn h1 h3 h8 h9
  have hc : Cols (turnF (colF p)) := fun x y => hg.cols y (-x)
  have e : turnT p = lst (turnF (colF p)) := by unfold turnT; rw [if_neg (by simp [hv])]
  rw [e]
  have h10 := hb.lst_cells
  have := hg.ac
  exact ⟨rfl, hb.good (by omega) hc, hb.lst_col⟩
theorem turnT_len (p : PatD) : (turnT p).xs.length ≤ 144 := by
  by_cases h : valP p = 0
  · have hg := (turnT_facts h).2.1
    have := hg.len
    have := hg.ac
    omega
  · unfold turnT; rw [if_pos h]; show 0 ≤ 144; omega
/-- Fractions of one value. -/
theorem mk_cross {n1 d1 n2 d2 : Int} (a1 : 0 ≤ n1) (a2 : 0 ≤ n2) (b1 : 0 < d1) (b2 : 0 < d2) (h : n1 * d2 = n2 * d1) : mk n1 d1 = mk n2 d2 := by
  obtain ⟨x, rfl⟩ := Int.eq_ofNat_of_zero_le a1
  obtain ⟨y, rfl⟩ := Int.eq_ofNat_of_zero_le a2
  obtain ⟨u, rfl⟩ := Int.eq_ofNat_of_zero_le (show 0 ≤ d1 by omega)
  obtain ⟨v, rfl⟩ := Int.eq_ofNat_of_zero_le (show 0 ≤ d2 by omega)
  have h' : x * v = y * u := by
    have : ((x * v : Nat) : Int) = ((y * u : Nat) : Int) := by rw [Int.natCast_mul, Int.natCast_mul]; exact h
    omega
  have e : ∀ (m k : Nat), 0 < k → mk (m : Int) (k : Int) = mkN false m k := fun m k hk => by
    rw [mk_mkN (by omega)]
    rw [show (decide ((m : Int) < 0) != decide ((k : Int) < 0)) = false by rw [decide_eq_false (by omega), decide_eq_false (by omega)]; rfl]
    rfl
  rw [e x u (by omega), e y v (by omega), ← mkN_scale false v x u (by omega), ← mkN_scale false u y v (by omega), Nat.mul_comm v x, h', Nat.mul_comm y u, Nat.mul_comm v u]
theorem cnt_box {p : PatD} (hg : GoodP p) (c : Int) : cntS p.xs c p.xs.length = boxS (isC (colF p) c) p.a.toNat p.c.toNat := by
  have hlen := hg.len
  obtain ⟨N, hN⟩ : ∃ N : Nat, p.a = N := ⟨p.a.toNat, by have := hg.a0; omega⟩
  obtain ⟨M, hM⟩ : ∃ M : Nat, p.c = M := ⟨p.c.toNat, by have := hg.c0; omega⟩
  have hN0 : 0 < N := by have := hg.a0; omega
  have hM0 : 0 < M := by have := hg.c0; omega
  rw [hN, hM, ← Int.natCast_mul] at hlen
  have e : p.xs.length = M * N := by rw [Nat.mul_comm]; omega
  rw [hN, hM, Int.toNat_natCast, Int.toNat_natCast]
  unfold cntS boxS
  rw [e, sumN_block]
  refine sumN_congr fun y hy => sumN_congr fun x hx => ?_
  show (if p.xs.getD (y * N + x) 0 = c then (1 : Int) else 0) = if colF p x y = c then 1 else 0
  have hcol : colF p (x : Int) (y : Int) = p.xs.getD (y * N + x) 0 := by
    unfold colF homeX
    rw [hN, hM]
    have e1 : (y : Int) % (M : Int) = y := Int.emod_eq_of_lt (by omega) (by omega)
    have e2 : (y : Int) / (M : Int) = 0 := Int.ediv_eq_zero_of_lt (by omega) (by omega)
    rw [e1, e2, Int.zero_mul, Int.sub_zero, Int.emod_eq_of_lt (show (0 : Int) ≤ x by omega) (by omega)]
    rw [← Int.natCast_mul, ← Int.natCast_add, Int.toNat_natCast]
  rw [hcol]
theorem boxS_nn {f : Int → Int → Int} (h : ∀ x y, 0 ≤ f x y) (n m : Nat) : 0 ≤ boxS f n m := by
  have h1 : ∀ (g : Nat → Int), (∀ i, 0 ≤ g i) → ∀ k, 0 ≤ sumN g k := fun g hg k => by
    induction k with
    | zero => exact Int.le_refl 0
    | succ k ih => show 0 ≤ sumN g k + g k; have := hg k; omega
  exact h1 _ (fun y => h1 _ (fun x => h _ _) _) _
theorem mea_cross {p : PatD} (hv : valP p = 0) {s s' : Int} (h0 : 0 ≤ s) (h0' : 0 ≤ s') (h : ∀ n m n' m' : Nat, p.a = n → p.c = m → (turnT p).a = n' → (turnT p).c = m' → s' * ((n : Int) * m) = s * ((n' : Int) * m')) : mk s' (turnT p).xs.length = mk s p.xs.length := by
  have hg := valP_zero hv
  have ht := (turnT_facts hv).2.1
  refine mk_cross h0' h0 ?_ ?_ ?_
  · rw [← ht.len]; exact Int.mul_pos ht.a0 ht.c0
  · rw [← hg.len]; exact Int.mul_pos hg.a0 hg.c0
  · rw [← ht.len, ← hg.len]
    have a1 := hg.a0
    have a2 := hg.c0
    have a3 := ht.a0
    have a4 := ht.c0
    have := h p.a.toNat p.c.toNat (turnT p).a.toNat (turnT p).c.toNat (by omega) (by omega) (by omega) (by omega)
    rw [Int.toNat_of_nonneg (by omega), Int.toNat_of_nonneg (by omega), Int.toNat_of_nonneg (by omega), Int.toNat_of_nonneg (by omega)] at this
    exact this
theorem sha_zero {p : PatD} {c : Int} (h : (shaT p c).2.2 = 0) : shaZ p c = 0 := by
  unfold shaT at h
  by_cases hz : shaZ p c = 0
  · exact hz
  · rw [if_pos hz] at h; exact h
/-- What a turn exchanges. -/
theorem mea_facts {p : PatD} {c : Int} (h : (shaT p c).2.2 = 0) : shaT (turnT p) c = shaT p c ∧ walT (turnT p) = walT p ∧ druT (turnT p) = ((druT p).2, (druT p).1) := by
  have hz := sha_zero h
  have hv : valP p = 0 := by
    unfold shaZ at hz
    by_cases hh : valP p = 0
    · exact hh
    · rw [if_pos hh] at hz; exact hz
  have hcc : ¬ (c < 0 ∨ 7 < c) := fun hh => by
    unfold shaZ at hz
    rw [if_neg (by simp [hv]), if_pos hh] at hz
    cases hz
  have hg := valP_zero hv
  obtain ⟨te, tg, tc⟩ := turnT_facts hv
  have tv := tg.val
  have hz' : shaZ (turnT p) c = 0 := by unfold shaZ; rw [if_neg (by simp [tv]), if_neg hcc]
  have hb := lst_pat hv
  have kb := col_base tg.ok
  rw [tc] at kb
  refine ⟨?_, ?_, ?_⟩
  · unfold shaT
    rw [if_neg (by simp [hz']), if_neg (by simp [hz])]
    refine mea_cross hv (cntS_bd _ _ _).1 (cntS_bd _ _ _).1 fun n m n' m' e1 e2 e3 e4 => ?_
    rw [cnt_box tg, cnt_box hg, tc]
    rw [e1, e2] at hb ⊢
    rw [e3, e4] at kb ⊢
    rw [Int.toNat_natCast, Int.toNat_natCast, Int.toNat_natCast, Int.toNat_natCast]
    exact hb.isC_turn kb c
  · unfold walT
    rw [if_neg (by simp [tv]), if_neg (by simp [hv])]
    refine mea_cross hv (boxS_nn (fun x y => (wallF_bd _ x y).1) _ _) (boxS_nn (fun x y => (wallF_bd _ x y).1) _ _) fun n m n' m' e1 e2 e3 e4 => ?_
    rw [tc]
    rw [e1, e2] at hb ⊢
    rw [e3, e4] at kb ⊢
    rw [Int.toNat_natCast, Int.toNat_natCast, Int.toNat_natCast, Int.toNat_natCast]
    exact hb.wall_turn kb
  · unfold druT
    rw [if_neg (by simp [tv]), if_neg (by simp [hv]), tc]
    obtain ⟨e1, e2⟩ := hb.lst.1.drum_turn kb.lst.1
    simp only
    rw [e1, e2]
/-- Boxes of patterns and of fractions. -/
structure Ms (w0 w : World) (l : List (Nat × PatD × Option Addr × Nat)) (r : List (Nat × Int × Int)) : Prop where
  j : Js w0 w l
  r : ∀ x ∈ r, Box2 w x.1 (.int .i64 x.2.1) (.int .i64 x.2.2)
theorem Ms.o {w0 w : World} {l : List (Nat × PatD × Option Addr × Nat)} {r : List (Nat × Int × Int)} (h : Ms w0 w l r) : Below w0.heap.size w0 w := h.j.o
theorem Ms.b {w0 w : World} {l : List (Nat × PatD × Option Addr × Nat)} {r : List (Nat × Int × Int)} (h : Ms w0 w l r) : ∀ x ∈ l, PB w x.1 x.2.1 x.2.2.1 x.2.2.2 := h.j.b
theorem Ms.keep {w0 w w' : World} {l : List (Nat × PatD × Option Addr × Nat)} {r : List (Nat × Int × Int)} (h : Ms w0 w l r) (hb : Below w.heap.size w w') : Ms w0 w' l r := ⟨h.j.keep hb, fun x hx => Box2.keep hb (h.r x hx)⟩
theorem Ms.add {w0 w : World} {l : List (Nat × PatD × Option Addr × Nat)} {r : List (Nat × Int × Int)} {p : PatD} {A : Option Addr} {k : Nat} (h : Ms w0 w l r) (hi : PatIn w p A) : Ms w0 (w.alloc (.cells #[.int .i64 p.a, .int .i64 p.b, .int .i64 p.c, .slice A p.xs.length k] 24)) ((w.heap.size, p, A, k) :: l) r :=
  ⟨h.j.add hi, fun x hx => Box2.keep (below_new w _) (h.r x hx)⟩
theorem Ms.addR {w0 w : World} {l : List (Nat × PatD × Option Addr × Nat)} {r : List (Nat × Int × Int)} (h : Ms w0 w l r) (a b : Int) : Ms w0 (w.alloc (.cells #[.int .i64 a, .int .i64 b] 54)) l ((w.heap.size, a, b) :: r) :=
  ⟨h.j.keep (below_new w _), fun x hx => by
    rcases List.mem_cons.1 hx with rfl | hx
    · exact Box2.new w _ _ _
    · exact Box2.keep (below_new w _) (h.r x hx)⟩
set_option maxRecDepth 100000 in
set_option maxHeartbeats 4000000 in
theorem patternMeasures_walk (p : PatD) (A : Option Addr) (k : Nat) (c : Int) (w : World) (hi : PatIn w p A) (hw : LibOK w) :
    Calls Tryz.prog 14 #[.agg #[.int .i64 p.a, .int .i64 p.b, .int .i64 p.c, .slice A p.xs.length k], .int .i64 c] w fun e w' => e = .returned (.bool true) ∧ Below w.heap.size w w' := by
  have HI := Lib.hid (And.intro hi hw)
  have l1 := turnT_len p
  have h1 := fun (hl : p.xs.length ≤ 1000000) A cap w hi => pshare_any p hl c A cap w hi
  have h2 := fun (hl : p.xs.length ≤ 1000000) A cap w hi => rshareP_any p hl c A cap w hi
  have h3 := fun (hl : p.xs.length ≤ 1000000) A cap w hi => pwalls_any p hl A cap w hi
  have h4 := fun (hl : p.xs.length ≤ 1000000) A cap w hi => rwalls_any p hl A cap w hi
  have h5 := fun (hl : p.xs.length ≤ 1000000) A cap w hi => pdrum_any p hl A cap w hi
  have h6 := fun (hl : p.xs.length ≤ 1000000) A cap w hi => rdrum_any p hl A cap w hi
  have h7 := fun (hl : p.xs.length ≤ 1000000) A cap w hi => pturn_any p hl A cap w hi
  have h8 := fun A cap w hi => pshare_any (turnT p) (by omega) c A cap w hi
  have h9 := fun A cap w hi => pwalls_any (turnT p) (by omega) A cap w hi
  have h10 := fun A cap w hi => pdrum_any (turnT p) (by omega) A cap w hi
  have hf := fun h => mea_facts (p := p) (c := c) h
  obtain ⟨E, hE⟩ : ∃ E, E = valP p := ⟨_, rfl⟩
  obtain ⟨D, hD⟩ : ∃ E, E = valP (turnT p) := ⟨_, rfl⟩
  obtain ⟨⟨S1, S2, S3⟩, hS⟩ : ∃ t, t = shaT p c := ⟨_, rfl⟩
  obtain ⟨⟨U1, U2, U3⟩, hU⟩ : ∃ t, t = walT p := ⟨_, rfl⟩
  obtain ⟨⟨X1, X2⟩, hX⟩ : ∃ t, t = druT p := ⟨_, rfl⟩
  obtain ⟨⟨S4, S5, S6⟩, hS'⟩ : ∃ t, t = shaT (turnT p) c := ⟨_, rfl⟩
  obtain ⟨⟨U4, U5, U6⟩, hU'⟩ : ∃ t, t = walT (turnT p) := ⟨_, rfl⟩
  obtain ⟨⟨X4, X5⟩, hX'⟩ : ∃ t, t = druT (turnT p) := ⟨_, rfl⟩
  rw [← hS] at h1 h2 hf
  rw [← hU] at h3 h4 hf
  rw [← hX] at h5 h6 hf
  rw [← hS'] at h8 hf
  rw [← hU'] at h9 hf
  rw [← hX'] at h10 hf
  rw [← hE] at h5 h6 h7
  rw [← hD] at h10
  obtain ⟨T, hT⟩ : ∃ T, T = turnT p := ⟨_, rfl⟩
  rw [← hT] at h7 h8 h9 h10 l1
  simp only [Prod.mk.injEq] at h1 h2 h3 h4 h5 h6 h8 h9 h10 hf
  have C1 := Lib.hid h1
  have C2 := Lib.hid h2
  have C3 := Lib.hid h3
  have C4 := Lib.hid h4
  have C5 := Lib.hid h5
  have C6 := Lib.hid h6
  have C7 := Lib.hid h7
  have C8 := Lib.hid h8
  have C9 := Lib.hid h9
  have C10 := Lib.hid h10
  have HF := Lib.hid hf
  clear hi hw h1 h2 h3 h4 h5 h6 h7 h8 h9 h10 hf hE hD hS hU hX hS' hU' hX' hT
  go_enter Tryz.func14, Tryz.ntmps14
  go_wp2_with fail
  have hJ0 := (Js.start w).add (k := k) HI.out.1
  obtain ⟨V0, hV0⟩ : ∃ V, V = w.alloc (.cells #[.int .i64 p.a, .int .i64 p.b, .int .i64 p.c, .slice A p.xs.length k] 24) := ⟨_, rfl⟩
  rw [← hV0] at hJ0 ⊢
  have J0 := Lib.hid hJ0
  clear hJ0 hV0
  refine (long_any p A k V0).mono ?_
  rintro e w1 ⟨rfl, hb1⟩
  have K1 := Lib.hid (J0.out.keep hb1)
  clear hb1 J0
  by_cases h4 : 400 < p.xs.length
  · rw [decide_eq_true h4]
    have hk2 := Lib.hid (known_any w1 (HI.out.2.below K1.out.o))
    clear h4
    go_wp2_with fail
    refine (hk2.out).mono ?_
    rintro e w2 ⟨rfl, hb2⟩
    have K2 := Lib.hid (K1.out.keep hb2)
    clear hb2 K1
    go_wp2
    go_ret
    exact ⟨rfl, K2.out.o⟩
  rw [decide_eq_false h4]
  have HL := Lib.hid (show p.xs.length ≤ 1000000 by omega)
  clear h4
  have K1 := Lib.hid (show Ms w w1 _ [] from ⟨K1.out, fun x hx => by simp at hx⟩)
  obtain ⟨q0, q1, q2, q3, q4⟩ := (K1.out.b (w.heap.size, p, A, k) (by simp)).b.cells
  go_wp2_with fail
  refine (C1.out HL.out A k w1 (K1.out.b (w.heap.size, p, A, k) (by simp)).i).mono ?_
  rintro e w2 ⟨rfl, hb2⟩
  have K2 := Lib.hid (K1.out.keep hb2)
  clear hb2 K1
  clear q0 q1 q2 q3 q4
  obtain ⟨q0, q1, q2, q3, q4⟩ := (K2.out.b (w.heap.size, p, A, k) (by simp)).b.cells
  go_wp2_with fail
  have hJ2 := K2.out.addR (S1) (S2)
  obtain ⟨V2, hV2⟩ : ∃ V, V = (w2).alloc (.cells #[.int .i64 (S1), .int .i64 (S2)] 54) := ⟨_, rfl⟩
  rw [← hV2] at hJ2 ⊢
  have J2 := Lib.hid hJ2
  clear hJ2 hV2 K2
  refine (C2.out HL.out A k V2 (J2.out.b (w.heap.size, p, A, k) (by simp)).i).mono ?_
  rintro e w3 ⟨rfl, hb3⟩
  have K3 := Lib.hid (J2.out.keep hb3)
  clear hb3 J2
  clear q0 q1 q2 q3 q4
  obtain ⟨q0, q1, q2, q3, q4⟩ := (K3.out.b (w.heap.size, p, A, k) (by simp)).b.cells
  go_wp2_with fail
  have hJ3 := K3.out.addR (S1) (S2)
  obtain ⟨V3, hV3⟩ : ∃ V, V = (w3).alloc (.cells #[.int .i64 (S1), .int .i64 (S2)] 54) := ⟨_, rfl⟩
  rw [← hV3] at hJ3 ⊢
  have J3 := Lib.hid hJ3
  clear hJ3 hV3 K3
  refine (C3.out HL.out A k V3 (J3.out.b (w.heap.size, p, A, k) (by simp)).i).mono ?_
  rintro e w4 ⟨rfl, hb4⟩
  have K4 := Lib.hid (J3.out.keep hb4)
  clear hb4 J3
  clear q0 q1 q2 q3 q4
  obtain ⟨q0, q1, q2, q3, q4⟩ := (K4.out.b (w.heap.size, p, A, k) (by simp)).b.cells
  go_wp2_with fail
  have hJ4 := K4.out.addR (U1) (U2)
  obtain ⟨V4, hV4⟩ : ∃ V, V = (w4).alloc (.cells #[.int .i64 (U1), .int .i64 (U2)] 54) := ⟨_, rfl⟩
  rw [← hV4] at hJ4 ⊢
  have J4 := Lib.hid hJ4
  clear hJ4 hV4 K4
  refine (C4.out HL.out A k V4 (J4.out.b (w.heap.size, p, A, k) (by simp)).i).mono ?_
  rintro e w5 ⟨rfl, hb5⟩
  have K5 := Lib.hid (J4.out.keep hb5)
  clear hb5 J4
  clear q0 q1 q2 q3 q4
  obtain ⟨q0, q1, q2, q3, q4⟩ := (K5.out.b (w.heap.size, p, A, k) (by simp)).b.cells
  go_wp2_with fail
  have hJ5 := K5.out.addR (U1) (U2)
  obtain ⟨V5, hV5⟩ : ∃ V, V = (w5).alloc (.cells #[.int .i64 (U1), .int .i64 (U2)] 54) := ⟨_, rfl⟩
  rw [← hV5] at hJ5 ⊢
  have J5 := Lib.hid hJ5
  clear hJ5 hV5 K5
  refine (C5.out HL.out A k V5 (J5.out.b (w.heap.size, p, A, k) (by simp)).i).mono ?_
  rintro e w6 ⟨rfl, hb6⟩
  have K6 := Lib.hid (J5.out.keep hb6)
  clear hb6 J5
  clear q0 q1 q2 q3 q4
  obtain ⟨q0, q1, q2, q3, q4⟩ := (K6.out.b (w.heap.size, p, A, k) (by simp)).b.cells
  go_wp2_with fail
  refine (C6.out HL.out A k w6 (K6.out.b (w.heap.size, p, A, k) (by simp)).i).mono ?_
  rintro e w7 ⟨rfl, hb7⟩
  have K7 := Lib.hid (K6.out.keep hb7)
  clear hb7 K6
  clear q0 q1 q2 q3 q4
  obtain ⟨q0, q1, q2, q3, q4⟩ := (K7.out.b (w.heap.size, p, A, k) (by simp)).b.cells
  obtain ⟨x0, x1, x2, x3, x4⟩ := K7.out.r (w2.heap.size, S1, S2) (by simp)
  obtain ⟨y0, y1, y2, y3, y4⟩ := K7.out.r (w3.heap.size, S1, S2) (by simp)
  obtain ⟨z0, z1, z2, z3, z4⟩ := K7.out.r (w4.heap.size, U1, U2) (by simp)
  obtain ⟨u0, u1, u2, u3, u4⟩ := K7.out.r (w5.heap.size, U1, U2) (by simp)
  go_wp2_with fail
  refine (C7.out HL.out A k w7 (K7.out.b (w.heap.size, p, A, k) (by simp)).i).mono ?_
  intro e w8 h8
  obtain ⟨B8, b8, rfl, -, hi8, hb8⟩ := h8.open
  have K8 := Lib.hid (K7.out.keep hb8)
  have I8 := Lib.hid hi8
  clear h8 hb8 hi8 K7
  clear q0 q1 q2 q3 q4 x0 x1 x2 x3 x4 y0 y1 y2 y3 y4 z0 z1 z2 z3 z4 u0 u1 u2 u3 u4
  go_wp2_with fail
  have hJ8 := K8.out.add (k := b8) I8.out
  obtain ⟨V8, hV8⟩ : ∃ V, V = (w8).alloc (.cells #[.int .i64 (T).a, .int .i64 (T).b, .int .i64 (T).c, .slice B8 (T).xs.length b8] 24) := ⟨_, rfl⟩
  rw [← hV8] at hJ8 ⊢
  have J8 := Lib.hid hJ8
  clear hJ8 hV8 K8 I8
  refine (C8.out B8 b8 V8 (J8.out.b (w8.heap.size, T, B8, b8) (by simp)).i).mono ?_
  rintro e w9 ⟨rfl, hb9⟩
  have K9 := Lib.hid (J8.out.keep hb9)
  clear hb9 J8
  obtain ⟨q0, q1, q2, q3, q4⟩ := (K9.out.b (w8.heap.size, T, B8, b8) (by simp)).b.cells
  go_wp2_with fail
  have hJ9 := K9.out.addR (S4) (S5)
  obtain ⟨V9, hV9⟩ : ∃ V, V = (w9).alloc (.cells #[.int .i64 (S4), .int .i64 (S5)] 54) := ⟨_, rfl⟩
  rw [← hV9] at hJ9 ⊢
  have J9 := Lib.hid hJ9
  clear hJ9 hV9 K9
  refine (C9.out B8 b8 V9 (J9.out.b (w8.heap.size, T, B8, b8) (by simp)).i).mono ?_
  rintro e w10 ⟨rfl, hb10⟩
  have K10 := Lib.hid (J9.out.keep hb10)
  clear hb10 J9
  clear q0 q1 q2 q3 q4
  obtain ⟨q0, q1, q2, q3, q4⟩ := (K10.out.b (w8.heap.size, T, B8, b8) (by simp)).b.cells
  go_wp2_with fail
  have hJ10 := K10.out.addR (U4) (U5)
  obtain ⟨V10, hV10⟩ : ∃ V, V = (w10).alloc (.cells #[.int .i64 (U4), .int .i64 (U5)] 54) := ⟨_, rfl⟩
  rw [← hV10] at hJ10 ⊢
  have J10 := Lib.hid hJ10
  clear hJ10 hV10 K10
  refine (C10.out B8 b8 V10 (J10.out.b (w8.heap.size, T, B8, b8) (by simp)).i).mono ?_
  rintro e w11 ⟨rfl, hb11⟩
  have K11 := Lib.hid (J10.out.keep hb11)
  clear hb11 J10
  clear q0 q1 q2 q3 q4
  by_cases hz : S3 = 0
  · obtain ⟨⟨rfl, rfl, rfl⟩, ⟨rfl, rfl, rfl⟩, rfl, rfl⟩ := HF.out hz
    subst hz
    obtain ⟨x0, x1, x2, x3, x4⟩ := K11.out.r (w9.heap.size, S4, S5) (by simp)
    obtain ⟨y0, y1, y2, y3, y4⟩ := K11.out.r (w2.heap.size, S4, S5) (by simp)
    obtain ⟨z0, z1, z2, z3, z4⟩ := K11.out.r (w10.heap.size, U4, U5) (by simp)
    obtain ⟨u0, u1, u2, u3, u4⟩ := K11.out.r (w4.heap.size, U4, U5) (by simp)
    clear HF
    have hk12 := Lib.hid (known_any w11 (HI.out.2.below K11.out.o))
    clear C1
    go_wp2_with fail
    refine (hk12.out).mono ?_
    rintro e w12 ⟨rfl, hb12⟩
    have K12 := Lib.hid (K11.out.keep hb12)
    clear hb12 K11
    go_wp2
    go_ret
    exact ⟨rfl, K12.out.o⟩
  · have d1 : (S3 == 0) = false := by rw [beq_eq_false_iff_ne]; exact hz
    have d2 : (S3 != 0) = true := by rw [bne_iff_ne]; exact hz
    clear hz HF
    have hk12 := Lib.hid (known_any w11 (HI.out.2.below K11.out.o))
    clear C1
    go_wp2_with fail
    refine (hk12.out).mono ?_
    rintro e w12 ⟨rfl, hb12⟩
    have K12 := Lib.hid (K11.out.keep hb12)
    clear hb12 K11
    go_wp2
    go_ret
    exact ⟨rfl, K12.out.o⟩
end Go.Proofs.YtgmokojdlbdjeaaGreatDoor
