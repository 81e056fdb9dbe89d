/-
  THE REFERENCE: both, common.
-/
import Derived.Test.YtgmokojdlbdjeaaGreatDoorPrfL
import Derived.Test.YtgmokojdlbdjeaaGreatDoorPatW
namespace Go.Proofs.YtgmokojdlbdjeaaGreatDoor
open Go.RowKit
set_option maxRecDepth 100000 in
theorem rboth_any (p q : PatD) (hl : p.xs.length ≤ 1000000) (hl2 : q.xs.length ≤ 1000000) (A : Option Addr) (k : Nat) (B : Option Addr) (m : Nat) (w : World) (hi : PatIn w p A) (hq : PatIn w q B) :
    Calls Tryz.prog 75 #[.agg #[.int .i64 p.a, .int .i64 p.b, .int .i64 p.c, .slice A p.xs.length k], .agg #[.int .i64 q.a, .int .i64 q.b, .int .i64 q.c, .slice B q.xs.length m]] w fun e w' => e = .returned (.int .i64 (twoZ p q)) ∧ Below w.heap.size w w' := by
  obtain ⟨Z, hZ⟩ : ∃ Z, Z = twoZ p q := ⟨_, rfl⟩
  rw [← hZ]
  unfold twoZ at hZ
  obtain ⟨E, hE⟩ : ∃ E, E = valP p := ⟨_, rfl⟩
  obtain ⟨D, hD⟩ : ∃ D, D = valP q := ⟨_, rfl⟩
  rw [← hE, ← hD] at hZ
  have HV1 := Lib.hid (fun w hi => rvalidateP_any p hl E hE.symm A k w hi)
  have HV2 := Lib.hid (fun w hi => rvalidateP_any q hl2 D hD.symm B m w hi)
  have HZ := Lib.hid hZ
  have HI := Lib.hid (And.intro hi hq)
  clear hi hq hZ hE hD
  go_enter Tryz.func75, Tryz.ntmps75
  go_wp2_with fail
  obtain ⟨a0, a1, a2, a3⟩ := al2 w (.cells #[.int .i64 p.a, .int .i64 p.b, .int .i64 p.c, .slice A p.xs.length k] 24) (.cells #[.int .i64 q.a, .int .i64 q.b, .int .i64 q.c, .slice B q.xs.length m] 24)
  obtain ⟨V, hV⟩ : ∃ V, V = (w.alloc (.cells #[.int .i64 p.a, .int .i64 p.b, .int .i64 p.c, .slice A p.xs.length k] 24)).alloc (.cells #[.int .i64 q.a, .int .i64 q.b, .int .i64 q.c, .slice B q.xs.length m] 24) := ⟨_, rfl⟩
  rw [← hV] at a0 a1 a2 a3 ⊢
  refine (HV1.out V (HI.out.1.below a3)).mono ?_
  rintro e w1 ⟨rfl, hb1⟩
  have H1 := Lib.hid (show PBox w1 (w.heap.size + 1) q.a q.b q.c (.slice B q.xs.length m) ∧ Below w.heap.size w w1 from ⟨PBox.keep (w := V) a2 hb1, a3.trans (hb1.mono a3.size)⟩)
  clear hV a0 a1 a2 a3 HV1 hb1 V
  by_cases hz : E = 0
  · subst hz
    have HZ2 := Lib.hid (show Z = D by rw [HZ.out, if_neg (by simp)])
    obtain ⟨q0, q1, q2, q3, q4⟩ := H1.out.1.cells
    clear HZ
    go_wp2_with fail
    refine (HV2.out w1 (HI.out.2.below H1.out.2)).mono ?_
    rintro e w2 ⟨rfl, hb2⟩
    have H2 := Lib.hid (H1.out.2.trans (hb2.mono H1.out.2.size))
    clear hb2 q0 q1 q2 q3 q4 HV2 H1
    go_wp2
    go_ret
    exact ⟨by rw [HZ2.out] <;> rfl, H2.out⟩
  · have d1 : (E == 0) = false := by rw [beq_eq_false_iff_ne]; exact hz
    have d2 : (E != 0) = true := by rw [bne_iff_ne]; exact hz
    have HZ2 := Lib.hid (show Z = E by rw [HZ.out, if_pos hz])
    clear hz HZ
    go_wp2
    go_ret
    exact ⟨by rw [HZ2.out] <;> rfl, H1.out.2⟩
/-- The boxes of common. -/
structure RC (w wr : World) (a1 b1 c1 : Int) (s1 : Value) (a2 b2 c2 : Int) (s2 : Value) (x y z : Int) : Prop where
  p : PBox wr w.heap.size a1 b1 c1 s1
  q : PBox wr (w.heap.size + 1) a2 b2 c2 s2
  r : PBox wr (w.heap.size + 1 + 1) 0 0 0 (.slice none 0 0)
  o : PBox wr (w.heap.size + 1 + 1 + 1) x y z (.slice none 0 0)
  b : Below w.heap.size w wr
section
variable {w wr w' : World} {a1 b1 c1 a2 b2 c2 x y z : Int} {s1 s2 : Value}
theorem RC.keep (h : RC w wr a1 b1 c1 s1 a2 b2 c2 s2 x y z) (hb : Below wr.heap.size wr w') : RC w w' a1 b1 c1 s1 a2 b2 c2 s2 x y z := ⟨h.p.keep hb, h.q.keep hb, h.r.keep hb, h.o.keep hb, h.b.trans (hb.mono h.b.size)⟩
theorem RC.put (h : RC w wr a1 b1 c1 s1 a2 b2 c2 s2 x y z) (i : Nat) (u : Value) {x' y' z' : Int} (ho : PBox (wr.setCell ⟨w.heap.size + 1 + 1 + 1, i, none⟩ u) (w.heap.size + 1 + 1 + 1) x' y' z' (.slice none 0 0)) : RC w (wr.setCell ⟨w.heap.size + 1 + 1 + 1, i, none⟩ u) a1 b1 c1 s1 a2 b2 c2 s2 x' y' z' :=
  ⟨h.p.other (by simp; omega) u, h.q.other (by simp) u, h.r.other (by simp) u, ho, Below.setCell h.b (by show w.heap.size ≤ w.heap.size + 1 + 1 + 1; omega) u⟩
theorem RC.set0 (h : RC w wr a1 b1 c1 s1 a2 b2 c2 s2 x y z) (u : Int) : RC w (wr.setCell ⟨w.heap.size + 1 + 1 + 1, 0, none⟩ (.int .i64 u)) a1 b1 c1 s1 a2 b2 c2 s2 u y z := h.put 0 _ (h.o.set0 u)
theorem RC.set1 (h : RC w wr a1 b1 c1 s1 a2 b2 c2 s2 x y z) (u : Int) : RC w (wr.setCell ⟨w.heap.size + 1 + 1 + 1, 1, none⟩ (.int .i64 u)) a1 b1 c1 s1 a2 b2 c2 s2 x u z := h.put 1 _ (h.o.set1 u)
theorem RC.set2 (h : RC w wr a1 b1 c1 s1 a2 b2 c2 s2 x y z) (u : Int) : RC w (wr.setCell ⟨w.heap.size + 1 + 1 + 1, 2, none⟩ (.int .i64 u)) a1 b1 c1 s1 a2 b2 c2 s2 x y u := h.put 2 _ (h.o.set2 u)
theorem RC.of (h : RC w wr a1 b1 c1 s1 a2 b2 c2 s2 x y z) (i : Nat) : wr.frozen? ⟨w.heap.size + 1 + 1 + 1, i, none⟩ = false := frozen_of_row wr _ i _ _ h.o
theorem RC.x0 (h : RC w wr a1 b1 c1 s1 a2 b2 c2 s2 x y z) : cellI wr (w.heap.size + 1 + 1 + 1) 0 = x ∧ cellI wr (w.heap.size + 1 + 1 + 1) 1 = y ∧ cellI wr (w.heap.size + 1 + 1 + 1) 2 = z := by
  obtain ⟨o0, o1, o2, -, -⟩ := h.o.cells
  refine ⟨?_, ?_, ?_⟩
  · simp [cellI, o0]
  · simp [cellI, o1]
  · simp [cellI, o2]
end
/-- What common answers: a basis of what the lattices have in common. -/
def OutC (w : World) (a1 b1 c1 a2 b2 c2 : Int) (e : Ending) (w' : World) : Prop := ∃ x y z, e = .returned (.agg #[.int .i64 x, .int .i64 y, .int .i64 z, .slice none 0 0]) ∧ Com a1 b1 c1 a2 b2 c2 x y z ∧ Below w.heap.size w w'
set_option maxRecDepth 100000 in
set_option maxHeartbeats 2000000 in
theorem rcommon_any (a1 b1 c1 : Int) (s1 : Value) (a2 b2 c2 : Int) (s2 : Value) (h1 : 0 < a1) (h1' : a1 ≤ 144) (hb1 : 0 ≤ b1) (hb1' : b1 ≤ 144) (h3 : 0 < c1) (h3' : c1 ≤ 144) (h2 : 0 < a2) (h2' : a2 ≤ 144) (hb2 : 0 ≤ b2) (hb2' : b2 ≤ 144) (h4 : 0 < c2) (h4' : c2 ≤ 144) (w : World) :
    Calls Tryz.prog 76 #[.agg #[.int .i64 a1, .int .i64 b1, .int .i64 c1, s1], .agg #[.int .i64 a2, .int .i64 b2, .int .i64 c2, s2]] w (OutC w a1 b1 c1 a2 b2 c2) := by
  obtain ⟨X, Y, Z, hc, k1, k2, k3, k4, k5, k6⟩ := com_ref2 (b1 := b1) (b2 := b2) h1 h2 h3 h4
  have x4 : X ≤ 144 * 144 := Int.le_trans k4 (Int.mul_le_mul h2' h1' (by omega) (by omega))
  have z4 : Z ≤ 144 * 144 * 144 := by
    have : a1 * c2 * c1 ≤ 144 * 144 * 144 := Int.mul_le_mul (Int.mul_le_mul h1' h4' (by omega) (by omega)) h3' (by omega) (by omega)
    omega
  have x0 := hc.pa
  have z0 := hc.pc
  have y0 := hc.pb
  have y1 := hc.lb
  have hma := hc.ma
  have hmb := hc.mb
  have HK := Lib.hid (And.intro hc (And.intro k1 (And.intro k2 (And.intro k3 (And.intro hma (And.intro hmb k6))))))
  have HX1 := Lib.hid (fun x hlt hx => mul_step h1 (x := x) (A := X) hlt hx hma)
  have HZ1 := Lib.hid (fun z hlt hz => mul_step h3 (x := z) (A := Z) hlt hz k6)
  have HL1 := Lib.hid (fun dx dy u1 u2 u3 u4 w => rlat_any a1 b1 c1 s1 dx dy h1 (by omega) hb1 (by omega) h3 (by omega) u1 u2 u3 u4 w)
  have HL2 := Lib.hid (fun dx dy u1 u2 u3 u4 w => rlat_any a2 b2 c2 s2 dx dy h2 (by omega) hb2 (by omega) h4 (by omega) u1 u2 u3 u4 w)
  clear hc k1 k2 k3 k4 k5 k6 hma hmb
  have hne : (a2 == 0) = false := by rw [beq_eq_false_iff_ne]; omega
  go_enter Tryz.func76, Tryz.ntmps76
  go_upto_region 2 with fail
  obtain ⟨u0, u1, u2, u3, u4, u5⟩ := al4 w (.cells #[.int .i64 a1, .int .i64 b1, .int .i64 c1, s1] 24) (.cells #[.int .i64 a2, .int .i64 b2, .int .i64 c2, s2] 24) (.cells #[.int .i64 0, .int .i64 0, .int .i64 0, .slice none 0 0] 24) (.cells #[.int .i64 a1, .int .i64 0, .int .i64 c1, .slice none 0 0] 24)
  obtain ⟨V, hV⟩ : ∃ V, V = (((w.alloc (.cells #[.int .i64 a1, .int .i64 b1, .int .i64 c1, s1] 24)).alloc (.cells #[.int .i64 a2, .int .i64 b2, .int .i64 c2, s2] 24)).alloc (.cells #[.int .i64 0, .int .i64 0, .int .i64 0, .slice none 0 0] 24)).alloc (.cells #[.int .i64 a1, .int .i64 0, .int .i64 c1, .slice none 0 0] 24) := ⟨_, rfl⟩
  rw [← hV] at u0 u1 u2 u3 u4 u5 ⊢
  have T0 := Lib.hid (show RC w V a1 b1 c1 s1 a2 b2 c2 s2 a1 0 c1 from ⟨u1, u2, u3, u4, u5⟩)
  clear hV u0 u1 u2 u3 u4 u5
  have ha1X : a1 ≤ X := by
    rcases Int.lt_or_le X a1 with h | h
    · have e := HK.out.2.2.2.2.1
      rw [Int.emod_eq_of_lt (by omega) h] at e
      omega
    · exact h
  have hc1Z : c1 ≤ Z := by
    rcases Int.lt_or_le Z c1 with h | h
    · have e := HK.out.2.2.2.2.2.2
      rw [Int.emod_eq_of_lt (by omega) h] at e
      omega
    · exact h
  go_loopw [] (fun wr => ∃ x : Int, 0 < x ∧ x ≤ X ∧ Hid (x % a1 = 0 ∧ RC w wr a1 b1 c1 s1 a2 b2 c2 s2 x 0 c1)) (fun wr => (X - cellI wr (w.heap.size + 1 + 1 + 1) 0).toNat)
  case atStart => exact ⟨a1, by omega, by omega, Lib.hid ⟨Int.emod_self, T0.out⟩⟩
  case round =>
    clear T0
    obtain ⟨x, hx0, hx, hr⟩ := hrel
    obtain ⟨p0, p1, p2, p3, p4⟩ := hr.out.2.p.cells
    obtain ⟨q0, q1, q2, q3, q4⟩ := hr.out.2.q.cells
    obtain ⟨o0, o1, o2, o3, o4⟩ := hr.out.2.o.cells
    have f0 := hr.out.2.of 0
    by_cases hxX : x < X
    · have hnz := HK.out.2.1 x hx0 hxX hr.out.1
      have d1' : ((x % a2) != 0) = true := by rw [bne_iff_ne]; exact hnz
      obtain ⟨g1, g2⟩ := HX1.out x hxX hr.out.1
      have R2 := Lib.hid (And.intro g2 (hr.out.2.set0 (x + a1)))
      have HM := Lib.hid (And.intro hr.out.2.x0.1 R2.out.2.x0.1)
      have k1 : IntKind.i64.wrap (x + a1) = x + a1 := IntWalk.i64_in _ (by omega)
      clear hr hnz g2
      go_wp2
      go_roundw
      case rel => exact ⟨x + a1, by omega, g1, R2⟩
      case measure => rw [HM.out.1, HM.out.2]; omega
    · obtain rfl : x = X := by omega
      have d1' : ((x % a2) != 0) = false := by rw [HK.out.2.2.2.2.2.1]; rfl
      have R2 := Lib.hid (show ∃ y, RC w wr a1 b1 c1 s1 a2 b2 c2 s2 x y c1 from ⟨_, hr.out.2⟩)
      clear hr hxX
      go_upto_region 4 with fail
      clear d1' p0 p1 p2 p3 p4 q0 q1 q2 q3 q4 o0 o1 o2 o3 o4 f0
      go_loopw [] (fun wr => ∃ z : Int, 0 < z ∧ z ≤ Z ∧ Hid (z % c1 = 0 ∧ ∃ y, RC w wr a1 b1 c1 s1 a2 b2 c2 s2 x y z)) (fun wr => (Z - cellI wr (w.heap.size + 1 + 1 + 1) 2).toNat)
      case atStart => exact ⟨c1, by omega, by omega, Lib.hid ⟨Int.emod_self, R2.out⟩⟩
      case round =>
        clear R2
        obtain ⟨z, hz0, hz, hr⟩ := hrel
        obtain ⟨hzc, y, hT⟩ := hr.out
        have HZC := Lib.hid hzc
        have f1 := hT.of 1
        obtain ⟨o0, o1, o2, o3, o4⟩ := hT.o.cells
        have HMZ := Lib.hid hT.x0.2.2
        have R3 := Lib.hid (hT.set1 0)
        clear hr hT hzc
        go_upto_region 5 with fail
        obtain ⟨W3, hW3⟩ : ∃ W, W = wr.setCell ⟨w.heap.size + 1 + 1 + 1, 1, none⟩ (.int .i64 0) := ⟨_, rfl⟩
        rw [← hW3] at R3 ⊢
        clear hW3 f1 o0 o1 o2 o3 o4
        go_loopw [] (fun wq => ∃ y : Int, 0 ≤ y ∧ y ≤ x ∧ (z = Z → y ≤ Y) ∧ Hid (RC w wq a1 b1 c1 s1 a2 b2 c2 s2 x y z)) (fun wq => (x - cellI wq (w.heap.size + 1 + 1 + 1) 1).toNat)
        case atStart => exact ⟨0, by omega, by omega, fun _ => by omega, R3⟩
        case round =>
          clear R3
          obtain ⟨y, hy0, hyx, hyY, hr⟩ := hrel
          obtain ⟨p0, p1, p2, p3, p4⟩ := hr.out.p.cells
          obtain ⟨q0, q1, q2, q3, q4⟩ := hr.out.q.cells
          obtain ⟨o0, o1, o2, o3, o4⟩ := hr.out.o.cells
          have f1 := hr.out.of 1
          have f2 := hr.out.of 2
          have HMY := Lib.hid hr.out.x0.2.1
          by_cases hlt : y < x
          · have dl : decide (y < x) = true := decide_eq_true hlt
            have HC1 := Lib.hid (fun w => HL1.out y z (by omega) (by omega) (by omega) (by omega) w)
            have HC2 := Lib.hid (fun w => HL2.out y z (by omega) (by omega) (by omega) (by omega) w)
            obtain ⟨t1, ht1⟩ : ∃ t, t = decide (Lat a1 b1 c1 y z) := ⟨_, rfl⟩
            obtain ⟨t2, ht2⟩ : ∃ t, t = decide (Lat a2 b2 c2 y z) := ⟨_, rfl⟩
            rw [← ht1] at HC1
            rw [← ht2] at HC2
            have hboth : t1 = true → t2 = true → z = Z ∧ y = Y := fun e1 e2 => by
              rw [e1] at ht1
              rw [e2] at ht2
              have l1 := of_decide_eq_true ht1.symm
              have l2 := of_decide_eq_true ht2.symm
              have hzZ : z = Z := by
                rcases Int.lt_or_le z Z with h | h
                · exact absurd ⟨l1, l2⟩ (HK.out.2.2.1 z hz0 h HZC.out y hy0 hlt)
                · omega
              refine ⟨hzZ, ?_⟩
              subst hzZ
              have := hyY rfl
              rcases Int.lt_or_le y Y with h | h
              · exact absurd ⟨l1, l2⟩ (HK.out.2.2.2.1 y hy0 h)
              · omega
            have hcom : z = Z ∧ y = Y → t1 = true ∧ t2 = true := fun ⟨e1, e2⟩ => by
              subst e1; subst e2
              exact ⟨by rw [ht1]; exact decide_eq_true HK.out.1.l1, by rw [ht2]; exact decide_eq_true HK.out.1.l2⟩
            have HBO := Lib.hid (And.intro hboth hcom)
            clear ht1 ht2 hboth hcom
            go_wp2_with fail
            refine (HC1.out wr).mono ?_
            rintro e w3 ⟨rfl, hb3⟩
            have R3 := Lib.hid (hr.out.keep hb3)
            have HY := Lib.hid hyY
            clear hr hb3 p0 p1 p2 p3 p4 q0 q1 q2 q3 q4 o0 o1 o2 o3 o4 f1 f2 HC1 hyY
            obtain ⟨q0, q1, q2, q3, q4⟩ := R3.out.q.cells
            obtain ⟨o0, o1, o2, o3, o4⟩ := R3.out.o.cells
            cases t1 with
            | true =>
              go_wp2_with fail
              refine (HC2.out w3).mono ?_
              rintro e w4 ⟨rfl, hb4⟩
              have R4 := Lib.hid (R3.out.keep hb4)
              clear R3 hb4 q0 q1 q2 q3 q4 o0 o1 o2 o3 o4 HC2
              obtain ⟨o0, o1, o2, o3, o4⟩ := R4.out.o.cells
              cases t2 with
              | true =>
                obtain ⟨rfl, rfl⟩ := HBO.out.1 (by simp) (by simp)
                have hP1 := R4.out.r.put x y z (.slice none 0 0)
                have hP2 := Below.grown R4.out.b (set4_grown w4 (w.heap.size + 1 + 1) x y z (.slice none 0 0)) R4.out.b.size (fun g e => by cases e; omega)
                have HP := Lib.hid (And.intro hP1 hP2)
                obtain ⟨r0, r1, r2, r3, r4⟩ := PBox.cells R4.out.r
                have fr0 : (w4).frozen? ⟨w.heap.size + 1 + 1, 0, none⟩ = false := frozen_of_row (w4) (w.heap.size + 1 + 1) 0 _ _ R4.out.r
                have fr1 : (w4).frozen? ⟨w.heap.size + 1 + 1, 1, none⟩ = false := frozen_of_row (w4) (w.heap.size + 1 + 1) 1 _ _ R4.out.r
                have fr2 : (w4).frozen? ⟨w.heap.size + 1 + 1, 2, none⟩ = false := frozen_of_row (w4) (w.heap.size + 1 + 1) 2 _ _ R4.out.r
                have fr3 : (w4).frozen? ⟨w.heap.size + 1 + 1, 3, none⟩ = false := frozen_of_row (w4) (w.heap.size + 1 + 1) 3 _ _ R4.out.r
                clear HBO HY hP1 hP2 HMZ HZC HL1 HL2 HX1 HZ1
                go_wp2
                refine bodyPost_ret (v := .agg #[.int .i64 x, .int .i64 y, .int .i64 z, .slice none 0 0]) (ret_pat rfl rfl HP.out.1) rfl ?_
                exact ⟨x, y, z, rfl, HK.out.1, HP.out.2⟩
              | false =>
                have hnot : ¬ (z = Z ∧ y = Y) := fun h => by have := (HBO.out.2 h).2; cases this
                have f1 := R4.out.of 1
                have hyn : z = Z → y + 1 ≤ Y := fun h => by have := HY.out h; have : y ≠ Y := fun e => hnot ⟨h, e⟩; omega
                have HYN := Lib.hid hyn
                have R5 := Lib.hid (R4.out.set1 (y + 1))
                have HM := Lib.hid (And.intro R4.out.x0.2.1 R5.out.x0.2.1)
                clear HBO HY hnot hyn
                go_wp2
                go_roundw
                case rel => exact ⟨y + 1, by omega, by omega, HYN.out, R5⟩
                case measure => rw [HMY.out, HM.out.2]; omega
            | false =>
              have hnot : ¬ (z = Z ∧ y = Y) := fun h => by have := (HBO.out.2 h).1; cases this
              have f1 := R3.out.of 1
              have hyn : z = Z → y + 1 ≤ Y := fun h => by have := HY.out h; have : y ≠ Y := fun e => hnot ⟨h, e⟩; omega
              have HYN := Lib.hid hyn
              have R5 := Lib.hid (R3.out.set1 (y + 1))
              have HM := Lib.hid (And.intro R3.out.x0.2.1 R5.out.x0.2.1)
              clear HBO HY hnot hyn
              go_wp2
              go_roundw
              case rel => exact ⟨y + 1, by omega, by omega, HYN.out, R5⟩
              case measure => rw [HMY.out, HM.out.2]; omega
          · have dl : decide (y < x) = false := decide_eq_false hlt
            have hzZ : z < Z := by
              rcases Int.lt_or_le z Z with h | h
              · exact h
              · have := hyY (by omega); omega
            obtain ⟨g1, g2⟩ := HZ1.out z hzZ HZC.out
            have HM2 := Lib.hid hr.out.x0.2.2
            have R2 := Lib.hid (And.intro g2 (hr.out.set2 (z + c1)))
            have HM3 := Lib.hid R2.out.2.x0.2.2
            have k1 : IntKind.i64.wrap (z + c1) = z + c1 := IntWalk.i64_in _ (by omega)
            clear hr hyY g2 hlt
            go_wp2
            go_roundw
            case rel => exact ⟨z + c1, by omega, g1, Lib.hid ⟨R2.out.1, _, R2.out.2⟩⟩
            case measure => rw [HMZ.out, HM3.out]; omega
end Go.Proofs.YtgmokojdlbdjeaaGreatDoor
