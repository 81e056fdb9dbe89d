/-
  THE REFERENCE: At, Home, IsPeriod.
-/
import Derived.Test.YtlinldbbhdpgcaaGreatDoorPatH
import Derived.Test.YtlinldbbhdpgcaaGreatDoorPrfK
import Derived.Test.YtlinldbbhdpgcaaGreatDoorPatW
import Derived.Test.YtlinldbbhdpgcaaGreatDoorPatY
namespace Go.Proofs.YtlinldbbhdpgcaaGreatDoor
open Go.RowKit
end Go.Proofs.YtlinldbbhdpgcaaGreatDoor
/-
  THE REFERENCE: both, common.
-/
namespace Go.Proofs.YtlinldbbhdpgcaaGreatDoor
open Go.RowKit
set_option maxRecDepth 100000 in
theorem rboth_any (p q : PatD) (hl : p.xs.length ≤ 1000000) (hl2 : q.xs.length ≤ 1000000) (A : Option Addr) (k : Nat) (B : Option Addr) (m : Nat) (w : World) (hi : PatIn w p A) (hq : PatIn w q B) :
    Calls Tryz.prog 84 #[.agg #[.int .i64 p.a, .int .i64 p.b, .int .i64 p.c, .slice A p.xs.length k], .agg #[.int .i64 q.a, .int .i64 q.b, .int .i64 q.c, .slice B q.xs.length m]] w fun e w' => e = .returned (.int .i64 (twoZ p q)) ∧ Below w.heap.size w w' := by
  obtain ⟨Z, hZ⟩ : ∃ Z, Z = twoZ p q := ⟨_, rfl⟩
  rw [← hZ]
  unfold twoZ at hZ
  obtain ⟨E, hE⟩ : ∃ E, E = valP p := ⟨_, rfl⟩
  obtain ⟨D, hD⟩ : ∃ D, D = valP q := ⟨_, rfl⟩
  rw [← hE, ← hD] at hZ
  have HV1 := Lib.hid (fun w hi => rvalidateP_any p hl E hE.symm A k w hi)
  have HV2 := Lib.hid (fun w hi => rvalidateP_any q hl2 D hD.symm B m w hi)
  have HZ := Lib.hid hZ
  have HI := Lib.hid (And.intro hi hq)
  clear hi hq hZ hE hD
  go_enter Tryz.func84, Tryz.ntmps84
  go_wp2_with fail
  obtain ⟨a0, a1, a2, a3⟩ := al2 w (.cells #[.int .i64 p.a, .int .i64 p.b, .int .i64 p.c, .slice A p.xs.length k] 24) (.cells #[.int .i64 q.a, .int .i64 q.b, .int .i64 q.c, .slice B q.xs.length m] 24)
  obtain ⟨V, hV⟩ : ∃ V, V = (w.alloc (.cells #[.int .i64 p.a, .int .i64 p.b, .int .i64 p.c, .slice A p.xs.length k] 24)).alloc (.cells #[.int .i64 q.a, .int .i64 q.b, .int .i64 q.c, .slice B q.xs.length m] 24) := ⟨_, rfl⟩
  rw [← hV] at a0 a1 a2 a3 ⊢
  refine (HV1.out V (HI.out.1.below a3)).mono ?_
  rintro e w1 ⟨rfl, hb1⟩
  have H1 := Lib.hid (show PBox w1 (w.heap.size + 1) q.a q.b q.c (.slice B q.xs.length m) ∧ Below w.heap.size w w1 from ⟨PBox.keep (w := V) a2 hb1, a3.trans (hb1.mono a3.size)⟩)
  clear hV a0 a1 a2 a3 HV1 hb1 V
  by_cases hz : E = 0
  · subst hz
    have HZ2 := Lib.hid (show Z = D by rw [HZ.out, if_neg (by simp)])
    obtain ⟨q0, q1, q2, q3, q4⟩ := H1.out.1.cells
    clear HZ
    go_wp2_with fail
    refine (HV2.out w1 (HI.out.2.below H1.out.2)).mono ?_
    rintro e w2 ⟨rfl, hb2⟩
    have H2 := Lib.hid (H1.out.2.trans (hb2.mono H1.out.2.size))
    clear hb2 q0 q1 q2 q3 q4 HV2 H1
    go_wp2
    go_ret
    exact ⟨by rw [HZ2.out] <;> rfl, H2.out⟩
  · have d1 : (E == 0) = false := by rw [beq_eq_false_iff_ne]; exact hz
    have d2 : (E != 0) = true := by rw [bne_iff_ne]; exact hz
    have HZ2 := Lib.hid (show Z = E by rw [HZ.out, if_pos hz])
    clear hz HZ
    go_wp2
    go_ret
    exact ⟨by rw [HZ2.out] <;> rfl, H1.out.2⟩
/-- The boxes of common. -/
structure RC (w wr : World) (a1 b1 c1 : Int) (s1 : Value) (a2 b2 c2 : Int) (s2 : Value) (x y z : Int) : Prop where
  p : PBox wr w.heap.size a1 b1 c1 s1
  q : PBox wr (w.heap.size + 1) a2 b2 c2 s2
  r : PBox wr (w.heap.size + 1 + 1) 0 0 0 (.slice none 0 0)
  o : PBox wr (w.heap.size + 1 + 1 + 1) x y z (.slice none 0 0)
  b : Below w.heap.size w wr
section
variable {w wr w' : World} {a1 b1 c1 a2 b2 c2 x y z : Int} {s1 s2 : Value}
theorem RC.keep (h : RC w wr a1 b1 c1 s1 a2 b2 c2 s2 x y z) (hb : Below wr.heap.size wr w') : RC w w' a1 b1 c1 s1 a2 b2 c2 s2 x y z := ⟨h.p.keep hb, h.q.keep hb, h.r.keep hb, h.o.keep hb, h.b.trans (hb.mono h.b.size)⟩
theorem RC.put (h : RC w wr a1 b1 c1 s1 a2 b2 c2 s2 x y z) (i : Nat) (u : Value) {x' y' z' : Int} (ho : PBox (wr.setCell ⟨w.heap.size + 1 + 1 + 1, i, none⟩ u) (w.heap.size + 1 + 1 + 1) x' y' z' (.slice none 0 0)) : RC w (wr.setCell ⟨w.heap.size + 1 + 1 + 1, i, none⟩ u) a1 b1 c1 s1 a2 b2 c2 s2 x' y' z' :=
  ⟨h.p.other (by simp; omega) u, h.q.other (by simp) u, h.r.other (by simp) u, ho, Below.setCell h.b (by show w.heap.size ≤ w.heap.size + 1 + 1 + 1; omega) u⟩
theorem RC.set0 (h : RC w wr a1 b1 c1 s1 a2 b2 c2 s2 x y z) (u : Int) : RC w (wr.setCell ⟨w.heap.size + 1 + 1 + 1, 0, none⟩ (.int .i64 u)) a1 b1 c1 s1 a2 b2 c2 s2 u y z := h.put 0 _ (h.o.set0 u)
theorem RC.set1 (h : RC w wr a1 b1 c1 s1 a2 b2 c2 s2 x y z) (u : Int) : RC w (wr.setCell ⟨w.heap.size + 1 + 1 + 1, 1, none⟩ (.int .i64 u)) a1 b1 c1 s1 a2 b2 c2 s2 x u z := h.put 1 _ (h.o.set1 u)
theorem RC.set2 (h : RC w wr a1 b1 c1 s1 a2 b2 c2 s2 x y z) (u : Int) : RC w (wr.setCell ⟨w.heap.size + 1 + 1 + 1, 2, none⟩ (.int .i64 u)) a1 b1 c1 s1 a2 b2 c2 s2 x y u := h.put 2 _ (h.o.set2 u)
theorem RC.of (h : RC w wr a1 b1 c1 s1 a2 b2 c2 s2 x y z) (i : Nat) : wr.frozen? ⟨w.heap.size + 1 + 1 + 1, i, none⟩ = false := frozen_of_row wr _ i _ _ h.o
theorem RC.x0 (h : RC w wr a1 b1 c1 s1 a2 b2 c2 s2 x y z) : cellI wr (w.heap.size + 1 + 1 + 1) 0 = x ∧ cellI wr (w.heap.size + 1 + 1 + 1) 1 = y ∧ cellI wr (w.heap.size + 1 + 1 + 1) 2 = z := by
  obtain ⟨o0, o1, o2, -, -⟩ := h.o.cells
  refine ⟨?_, ?_, ?_⟩
  · simp [cellI, o0]
  · simp [cellI, o1]
  · simp [cellI, o2]
end
/-- What common answers: a basis of what the lattices have in common. -/
def OutC (w : World) (a1 b1 c1 a2 b2 c2 : Int) (e : Ending) (w' : World) : Prop := ∃ x y z, e = .returned (.agg #[.int .i64 x, .int .i64 y, .int .i64 z, .slice none 0 0]) ∧ Com a1 b1 c1 a2 b2 c2 x y z ∧ Below w.heap.size w w'
set_option maxRecDepth 100000 in
set_option maxHeartbeats 2000000 in
theorem rcommon_any (a1 b1 c1 : Int) (s1 : Value) (a2 b2 c2 : Int) (s2 : Value) (h1 : 0 < a1) (h1' : a1 ≤ 144) (hb1 : 0 ≤ b1) (hb1' : b1 ≤ 144) (h3 : 0 < c1) (h3' : c1 ≤ 144) (h2 : 0 < a2) (h2' : a2 ≤ 144) (hb2 : 0 ≤ b2) (hb2' : b2 ≤ 144) (h4 : 0 < c2) (h4' : c2 ≤ 144) (w : World) :
    Calls Tryz.prog 85 #[.agg #[.int .i64 a1, .int .i64 b1, .int .i64 c1, s1], .agg #[.int .i64 a2, .int .i64 b2, .int .i64 c2, s2]] w (OutC w a1 b1 c1 a2 b2 c2) := by
  obtain ⟨X, Y, Z, hc, k1, k2, k3, k4, k5, k6⟩ := com_ref2 (b1 := b1) (b2 := b2) h1 h2 h3 h4
  have x4 : X ≤ 144 * 144 := Int.le_trans k4 (Int.mul_le_mul h2' h1' (by omega) (by omega))
  have z4 : Z ≤ 144 * 144 * 144 := by
    have : a1 * c2 * c1 ≤ 144 * 144 * 144 := Int.mul_le_mul (Int.mul_le_mul h1' h4' (by omega) (by omega)) h3' (by omega) (by omega)
    omega
  have x0 := hc.pa
  have z0 := hc.pc
  have y0 := hc.pb
  have y1 := hc.lb
  have hma := hc.ma
  have hmb := hc.mb
  have HK := Lib.hid (And.intro hc (And.intro k1 (And.intro k2 (And.intro k3 (And.intro hma (And.intro hmb k6))))))
  have HX1 := Lib.hid (fun x hlt hx => mul_step h1 (x := x) (A := X) hlt hx hma)
  have HZ1 := Lib.hid (fun z hlt hz => mul_step h3 (x := z) (A := Z) hlt hz k6)
  have HL1 := Lib.hid (fun dx dy u1 u2 u3 u4 w => rlat_any a1 b1 c1 s1 dx dy h1 (by omega) hb1 (by omega) h3 (by omega) u1 u2 u3 u4 w)
  have HL2 := Lib.hid (fun dx dy u1 u2 u3 u4 w => rlat_any a2 b2 c2 s2 dx dy h2 (by omega) hb2 (by omega) h4 (by omega) u1 u2 u3 u4 w)
  clear hc k1 k2 k3 k4 k5 k6 hma hmb
  have hne : (a2 == 0) = false := by rw [beq_eq_false_iff_ne]; omega
  go_enter Tryz.func85, Tryz.ntmps85
  go_upto_region 2 with fail
  obtain ⟨u0, u1, u2, u3, u4, u5⟩ := al4 w (.cells #[.int .i64 a1, .int .i64 b1, .int .i64 c1, s1] 24) (.cells #[.int .i64 a2, .int .i64 b2, .int .i64 c2, s2] 24) (.cells #[.int .i64 0, .int .i64 0, .int .i64 0, .slice none 0 0] 24) (.cells #[.int .i64 a1, .int .i64 0, .int .i64 c1, .slice none 0 0] 24)
  obtain ⟨V, hV⟩ : ∃ V, V = (((w.alloc (.cells #[.int .i64 a1, .int .i64 b1, .int .i64 c1, s1] 24)).alloc (.cells #[.int .i64 a2, .int .i64 b2, .int .i64 c2, s2] 24)).alloc (.cells #[.int .i64 0, .int .i64 0, .int .i64 0, .slice none 0 0] 24)).alloc (.cells #[.int .i64 a1, .int .i64 0, .int .i64 c1, .slice none 0 0] 24) := ⟨_, rfl⟩
  rw [← hV] at u0 u1 u2 u3 u4 u5 ⊢
  have T0 := Lib.hid (show RC w V a1 b1 c1 s1 a2 b2 c2 s2 a1 0 c1 from ⟨u1, u2, u3, u4, u5⟩)
  clear hV u0 u1 u2 u3 u4 u5
  have ha1X : a1 ≤ X := by
    rcases Int.lt_or_le X a1 with h | h
    · have e := HK.out.2.2.2.2.1
      rw [Int.emod_eq_of_lt (by omega) h] at e
      omega
    · exact h
  have hc1Z : c1 ≤ Z := by
    rcases Int.lt_or_le Z c1 with h | h
    · have e := HK.out.2.2.2.2.2.2
      rw [Int.emod_eq_of_lt (by omega) h] at e
      omega
    · exact h
  go_loopw [] (fun wr => ∃ x : Int, 0 < x ∧ x ≤ X ∧ Hid (x % a1 = 0 ∧ RC w wr a1 b1 c1 s1 a2 b2 c2 s2 x 0 c1)) (fun wr => (X - cellI wr (w.heap.size + 1 + 1 + 1) 0).toNat)
  case atStart => exact ⟨a1, by omega, by omega, Lib.hid ⟨Int.emod_self, T0.out⟩⟩
  case round =>
    clear T0
    obtain ⟨x, hx0, hx, hr⟩ := hrel
    obtain ⟨p0, p1, p2, p3, p4⟩ := hr.out.2.p.cells
    obtain ⟨q0, q1, q2, q3, q4⟩ := hr.out.2.q.cells
    obtain ⟨o0, o1, o2, o3, o4⟩ := hr.out.2.o.cells
    have f0 := hr.out.2.of 0
    by_cases hxX : x < X
    · have hnz := HK.out.2.1 x hx0 hxX hr.out.1
      have d1' : ((x % a2) != 0) = true := by rw [bne_iff_ne]; exact hnz
      obtain ⟨g1, g2⟩ := HX1.out x hxX hr.out.1
      have R2 := Lib.hid (And.intro g2 (hr.out.2.set0 (x + a1)))
      have HM := Lib.hid (And.intro hr.out.2.x0.1 R2.out.2.x0.1)
      have k1 : IntKind.i64.wrap (x + a1) = x + a1 := IntWalk.i64_in _ (by omega)
      clear hr hnz g2
      go_wp2
      go_roundw
      case rel => exact ⟨x + a1, by omega, g1, R2⟩
      case measure => rw [HM.out.1, HM.out.2]; omega
    · obtain rfl : x = X := by omega
      have d1' : ((x % a2) != 0) = false := by rw [HK.out.2.2.2.2.2.1]; rfl
      have R2 := Lib.hid (show ∃ y, RC w wr a1 b1 c1 s1 a2 b2 c2 s2 x y c1 from ⟨_, hr.out.2⟩)
      clear hr hxX
      go_upto_region 4 with fail
      clear d1' p0 p1 p2 p3 p4 q0 q1 q2 q3 q4 o0 o1 o2 o3 o4 f0
      go_loopw [] (fun wr => ∃ z : Int, 0 < z ∧ z ≤ Z ∧ Hid (z % c1 = 0 ∧ ∃ y, RC w wr a1 b1 c1 s1 a2 b2 c2 s2 x y z)) (fun wr => (Z - cellI wr (w.heap.size + 1 + 1 + 1) 2).toNat)
      case atStart => exact ⟨c1, by omega, by omega, Lib.hid ⟨Int.emod_self, R2.out⟩⟩
      case round =>
        clear R2
        obtain ⟨z, hz0, hz, hr⟩ := hrel
        obtain ⟨hzc, y, hT⟩ := hr.out
        have HZC := Lib.hid hzc
        have f1 := hT.of 1
        obtain ⟨o0, o1, o2, o3, o4⟩ := hT.o.cells
        have HMZ := Lib.hid hT.x0.2.2
        have R3 := Lib.hid (hT.set1 0)
        clear hr hT hzc
        go_upto_region 5 with fail
        obtain ⟨W3, hW3⟩ : ∃ W, W = wr.setCell ⟨w.heap.size + 1 + 1 + 1, 1, none⟩ (.int .i64 0) := ⟨_, rfl⟩
        rw [← hW3] at R3 ⊢
        clear hW3 f1 o0 o1 o2 o3 o4
        go_loopw [] (fun wq => ∃ y : Int, 0 ≤ y ∧ y ≤ x ∧ (z = Z → y ≤ Y) ∧ Hid (RC w wq a1 b1 c1 s1 a2 b2 c2 s2 x y z)) (fun wq => (x - cellI wq (w.heap.size + 1 + 1 + 1) 1).toNat)
        case atStart => exact ⟨0, by omega, by omega, fun _ => by omega, R3⟩
        case round =>
          clear R3
          obtain ⟨y, hy0, hyx, hyY, hr⟩ := hrel
          obtain ⟨p0, p1, p2, p3, p4⟩ := hr.out.p.cells
          obtain ⟨q0, q1, q2, q3, q4⟩ := hr.out.q.cells
          obtain ⟨o0, o1, o2, o3, o4⟩ := hr.out.o.cells
          have f1 := hr.out.of 1
          have f2 := hr.out.of 2
          have HMY := Lib.hid hr.out.x0.2.1
          by_cases hlt : y < x
          · have dl : decide (y < x) = true := decide_eq_true hlt
            have HC1 := Lib.hid (fun w => HL1.out y z (by omega) (by omega) (by omega) (by omega) w)
            have HC2 := Lib.hid (fun w => HL2.out y z (by omega) (by omega) (by omega) (by omega) w)
            obtain ⟨t1, ht1⟩ : ∃ t, t = decide (Lat a1 b1 c1 y z) := ⟨_, rfl⟩
            obtain ⟨t2, ht2⟩ : ∃ t, t = decide (Lat a2 b2 c2 y z) := ⟨_, rfl⟩
            rw [← ht1] at HC1
            rw [← ht2] at HC2
            have hboth : t1 = true → t2 = true → z = Z ∧ y = Y := fun e1 e2 => by
              rw [e1] at ht1
              rw [e2] at ht2
              have l1 := of_decide_eq_true ht1.symm
              have l2 := of_decide_eq_true ht2.symm
              have hzZ : z = Z := by
                rcases Int.lt_or_le z Z with h | h
                · exact absurd ⟨l1, l2⟩ (HK.out.2.2.1 z hz0 h HZC.out y hy0 hlt)
                · omega
              refine ⟨hzZ, ?_⟩
              subst hzZ
              have := hyY rfl
              rcases Int.lt_or_le y Y with h | h
              · exact absurd ⟨l1, l2⟩ (HK.out.2.2.2.1 y hy0 h)
              · omega
            have hcom : z = Z ∧ y = Y → t1 = true ∧ t2 = true := fun ⟨e1, e2⟩ => by
              subst e1; subst e2
              exact ⟨by rw [ht1]; exact decide_eq_true HK.out.1.l1, by rw [ht2]; exact decide_eq_true HK.out.1.l2⟩
            have HBO := Lib.hid (And.intro hboth hcom)
            clear ht1 ht2 hboth hcom
            go_wp2_with fail
            refine (HC1.out wr).mono ?_
            rintro e w3 ⟨rfl, hb3⟩
            have R3 := Lib.hid (hr.out.keep hb3)
            have HY := Lib.hid hyY
            clear hr hb3 p0 p1 p2 p3 p4 q0 q1 q2 q3 q4 o0 o1 o2 o3 o4 f1 f2 HC1 hyY
            obtain ⟨q0, q1, q2, q3, q4⟩ := R3.out.q.cells
            obtain ⟨o0, o1, o2, o3, o4⟩ := R3.out.o.cells
            cases t1 with
            | true =>
              go_wp2_with fail
              refine (HC2.out w3).mono ?_
              rintro e w4 ⟨rfl, hb4⟩
              have R4 := Lib.hid (R3.out.keep hb4)
              clear R3 hb4 q0 q1 q2 q3 q4 o0 o1 o2 o3 o4 HC2
              obtain ⟨o0, o1, o2, o3, o4⟩ := R4.out.o.cells
              cases t2 with
              | true =>
                obtain ⟨rfl, rfl⟩ := HBO.out.1 (by simp) (by simp)
                have hP1 := R4.out.r.put x y z (.slice none 0 0)
                have hP2 := Below.grown R4.out.b (set4_grown w4 (w.heap.size + 1 + 1) x y z (.slice none 0 0)) R4.out.b.size (fun g e => by cases e; omega)
                have HP := Lib.hid (And.intro hP1 hP2)
                obtain ⟨r0, r1, r2, r3, r4⟩ := PBox.cells R4.out.r
                have fr0 : (w4).frozen? ⟨w.heap.size + 1 + 1, 0, none⟩ = false := frozen_of_row (w4) (w.heap.size + 1 + 1) 0 _ _ R4.out.r
                have fr1 : (w4).frozen? ⟨w.heap.size + 1 + 1, 1, none⟩ = false := frozen_of_row (w4) (w.heap.size + 1 + 1) 1 _ _ R4.out.r
                have fr2 : (w4).frozen? ⟨w.heap.size + 1 + 1, 2, none⟩ = false := frozen_of_row (w4) (w.heap.size + 1 + 1) 2 _ _ R4.out.r
                have fr3 : (w4).frozen? ⟨w.heap.size + 1 + 1, 3, none⟩ = false := frozen_of_row (w4) (w.heap.size + 1 + 1) 3 _ _ R4.out.r
                clear HBO HY hP1 hP2 HMZ HZC HL1 HL2 HX1 HZ1
                go_wp2
                refine bodyPost_ret (v := .agg #[.int .i64 x, .int .i64 y, .int .i64 z, .slice none 0 0]) (ret_pat rfl rfl HP.out.1) rfl ?_
                exact ⟨x, y, z, rfl, HK.out.1, HP.out.2⟩
              | false =>
                have hnot : ¬ (z = Z ∧ y = Y) := fun h => by have := (HBO.out.2 h).2; cases this
                have f1 := R4.out.of 1
                have hyn : z = Z → y + 1 ≤ Y := fun h => by have := HY.out h; have : y ≠ Y := fun e => hnot ⟨h, e⟩; omega
                have HYN := Lib.hid hyn
                have R5 := Lib.hid (R4.out.set1 (y + 1))
                have HM := Lib.hid (And.intro R4.out.x0.2.1 R5.out.x0.2.1)
                clear HBO HY hnot hyn
                go_wp2
                go_roundw
                case rel => exact ⟨y + 1, by omega, by omega, HYN.out, R5⟩
                case measure => rw [HMY.out, HM.out.2]; omega
            | false =>
              have hnot : ¬ (z = Z ∧ y = Y) := fun h => by have := (HBO.out.2 h).1; cases this
              have f1 := R3.out.of 1
              have hyn : z = Z → y + 1 ≤ Y := fun h => by have := HY.out h; have : y ≠ Y := fun e => hnot ⟨h, e⟩; omega
              have HYN := Lib.hid hyn
              have R5 := Lib.hid (R3.out.set1 (y + 1))
              have HM := Lib.hid (And.intro R3.out.x0.2.1 R5.out.x0.2.1)
              clear HBO HY hnot hyn
              go_wp2
              go_roundw
              case rel => exact ⟨y + 1, by omega, by omega, HYN.out, R5⟩
              case measure => rw [HMY.out, HM.out.2]; omega
          · have dl : decide (y < x) = false := decide_eq_false hlt
            have hzZ : z < Z := by
              rcases Int.lt_or_le z Z with h | h
              · exact h
              · have := hyY (by omega); omega
            obtain ⟨g1, g2⟩ := HZ1.out z hzZ HZC.out
            have HM2 := Lib.hid hr.out.x0.2.2
            have R2 := Lib.hid (And.intro g2 (hr.out.set2 (z + c1)))
            have HM3 := Lib.hid R2.out.2.x0.2.2
            have k1 : IntKind.i64.wrap (z + c1) = z + c1 := IntWalk.i64_in _ (by omega)
            clear hr hyY g2 hlt
            go_wp2
            go_roundw
            case rel => exact ⟨z + c1, by omega, g1, Lib.hid ⟨R2.out.1, _, R2.out.2⟩⟩
            case measure => rw [HMZ.out, HM3.out]; omega
end Go.Proofs.YtlinldbbhdpgcaaGreatDoor
/-
  THE REFERENCE: Same.
-/
namespace Go.Proofs.YtlinldbbhdpgcaaGreatDoor
open Go.RowKit
attribute [local go_sem] grow_cell grow_frozen
attribute [local irreducible] plainUpon stepC
/-- No cell of so many rows differs. -/
def EqOn (F G : Int → Int → Int) (a k : Int) : Prop := ∀ x y, 0 ≤ x → x < a → 0 ≤ y → y < k → F x y = G x y
theorem EqOn.step {F G : Int → Int → Int} {a k : Int} (h : EqOn F G a k) (h2 : ∀ x, 0 ≤ x → x < a → F x k = G x k) : EqOn F G a (k + 1) := fun x y h0 h1 h3 h4 => by
  by_cases he : y < k
  · exact h x y h0 h1 h3 he
  · obtain rfl : y = k := by omega
    exact h2 x h0 h1
/-- The boxes of Same. -/
structure SB (w wr : World) (B : Nat) (p q : PatD) (A : Option Addr) (k : Nat) (D : Option Addr) (m : Nat) (ob : Nat) (x y z : Int) : Prop where
  p : PBox wr w.heap.size p.a p.b p.c (.slice A p.xs.length k)
  q : PBox wr (w.heap.size + 1) q.a q.b q.c (.slice D q.xs.length m)
  o : PBox wr ob x y z (.slice none 0 0)
  b : Below w.heap.size w wr
theorem SB.keep {w wr w' : World} {B : Nat} {p q : PatD} {A : Option Addr} {k : Nat} {D : Option Addr} {m ob : Nat} {x y z : Int} (h : SB w wr B p q A k D m ob x y z) (hb : Below wr.heap.size wr w') : SB w w' B p q A k D m ob x y z := ⟨h.p.keep hb, h.q.keep hb, h.o.keep hb, h.b.trans (hb.mono h.b.size)⟩
end Go.Proofs.YtlinldbbhdpgcaaGreatDoor
/-
  THE REFERENCE: Over.
-/
namespace Go.Proofs.YtlinldbbhdpgcaaGreatDoor
open Go.RowKit
attribute [local go_sem] grow_cell grow_frozen
attribute [local irreducible] RP.plainUpon RP.stepC
/-- A second pattern's box and cells, apart from the table. -/
def Q2 (wr : World) (B ob qb : Nat) (p q : PatD) (A D : Option Addr) (m : Nat) : Prop := PBox wr qb q.a q.b q.c (.slice D q.xs.length m) ∧ qb < B ∧ qb ≠ ob ∧ PIn wr B ob p A ∧ PIn wr B ob q D
theorem Q2.keep {w w' : World} {B ob qb : Nat} {p q : PatD} {A D : Option Addr} {m : Nat} (h : Q2 w B ob qb p q A D m) (hb : Below w.heap.size w w') (hB : B ≤ w.heap.size) : Q2 w' B ob qb p q A D m :=
  ⟨h.1.keep hb, h.2.1, h.2.2.1, h.2.2.2.1.keep (hb.mono hB), h.2.2.2.2.keep (hb.mono hB)⟩
theorem Q2.step {w w' : World} {B ob qb : Nat} {p q : PatD} {A D : Option Addr} {m : Nat} (h : Q2 w B ob qb p q A D m) (hb : Below B w w') (u : Value) : Q2 (w'.setCell ⟨ob, 3, none⟩ u) B ob qb p q A D m :=
  ⟨(h.1.below hb h.2.1).other (p := ⟨ob, 3, none⟩) h.2.2.1 u, h.2.1, h.2.2.1, h.2.2.2.1.step hb u, h.2.2.2.2.step hb u⟩
/-- What is there before and while the lattices are joined. -/
structure OV (w wr : World) (p q : PatD) (A : Option Addr) (k : Nat) (D : Option Addr) (m : Nat) : Prop where
  p : PBox wr w.heap.size p.a p.b p.c (.slice A p.xs.length k)
  q : PBox wr (w.heap.size + 1) q.a q.b q.c (.slice D q.xs.length m)
  r : PBox wr (w.heap.size + 1 + 1) 0 0 0 (.slice none 0 0)
  b : Below w.heap.size w wr
theorem OV.keep {w wr w' : World} {p q : PatD} {A : Option Addr} {k : Nat} {D : Option Addr} {m : Nat} (h : OV w wr p q A k D m) (hb : Below wr.heap.size wr w') : OV w w' p q A k D m := ⟨h.p.keep hb, h.q.keep hb, h.r.keep hb, h.b.trans (hb.mono h.b.size)⟩
set_option maxRecDepth 100000 in
set_option maxHeartbeats 4000000 in
theorem rover_any (p q : PatD) (hl : p.xs.length ≤ 1000000) (hl2 : q.xs.length ≤ 1000000) (A : Option Addr) (k : Nat) (D : Option Addr) (m : Nat) (w : World) (hi : PatIn w p A) (hq : PatIn w q D) :
    Calls Tryz.prog 55 #[.agg #[.int .i64 p.a, .int .i64 p.b, .int .i64 p.c, .slice A p.xs.length k], .agg #[.int .i64 q.a, .int .i64 q.b, .int .i64 q.c, .slice D q.xs.length m]] w (OutP w (oveT p q) (.int .i64 (oveZ p q))) := by
  have HC := Lib.hid (fun w hi hq => rboth_any p q hl hl2 A k D m w hi hq)
  obtain ⟨R, hR⟩ : ∃ T, T = oveT p q := ⟨_, rfl⟩
  obtain ⟨Y, hY⟩ : ∃ T, T = oveZ p q := ⟨_, rfl⟩
  rw [← hR, ← hY]
  unfold oveT at hR
  unfold oveZ at hY
  have hz0 := fun h => twoZ_zero (p := p) (q := q) h
  obtain ⟨Z, hZ⟩ : ∃ Z, Z = twoZ p q := ⟨_, rfl⟩
  rw [← hZ] at HC hz0 hR hY
  have HI := Lib.hid (And.intro hi hq)
  have H01 := Lib.hid (And.intro hz0 (And.intro hR hY))
  clear hi hq hz0 hZ hR hY
  go_enter Tryz.func55, Tryz.ntmps55
  go_wp2_with fail
  obtain ⟨a0, a1, a2, a3, a4⟩ := al3 w (.cells #[.int .i64 p.a, .int .i64 p.b, .int .i64 p.c, .slice A p.xs.length k] 24) (.cells #[.int .i64 q.a, .int .i64 q.b, .int .i64 q.c, .slice D q.xs.length m] 24) (.cells #[.int .i64 0, .int .i64 0, .int .i64 0, .slice none 0 0] 24)
  obtain ⟨V, hV⟩ : ∃ V, V = ((w.alloc (.cells #[.int .i64 p.a, .int .i64 p.b, .int .i64 p.c, .slice A p.xs.length k] 24)).alloc (.cells #[.int .i64 q.a, .int .i64 q.b, .int .i64 q.c, .slice D q.xs.length m] 24)).alloc (.cells #[.int .i64 0, .int .i64 0, .int .i64 0, .slice none 0 0] 24) := ⟨_, rfl⟩
  rw [← hV] at a0 a1 a2 a3 a4 ⊢
  have HV := Lib.hid (show OV w V p q A k D m from ⟨a1, a2, a3, a4⟩)
  refine (HC.out V (HI.out.1.below a4) (HI.out.2.below a4)).mono ?_
  clear hV a0 a1 a2 a3 a4
  rintro e w1 ⟨rfl, hb1⟩
  have H1 := Lib.hid (HV.out.keep hb1)
  clear hb1 HC HV
  by_cases hz : Z = 0
  · subst hz
    obtain ⟨hv1, hv2⟩ := H01.out.1 rfl
    have hR := H01.out.2.1
    have hY := H01.out.2.2
    rw [if_neg (by simp)] at hR hY
    have gp := valP_zero hv1
    have gq := valP_zero hv2
    have g1 := lst_good hv1
    have g2 := lst_good hv2
    have e1 := (lst_pat hv1).lst_col
    have e2 := (lst_pat hv2).lst_col
    have HL1 := Lib.hid (fun w hi => rleast_q p gp.ok.wide A k w hi)
    have HL2 := Lib.hid (fun w hi => rleast_q q gq.ok.wide D m w hi)
    obtain ⟨t1, ht1⟩ : ∃ t, t = lst (colF p) := ⟨_, rfl⟩
    obtain ⟨t2, ht2⟩ : ∃ t, t = lst (colF q) := ⟨_, rfl⟩
    rw [← ht1] at HL1 g1 e1
    rw [← ht2] at HL2 g2 e2
    have HCO := Lib.hid (fun s1 s2 w => rcommon_any t1.a t1.b t1.c s1 t2.a t2.b t2.c s2 g1.a0 g1.a1 g1.b0 (by have := g1.b1; have := g1.a1; omega) g1.c0 g1.c1 g2.a0 g2.a1 g2.b0 (by have := g2.b1; have := g2.a1; omega) g2.c0 g2.c1 w)
    have hbs : ∀ {x y z : Int}, Com t1.a t1.b t1.c t2.a t2.b t2.c x y z → Base (overF (colF p) (colF q)) x y z ∧ x * z ≤ 144 * 144 ∧ x ≤ 20736 ∧ z ≤ 20736 ∧ y ≤ 20736 := fun hc => by
      have hb := hc.base (col_base g1.ok) (col_base g2.ok)
      rw [e1, e2] at hb
      exact ⟨hb.1.over hb.2, com_bd g1 g2 hc⟩
    have HBS := Lib.hid (And.intro (@hbs) (And.intro hR hY))
    have HF1 := Lib.hid (fun x y h1 h2 h3 h4 w hL => rcolor_any p gp.ok.wide A p.xs.length k x y h1 h2 h3 h4 w hL)
    have HF2 := Lib.hid (fun x y h1 h2 h3 h4 w hL => rcolor_any q gq.ok.wide D q.xs.length m x y h1 h2 h3 h4 w hL)
    clear hv1 hv2 hR hY gp gq g1 g2 e1 e2 ht1 ht2 hbs H01
    obtain ⟨p0, p1, p2, p3, p4⟩ := H1.out.p.cells
    obtain ⟨q0, q1, q2, q3, q4⟩ := H1.out.q.cells
    go_upto_region 4 with fail
    go_cut [7] (fun t wx => ∃ nb x y z, t = .pointer (some ⟨nb, 0, none⟩) ∧ Hid (OV w wx p q A k D m ∧ PBox wx nb x y z (.slice none 0 0) ∧ Com t1.a t1.b t1.c t2.a t2.b t2.c x y z ∧ w.heap.size + 1 + 1 < nb))
    case first =>
      refine RP.region_treeP (C := fun w' => ∃ x, w' = grow w1 x) (fun _ _ _ => False) [0, 2] (.two 1 (.two 3 (.two 4 (.one 5 .nil) 5 (.one 4 .nil)) 5 (.one 3 (.one 4 .nil))) 5 (.one 1 (.one 3 (.one 4 .nil)))) 6 (fun _ _ _ h => h.elim) (by kernel_rfl) (by kernel_rfl) (grow_start w1) ?_
      simp only [pickL, List.getElem?_cons_zero, List.getElem?_cons_succ]
      repeat (go_big_quiet_step (fail))
      refine wpQuiet_nil ?_
      obtain ⟨w2, hw2⟩ : ∃ w2 : World, w2 = { w1 with drawn := w1.drawn + 1 } := ⟨_, rfl⟩
      have hb2 : Below w1.heap.size w1 w2 := by rw [hw2]; exact (Below.refl _ _).drew
      rw [← hw2]
      clear hw2 p0 p1 p2 p3 p4 q0 q1 q2 q3 q4
      simp only [RP.treeS, atOp, List.getElem?_cons_zero, List.getElem?_cons_succ]
      refine ⟨grow_of_below hb2, ?_, ?_⟩
      · refine RP.p_call 58 #[.agg #[.int .i64 p.a, .int .i64 p.b, .int .i64 p.c, .slice A p.xs.length k]] rfl (by go_simp) ?_
        refine (HL1.out w2 (HI.out.1.below (H1.out.b.trans (hb2.mono H1.out.b.size)))).mono ?_
        rintro e w3 ⟨v3, rfl, -, hcw3⟩
        have hb3 := hb2.trans (hcw3.mono hb2.size)
        refine .inl ⟨_, rfl, ?_⟩
        refine ⟨grow_of_below hb3, ?_, ?_⟩
        · refine RP.p_call 58 #[.agg #[.int .i64 q.a, .int .i64 q.b, .int .i64 q.c, .slice D q.xs.length m]] rfl (by go_simp) ?_
          refine (HL2.out w3 (HI.out.2.below (H1.out.b.trans (hb3.mono H1.out.b.size)))).mono ?_
          rintro e w4 ⟨v4, rfl, -, hcw4⟩
          have hb4 := hb3.trans (hcw4.mono hb3.size)
          refine .inl ⟨_, rfl, ?_⟩
          refine ⟨grow_of_below hb4, ?_, ?_⟩
          · refine RP.p_call 85 #[.agg #[.int .i64 t1.a, .int .i64 t1.b, .int .i64 t1.c, v3], .agg #[.int .i64 t2.a, .int .i64 t2.b, .int .i64 t2.c, v4]] rfl (by go_simp) ?_
            refine (HCO.out v3 v4 w4).mono ?_
            rintro e w5 ⟨x, y, z, rfl, hcm, hcw5⟩
            have hb5 := hb4.trans (hcw5.mono hb4.size)
            refine .inl ⟨_, rfl, ?_⟩
            refine ⟨grow_of_below hb5, ?_⟩
            have hnw6 := PBox.new w5 0 0 0 (.slice none 0 0)
            have hcw6 := below_new w5 (.cells #[.int .i64 0, .int .i64 0, .int .i64 0, .slice none 0 0] 24)
            refine RP.p_val (.pointer (some ⟨(w5).heap.size, 0, none⟩)) ((w5).alloc (.cells #[.int .i64 0, .int .i64 0, .int .i64 0, .slice none 0 0] 24)) rfl (by go_simp) ?_
            obtain ⟨w6, hww6⟩ : ∃ W, W = (w5).alloc (.cells #[.int .i64 0, .int .i64 0, .int .i64 0, .slice none 0 0] 24) := ⟨_, rfl⟩
            rw [← hww6] at hnw6 hcw6 ⊢
            have hb6 := hb5.trans (hcw6.mono hb5.size)
            clear hww6
            refine ⟨grow_of_below hb6, ?_⟩
            have hov := H1.out.keep hb6
            have hlt : w.heap.size + 1 + 1 < (w5).heap.size := Nat.lt_of_lt_of_le (Array.getElem?_eq_some_iff.1 H1.out.r).1 (by first | exact hb2.size | exact hb3.size | exact hb4.size | exact hb5.size)
            have hgr := row_grown w6 (w5).heap.size #[.int .i64 x, .int .i64 y, .int .i64 z, .slice none 0 0]
            have hb0 := (hnw6).row x y z (.slice none 0 0)
            have hfin : OV w ((w6).setRow (w5).heap.size #[.int .i64 x, .int .i64 y, .int .i64 z, .slice none 0 0]) p q A k D m :=
              ⟨(hgr.block _ (Array.getElem?_eq_some_iff.1 hov.p).1 (by simp; omega)).trans hov.p, (hgr.block _ (Array.getElem?_eq_some_iff.1 hov.q).1 (by simp; omega)).trans hov.q, (hgr.block _ (Array.getElem?_eq_some_iff.1 hov.r).1 (by simp; omega)).trans hov.r, Below.grown hov.b hgr hov.b.size (fun g e => by cases e; omega)⟩
            have HFI := Lib.hid (And.intro hfin (And.intro hb0 (And.intro hcm hlt)))
            refine RP.p_skip ((w6).setRow (w5).heap.size #[.int .i64 x, .int .i64 y, .int .i64 z, .slice none 0 0]) rfl (st_pat_run _ _ rfl (hnw6) _ _ _ _ _ _ (by go_simp) (by go_simp)) ?_
            obtain ⟨wE, hwE⟩ : ∃ W, W = (w6).setRow (w5).heap.size #[.int .i64 x, .int .i64 y, .int .i64 z, .slice none 0 0] := ⟨_, rfl⟩
            obtain ⟨nb, hnb⟩ : ∃ n, n = (w5).heap.size := ⟨_, rfl⟩
            rw [← hwE, ← hnb] at HFI
            rw [← hwE]
            rw [← hnb]
            clear hov hlt hgr hb0 hfin hcm hwE hnb
            go_simp
            go_wp2_with fail
            go_meet
            exact ⟨nb, x, y, z, rfl, HFI⟩
          · have hnw5 := PBox.new w4 0 0 0 (.slice none 0 0)
            have hcw5 := below_new w4 (.cells #[.int .i64 0, .int .i64 0, .int .i64 0, .slice none 0 0] 24)
            refine RP.p_val (.pointer (some ⟨(w4).heap.size, 0, none⟩)) ((w4).alloc (.cells #[.int .i64 0, .int .i64 0, .int .i64 0, .slice none 0 0] 24)) rfl (by go_simp) ?_
            obtain ⟨w5, hww5⟩ : ∃ W, W = (w4).alloc (.cells #[.int .i64 0, .int .i64 0, .int .i64 0, .slice none 0 0] 24) := ⟨_, rfl⟩
            rw [← hww5] at hnw5 hcw5 ⊢
            have hb5 := hb4.trans (hcw5.mono hb4.size)
            clear hww5
            refine ⟨grow_of_below hb5, ?_⟩
            refine RP.p_call 85 #[.agg #[.int .i64 t1.a, .int .i64 t1.b, .int .i64 t1.c, v3], .agg #[.int .i64 t2.a, .int .i64 t2.b, .int .i64 t2.c, v4]] rfl (by go_simp) ?_
            refine (HCO.out v3 v4 w5).mono ?_
            rintro e w6 ⟨x, y, z, rfl, hcm, hcw6⟩
            have hb6 := hb5.trans (hcw6.mono hb5.size)
            refine .inl ⟨_, rfl, ?_⟩
            have hn6 := hnw5.keep hcw6
            refine ⟨grow_of_below hb6, ?_⟩
            have hov := H1.out.keep hb6
            have hlt : w.heap.size + 1 + 1 < (w4).heap.size := Nat.lt_of_lt_of_le (Array.getElem?_eq_some_iff.1 H1.out.r).1 (by first | exact hb2.size | exact hb3.size | exact hb4.size | exact hb5.size)
            have hgr := row_grown w6 (w4).heap.size #[.int .i64 x, .int .i64 y, .int .i64 z, .slice none 0 0]
            have hb0 := (hn6).row x y z (.slice none 0 0)
            have hfin : OV w ((w6).setRow (w4).heap.size #[.int .i64 x, .int .i64 y, .int .i64 z, .slice none 0 0]) p q A k D m :=
              ⟨(hgr.block _ (Array.getElem?_eq_some_iff.1 hov.p).1 (by simp; omega)).trans hov.p, (hgr.block _ (Array.getElem?_eq_some_iff.1 hov.q).1 (by simp; omega)).trans hov.q, (hgr.block _ (Array.getElem?_eq_some_iff.1 hov.r).1 (by simp; omega)).trans hov.r, Below.grown hov.b hgr hov.b.size (fun g e => by cases e; omega)⟩
            have HFI := Lib.hid (And.intro hfin (And.intro hb0 (And.intro hcm hlt)))
            refine RP.p_skip ((w6).setRow (w4).heap.size #[.int .i64 x, .int .i64 y, .int .i64 z, .slice none 0 0]) rfl (st_pat_run _ _ rfl (hn6) _ _ _ _ _ _ (by go_simp) (by go_simp)) ?_
            obtain ⟨wE, hwE⟩ : ∃ W, W = (w6).setRow (w4).heap.size #[.int .i64 x, .int .i64 y, .int .i64 z, .slice none 0 0] := ⟨_, rfl⟩
            obtain ⟨nb, hnb⟩ : ∃ n, n = (w4).heap.size := ⟨_, rfl⟩
            rw [← hwE, ← hnb] at HFI
            rw [← hwE]
            rw [← hnb]
            clear hov hlt hgr hb0 hfin hcm hwE hnb
            go_simp
            go_wp2_with fail
            go_meet
            exact ⟨nb, x, y, z, rfl, HFI⟩
        · have hnw4 := PBox.new w3 0 0 0 (.slice none 0 0)
          have hcw4 := below_new w3 (.cells #[.int .i64 0, .int .i64 0, .int .i64 0, .slice none 0 0] 24)
          refine RP.p_val (.pointer (some ⟨(w3).heap.size, 0, none⟩)) ((w3).alloc (.cells #[.int .i64 0, .int .i64 0, .int .i64 0, .slice none 0 0] 24)) rfl (by go_simp) ?_
          obtain ⟨w4, hww4⟩ : ∃ W, W = (w3).alloc (.cells #[.int .i64 0, .int .i64 0, .int .i64 0, .slice none 0 0] 24) := ⟨_, rfl⟩
          rw [← hww4] at hnw4 hcw4 ⊢
          have hb4 := hb3.trans (hcw4.mono hb3.size)
          clear hww4
          refine ⟨grow_of_below hb4, ?_⟩
          refine RP.p_call 58 #[.agg #[.int .i64 q.a, .int .i64 q.b, .int .i64 q.c, .slice D q.xs.length m]] rfl (by go_simp) ?_
          refine (HL2.out w4 (HI.out.2.below (H1.out.b.trans (hb4.mono H1.out.b.size)))).mono ?_
          rintro e w5 ⟨v4, rfl, -, hcw5⟩
          have hb5 := hb4.trans (hcw5.mono hb4.size)
          refine .inl ⟨_, rfl, ?_⟩
          refine ⟨grow_of_below hb5, ?_⟩
          refine RP.p_call 85 #[.agg #[.int .i64 t1.a, .int .i64 t1.b, .int .i64 t1.c, v3], .agg #[.int .i64 t2.a, .int .i64 t2.b, .int .i64 t2.c, v4]] rfl (by go_simp) ?_
          refine (HCO.out v3 v4 w5).mono ?_
          rintro e w6 ⟨x, y, z, rfl, hcm, hcw6⟩
          have hb6 := hb5.trans (hcw6.mono hb5.size)
          refine .inl ⟨_, rfl, ?_⟩
          have hn6 := (hnw4.keep hcw5).keep hcw6
          refine ⟨grow_of_below hb6, ?_⟩
          have hov := H1.out.keep hb6
          have hlt : w.heap.size + 1 + 1 < (w3).heap.size := Nat.lt_of_lt_of_le (Array.getElem?_eq_some_iff.1 H1.out.r).1 (by first | exact hb2.size | exact hb3.size | exact hb4.size | exact hb5.size)
          have hgr := row_grown w6 (w3).heap.size #[.int .i64 x, .int .i64 y, .int .i64 z, .slice none 0 0]
          have hb0 := (hn6).row x y z (.slice none 0 0)
          have hfin : OV w ((w6).setRow (w3).heap.size #[.int .i64 x, .int .i64 y, .int .i64 z, .slice none 0 0]) p q A k D m :=
            ⟨(hgr.block _ (Array.getElem?_eq_some_iff.1 hov.p).1 (by simp; omega)).trans hov.p, (hgr.block _ (Array.getElem?_eq_some_iff.1 hov.q).1 (by simp; omega)).trans hov.q, (hgr.block _ (Array.getElem?_eq_some_iff.1 hov.r).1 (by simp; omega)).trans hov.r, Below.grown hov.b hgr hov.b.size (fun g e => by cases e; omega)⟩
          have HFI := Lib.hid (And.intro hfin (And.intro hb0 (And.intro hcm hlt)))
          refine RP.p_skip ((w6).setRow (w3).heap.size #[.int .i64 x, .int .i64 y, .int .i64 z, .slice none 0 0]) rfl (st_pat_run _ _ rfl (hn6) _ _ _ _ _ _ (by go_simp) (by go_simp)) ?_
          obtain ⟨wE, hwE⟩ : ∃ W, W = (w6).setRow (w3).heap.size #[.int .i64 x, .int .i64 y, .int .i64 z, .slice none 0 0] := ⟨_, rfl⟩
          obtain ⟨nb, hnb⟩ : ∃ n, n = (w3).heap.size := ⟨_, rfl⟩
          rw [← hwE, ← hnb] at HFI
          rw [← hwE]
          rw [← hnb]
          clear hov hlt hgr hb0 hfin hcm hwE hnb
          go_simp
          go_wp2_with fail
          go_meet
          exact ⟨nb, x, y, z, rfl, HFI⟩
      · have hnw3 := PBox.new w2 0 0 0 (.slice none 0 0)
        have hcw3 := below_new w2 (.cells #[.int .i64 0, .int .i64 0, .int .i64 0, .slice none 0 0] 24)
        refine RP.p_val (.pointer (some ⟨(w2).heap.size, 0, none⟩)) ((w2).alloc (.cells #[.int .i64 0, .int .i64 0, .int .i64 0, .slice none 0 0] 24)) rfl (by go_simp) ?_
        obtain ⟨w3, hww3⟩ : ∃ W, W = (w2).alloc (.cells #[.int .i64 0, .int .i64 0, .int .i64 0, .slice none 0 0] 24) := ⟨_, rfl⟩
        rw [← hww3] at hnw3 hcw3 ⊢
        have hb3 := hb2.trans (hcw3.mono hb2.size)
        clear hww3
        refine ⟨grow_of_below hb3, ?_⟩
        refine RP.p_call 58 #[.agg #[.int .i64 p.a, .int .i64 p.b, .int .i64 p.c, .slice A p.xs.length k]] rfl (by go_simp) ?_
        refine (HL1.out w3 (HI.out.1.below (H1.out.b.trans (hb3.mono H1.out.b.size)))).mono ?_
        rintro e w4 ⟨v3, rfl, -, hcw4⟩
        have hb4 := hb3.trans (hcw4.mono hb3.size)
        refine .inl ⟨_, rfl, ?_⟩
        refine ⟨grow_of_below hb4, ?_⟩
        refine RP.p_call 58 #[.agg #[.int .i64 q.a, .int .i64 q.b, .int .i64 q.c, .slice D q.xs.length m]] rfl (by go_simp) ?_
        refine (HL2.out w4 (HI.out.2.below (H1.out.b.trans (hb4.mono H1.out.b.size)))).mono ?_
        rintro e w5 ⟨v4, rfl, -, hcw5⟩
        have hb5 := hb4.trans (hcw5.mono hb4.size)
        refine .inl ⟨_, rfl, ?_⟩
        refine ⟨grow_of_below hb5, ?_⟩
        refine RP.p_call 85 #[.agg #[.int .i64 t1.a, .int .i64 t1.b, .int .i64 t1.c, v3], .agg #[.int .i64 t2.a, .int .i64 t2.b, .int .i64 t2.c, v4]] rfl (by go_simp) ?_
        refine (HCO.out v3 v4 w5).mono ?_
        rintro e w6 ⟨x, y, z, rfl, hcm, hcw6⟩
        have hb6 := hb5.trans (hcw6.mono hb5.size)
        refine .inl ⟨_, rfl, ?_⟩
        have hn6 := ((hnw3.keep hcw4).keep hcw5).keep hcw6
        refine ⟨grow_of_below hb6, ?_⟩
        have hov := H1.out.keep hb6
        have hlt : w.heap.size + 1 + 1 < (w2).heap.size := Nat.lt_of_lt_of_le (Array.getElem?_eq_some_iff.1 H1.out.r).1 (by first | exact hb2.size | exact hb3.size | exact hb4.size | exact hb5.size)
        have hgr := row_grown w6 (w2).heap.size #[.int .i64 x, .int .i64 y, .int .i64 z, .slice none 0 0]
        have hb0 := (hn6).row x y z (.slice none 0 0)
        have hfin : OV w ((w6).setRow (w2).heap.size #[.int .i64 x, .int .i64 y, .int .i64 z, .slice none 0 0]) p q A k D m :=
          ⟨(hgr.block _ (Array.getElem?_eq_some_iff.1 hov.p).1 (by simp; omega)).trans hov.p, (hgr.block _ (Array.getElem?_eq_some_iff.1 hov.q).1 (by simp; omega)).trans hov.q, (hgr.block _ (Array.getElem?_eq_some_iff.1 hov.r).1 (by simp; omega)).trans hov.r, Below.grown hov.b hgr hov.b.size (fun g e => by cases e; omega)⟩
        have HFI := Lib.hid (And.intro hfin (And.intro hb0 (And.intro hcm hlt)))
        refine RP.p_skip ((w6).setRow (w2).heap.size #[.int .i64 x, .int .i64 y, .int .i64 z, .slice none 0 0]) rfl (st_pat_run _ _ rfl (hn6) _ _ _ _ _ _ (by go_simp) (by go_simp)) ?_
        obtain ⟨wE, hwE⟩ : ∃ W, W = (w6).setRow (w2).heap.size #[.int .i64 x, .int .i64 y, .int .i64 z, .slice none 0 0] := ⟨_, rfl⟩
        obtain ⟨nb, hnb⟩ : ∃ n, n = (w2).heap.size := ⟨_, rfl⟩
        rw [← hwE, ← hnb] at HFI
        rw [← hwE]
        rw [← hnb]
        clear hov hlt hgr hb0 hfin hcm hwE hnb
        go_simp
        go_wp2_with fail
        go_meet
        exact ⟨nb, x, y, z, rfl, HFI⟩
    case rest =>
      obtain ⟨nb, x, y, z, rfl, HS⟩ := hcut
      obtain ⟨hbase, b1, b2, b3, b4⟩ := HBS.out.1 HS.out.2.2.1
      have hy0 := HS.out.2.2.1.pb
      obtain ⟨n, rfl⟩ : ∃ n : Nat, x = n := ⟨x.toNat, by have := HS.out.2.2.1.pa; omega⟩
      obtain ⟨M, rfl⟩ : ∃ n : Nat, z = n := ⟨z.toNat, by have := HS.out.2.2.1.pc; omega⟩
      rw [← Int.natCast_mul] at b1
      have hTR := HBS.out.2
      obtain ⟨G, hG⟩ : ∃ G, G = overF (colF p) (colF q) := ⟨_, rfl⟩
      rw [← hG] at hbase hTR
      have HTO := Lib.hid (fun Ax cx wx hx => told_any G n M y hbase (by omega) (by omega) (by omega) hy0 (by omega) Ax cx wx hx)
      have HTZ := Lib.hid hTR
      have hGv : ∀ i j : Nat, G i j = if colF p i j ≠ 0 then colF p i j else colF q i j := fun i j => by rw [hG]; rfl
      have HGV := Lib.hid hGv
      have R3 := Lib.hid (show ∃ v, RW w wc wc.heap.size w.heap.size (w.heap.size + 1 + 1) nb p.a p.b p.c (.slice A p.xs.length k) (n : Int) y (M : Int) v (tabN G n (0 * n)) ∧ Q2 wc wc.heap.size nb (w.heap.size + 1) p q A D m from by
        have hb := HS.out.1.b
        have hnb := (Array.getElem?_eq_some_iff.1 HS.out.2.1).1
        have hlt := HS.out.2.2.2
        rw [Nat.zero_mul]
        exact ⟨_, ⟨HS.out.1.p, HS.out.1.r, HS.out.2.1, OwnI.nil _ _, hb, by omega, by omega, by omega, by omega, by omega, by omega, by omega, by omega, hb.size⟩, HS.out.1.q, by omega, by omega, PIn.from HI.out.1 hb hb.size (by omega), PIn.from HI.out.2 hb hb.size (by omega)⟩)
      obtain ⟨B, hB⟩ : ∃ B, B = wc.heap.size := ⟨_, rfl⟩
      rw [← hB] at R3
      obtain ⟨pb, hpb⟩ : ∃ b, b = w.heap.size := ⟨_, rfl⟩
      obtain ⟨qb, hqb⟩ : ∃ b, b = w.heap.size + 1 := ⟨_, rfl⟩
      obtain ⟨rb, hrb⟩ : ∃ b, b = w.heap.size + 1 + 1 := ⟨_, rfl⟩
      rw [← hrb, ← hqb, ← hpb] at R3
      rw [← hrb, ← hqb, ← hpb]
      clear hbase hG hGv hTR HBS HS HCO HL1 HL2 hB hpb hqb hrb p0 p1 p2 p3 p4 q0 q1 q2 q3 q4 HI H1
      go_upto_region 6 with fail
      go_loopw [8] (fun t wr => ∃ K : Nat, t = .int .i64 K ∧ K ≤ M ∧ Hid (∃ v, RW w wr B pb rb nb p.a p.b p.c (.slice A p.xs.length k) (n : Int) y (M : Int) v (tabN G n (K * n)) ∧ Q2 wr B nb qb p q A D m)) (fun t _ => M - (intOf t).toNat)
      case atStart => exact ⟨0, rfl, by omega, R3⟩
      case round =>
        clear R3
        obtain ⟨K, rfl, hK, hr⟩ := hrel
        obtain ⟨v, hT, hQ⟩ := hr.out
        obtain ⟨o0, o1, o2, o3, o4⟩ := hT.o.cells
        by_cases hlt : K < M
        · have dkm : decide ((K : Int) < (M : Int)) = true := decide_eq_true (by omega)
          have R0 := Lib.hid (show ∃ v, RW w wr B pb rb nb p.a p.b p.c (.slice A p.xs.length k) (n : Int) y (M : Int) v (tabN G n (K * n + 0)) ∧ Q2 wr B nb qb p q A D m from ⟨v, hT, hQ⟩)
          clear hr hT hQ
          go_upto_region 9 with fail
          go_loopw [9] (fun t wq => ∃ i : Nat, t = .int .i64 i ∧ i ≤ n ∧ Hid (∃ v, RW w wq B pb rb nb p.a p.b p.c (.slice A p.xs.length k) (n : Int) y (M : Int) v (tabN G n (K * n + i)) ∧ Q2 wq B nb qb p q A D m)) (fun t _ => n - (intOf t).toNat)
          case atStart => exact ⟨0, rfl, by omega, R0⟩
          case round =>
            clear R0 o0 o1 o2 o3 o4 v
            obtain ⟨i, rfl, hi, hq⟩ := hrel
            obtain ⟨v, hT, hQ⟩ := hq.out
            obtain ⟨p0, p1, p2, p3, p4⟩ := hT.p.cells
            obtain ⟨o0, o1, o2, o3, o4⟩ := hT.o.cells
            by_cases hil : i < n
            · have din : decide ((i : Int) < (n : Int)) = true := decide_eq_true (by omega)
              have hlen : K * n + i ≤ 1000000 - 1 := by
                have h1 : (K + 1) * n ≤ M * n := Nat.mul_le_mul_right n (by omega)
                rw [Nat.add_mul, Nat.one_mul, Nat.mul_comm M n] at h1
                omega
              have HTN := Lib.hid (tabN_step (F := G) (k := K) hil)
              have HLM := Lib.hid (show (tabN G n (K * n + i)).length ≤ 1000000 by rw [tabN_length]; omega)
              have HGI := Lib.hid (HGV.out i K)
              have HC1 := Lib.hid (HF1.out (i : Int) (K : Int) (by omega) (by omega) (by omega) (by omega) wr (hQ.2.2.2.1.in hT.sz))
              have HC2 := Lib.hid (fun w hL => HF2.out (i : Int) (K : Int) (by omega) (by omega) (by omega) (by omega) w hL)
              obtain ⟨z1, hz1⟩ : ∃ z1, z1 = colF p i K := ⟨_, rfl⟩
              obtain ⟨z2, hz2⟩ : ∃ z1, z1 = colF q i K := ⟨_, rfl⟩
              rw [← hz1] at HC1 HGI
              rw [← hz2] at HC2 HGI
              clear hq hz1 hz2
              go_wp2_with fail
              refine HC1.out.mono ?_
              rintro e w3 ⟨rfl, hb3⟩
              have HT3 := Lib.hid (And.intro (hT.keep hb3) (hQ.keep hb3 hT.sz))
              clear hT hQ hb3 p0 p1 p2 p3 p4 o0 o1 o2 o3 o4 HC1
              by_cases hzz : z1 = 0
              · subst hzz
                have HGZ := Lib.hid (show G i K = z2 by rw [HGI.out, if_neg (by simp)])
                obtain ⟨q0, q1, q2, q3, q4⟩ := HT3.out.2.1.cells
                clear HGI
                go_wp2_with fail
                refine (HC2.out w3 (HT3.out.2.2.2.2.2.in HT3.out.1.sz)).mono ?_
                rintro e w4 ⟨rfl, hb4⟩
                have HT4 := Lib.hid (And.intro (HT3.out.1.keep hb4) (HT3.out.2.keep hb4 HT3.out.1.sz))
                clear HT3 hb4 q0 q1 q2 q3 q4 HC2
                obtain ⟨o0, o1, o2, o3, o4⟩ := HT4.out.1.o.cells
                go_wp2_with (at_builtin; refine append_i64 (.tmp 46) (.tmp 48) rfl rfl B _ _ z2 w4 rfl rfl HT4.out.1.own rfl HLM.out HT4.out.1.sz ?_)
                intro v' w6 ho6 hg6 hd6
                have hb6 : Below B w4 w6 := (Below.refl B w4).grown hg6 HT4.out.1.sz (fun g e => (HT4.out.1.own.lt' g e).1)
                obtain ⟨A6, n6, hv6, -⟩ := ho6.isL
                obtain ⟨m6, hm6⟩ : ∃ m6, m6 = (tabN G n (K * n + i) ++ [z2]).length := ⟨_, rfl⟩
                rw [← hm6] at hv6
                clear hm6
                subst hv6
                have T6 := HT4.out.1.step hb6 ho6
                rw [← HGZ.out, ← HTN.out] at T6
                have HT6 := Lib.hid (And.intro T6 (HT4.out.2.step hb6 (.slice A6 m6 n6)))
                have z1' := (hb6.cell (p := ⟨nb, 3, none⟩) HT4.out.1.oB).trans o3
                have z2' : w6.frozen? ⟨nb, 3, none⟩ = false := frozen_of_row w6 nb 3 _ _ ((hb6.block _ HT4.out.1.oB).trans HT4.out.1.o)
                clear T6 hb6 ho6 hg6 hd6 o0 o1 o2 o3 o4 HT4
                go_wp2
                go_roundw
                case rel => exact ⟨i + 1, by go_num, by omega, Lib.hid ⟨_, HT6.out⟩⟩
                case measure => simp [intOf]; omega
              · have dz : (z1 == 0) = false := by rw [beq_eq_false_iff_ne]; exact hzz
                have HGZ := Lib.hid (show G i K = z1 by rw [HGI.out, if_pos hzz])
                clear HGI hzz HC2
                obtain ⟨o0, o1, o2, o3, o4⟩ := HT3.out.1.o.cells
                go_wp2_with (at_builtin; refine append_i64 (.tmp 46) (.tmp 48) rfl rfl B _ _ z1 w3 rfl rfl HT3.out.1.own rfl HLM.out HT3.out.1.sz ?_)
                intro v' w6 ho6 hg6 hd6
                have hb6 : Below B w3 w6 := (Below.refl B w3).grown hg6 HT3.out.1.sz (fun g e => (HT3.out.1.own.lt' g e).1)
                obtain ⟨A6, n6, hv6, -⟩ := ho6.isL
                obtain ⟨m6, hm6⟩ : ∃ m6, m6 = (tabN G n (K * n + i) ++ [z1]).length := ⟨_, rfl⟩
                rw [← hm6] at hv6
                clear hm6
                subst hv6
                have T6 := HT3.out.1.step hb6 ho6
                rw [← HGZ.out, ← HTN.out] at T6
                have HT6 := Lib.hid (And.intro T6 (HT3.out.2.step hb6 (.slice A6 m6 n6)))
                have z1' := (hb6.cell (p := ⟨nb, 3, none⟩) HT3.out.1.oB).trans o3
                have z2' : w6.frozen? ⟨nb, 3, none⟩ = false := frozen_of_row w6 nb 3 _ _ ((hb6.block _ HT3.out.1.oB).trans HT3.out.1.o)
                clear T6 hb6 ho6 hg6 hd6 o0 o1 o2 o3 o4 HT3
                go_wp2
                go_roundw
                case rel => exact ⟨i + 1, by go_num, by omega, Lib.hid ⟨_, HT6.out⟩⟩
                case measure => simp [intOf]; omega
            · obtain rfl : n = i := by omega
              have din : decide ((n : Int) < (n : Int)) = false := decide_eq_false (by omega)
              have R2 := Lib.hid (show ∃ v, RW w wr B pb rb nb p.a p.b p.c (.slice A p.xs.length k) (n : Int) y (M : Int) v (tabN G n ((K + 1) * n)) ∧ Q2 wr B nb qb p q A D m from by rw [Nat.add_mul, Nat.one_mul]; exact ⟨v, hT, hQ⟩)
              clear hq hT hQ
              go_wp2
              go_roundw
              case rel => exact ⟨K + 1, by go_num, by omega, R2⟩
              case measure => simp [intOf]; omega
        · obtain rfl : M = K := by omega
          have dkm : decide ((M : Int) < (M : Int)) = false := decide_eq_false (by omega)
          have HTE := Lib.hid hT
          clear hr hT hQ hlt
          obtain ⟨A1, n1, rfl, hL1⟩ := HTE.out.own.isL
          obtain ⟨l1, hl1⟩ : ∃ l1, l1 = (tabN G n (M * n)).length := ⟨_, rfl⟩
          have HTO1 := Lib.hid (HTO.out A1 n1 wr hL1)
          rw [← hl1] at HTE HTO1 o3
          clear hL1 hl1
          go_wp2_with fail
          refine HTO1.out.mono ?_
          rintro e w5 ⟨v5, rfl, ho5, hb5⟩
          rw [← HTZ.out.1] at ho5 ⊢
          rw [← HTZ.out.2]
          obtain ⟨A5, n5, rfl, -⟩ := ho5.isL
          have hr5 := HTE.out.r.keep hb5
          have HP := Lib.hid (put_ret hr5 (HTE.out.below.trans (hb5.mono HTE.out.below.size)) HTE.out.wr' R _ ho5 HTE.out.below.size (Array.getElem?_eq_some_iff.1 HTE.out.r).1)
          obtain ⟨r0, r1, r2, r3, r4⟩ := PBox.cells hr5
          have f0 : (w5).frozen? ⟨rb, 0, none⟩ = false := frozen_of_row (w5) (rb) 0 _ _ hr5
          have f1 : (w5).frozen? ⟨rb, 1, none⟩ = false := frozen_of_row (w5) (rb) 1 _ _ hr5
          have f2 : (w5).frozen? ⟨rb, 2, none⟩ = false := frozen_of_row (w5) (rb) 2 _ _ hr5
          have f3 : (w5).frozen? ⟨rb, 3, none⟩ = false := frozen_of_row (w5) (rb) 3 _ _ hr5
          clear ho5 hb5 hr5 HTO1 HTE HTO o0 o1 o2 o3 o4
          go_wp2
          refine bodyPost_ret (v := .tuple #[.agg #[.int .i64 R.a, .int .i64 R.b, .int .i64 R.c, .slice A5 R.xs.length n5], .int .i64 Y]) (ret_pat2 rfl rfl rfl HP.out.1) rfl ?_
          exact ⟨_, rfl, HP.out.2⟩
  · have d1 : (Z == 0) = false := by rw [beq_eq_false_iff_ne]; exact hz
    have d2 : (Z != 0) = true := by rw [bne_iff_ne]; exact hz
    have HRY := Lib.hid (show R = zeroP ∧ Y = Z from ⟨by rw [H01.out.2.1, if_pos hz], by rw [H01.out.2.2, if_pos hz]⟩)
    have HP := Lib.hid (put_zero H1.out.r H1.out.b (by omega))
    obtain ⟨r0, r1, r2, r3, r4⟩ := PBox.cells H1.out.r
    have f0 : (w1).frozen? ⟨w.heap.size + 1 + 1, 0, none⟩ = false := frozen_of_row (w1) (w.heap.size + 1 + 1) 0 _ _ H1.out.r
    have f1 : (w1).frozen? ⟨w.heap.size + 1 + 1, 1, none⟩ = false := frozen_of_row (w1) (w.heap.size + 1 + 1) 1 _ _ H1.out.r
    have f2 : (w1).frozen? ⟨w.heap.size + 1 + 1, 2, none⟩ = false := frozen_of_row (w1) (w.heap.size + 1 + 1) 2 _ _ H1.out.r
    have f3 : (w1).frozen? ⟨w.heap.size + 1 + 1, 3, none⟩ = false := frozen_of_row (w1) (w.heap.size + 1 + 1) 3 _ _ H1.out.r
    clear hz H01 H1
    go_wp2
    refine bodyPost_ret (v := .tuple #[.agg #[.int .i64 0, .int .i64 0, .int .i64 0, .slice none 0 0], .int .i64 Z]) (ret_pat2 rfl rfl rfl HP.out.1) rfl ?_
    rw [HRY.out.1, HRY.out.2]
    exact OutP.zero HP.out.2
end Go.Proofs.YtlinldbbhdpgcaaGreatDoor
