/-
  THE WALK OF THE LAW TopTime: it returns true.
-/
import Derived.Test.YtplgndllfkceiaaDoorCalL
import Derived.Test.YtplgndllfkceiaaDoorCalN
import Derived.Test.YtplgndllfkceiaaDoorTimM
import Derived.Test.YtplgndllfkceiaaDoorShrA
import Derived.Test.YtplgndllfkceiaaDoorShrN
import Derived.Test.YtplgndllfkceiaaDoorKnown
import Derived.Deep.DeepCutAuto
namespace Go.Proofs.YtplgndllfkceiaaDoor
open Go.RowKit
attribute [local go_sem] grow_cell grow_frozen
theorem CalPre.below {w w' : World} {k : Cal} (hb : Below w.heap.size w w') (h : CalPre w k) : CalPre w' k := ⟨h.l1.below hb, h.l2.below hb, h.s1, h.s2, h.e1, h.e2⟩
/-- What the law's own memory holds in a world: the calendar and the hours, and the lists that came in. -/
def TM (w w' : World) (K : Cal) (F B T M R : Int) (A : Option Addr) (n : Nat) (ws : List Int) : Prop :=
  Below w.heap.size w w' ∧ CalPre w' K ∧ Box4 w' w.heap.size K ∧ Row w' (w.heap.size + 1) [.int .i64 F, .int .i64 B, .int .i64 T, .int .i64 M, .int .i64 R] ∧ IsL w' A n ws
section
variable {w w1 w2 : World} {K : Cal} {F B T M R : Int} {A : Option Addr} {n : Nat} {ws : List Int}
theorem TM.step (h : TM w w1 K F B T M R A n ws) (hb : Below w1.heap.size w1 w2) : TM w w2 K F B T M R A n ws := by
  obtain ⟨h1, h2, h3, h4, h5⟩ := h
  exact ⟨h1.trans (hb.mono h1.size), h2.below hb, h3.keep hb, h4.keep hb, h5.below hb⟩
theorem TM.cells (h : TM w w1 K F B T M R A n ws) : w1.cell? ⟨w.heap.size, 0, none⟩ = some (.int .i64 K.s) ∧ w1.cell? ⟨w.heap.size, 1, none⟩ = some (.int .i64 K.e) ∧ w1.cell? ⟨w.heap.size, 2, none⟩ = some (.slice K.A1 K.n1 K.c1) ∧ w1.cell? ⟨w.heap.size, 3, none⟩ = some (.slice K.A2 K.n2 K.c2) ∧
    w1.cell? ⟨w.heap.size + 1, 0, none⟩ = some (.int .i64 F) ∧ w1.cell? ⟨w.heap.size + 1, 1, none⟩ = some (.int .i64 B) ∧ w1.cell? ⟨w.heap.size + 1, 2, none⟩ = some (.int .i64 T) ∧ w1.cell? ⟨w.heap.size + 1, 3, none⟩ = some (.int .i64 M) ∧ w1.cell? ⟨w.heap.size + 1, 4, none⟩ = some (.int .i64 R) ∧ w.heap.size + 1 < w1.heap.size := by
  obtain ⟨-, -, h3, h4, -⟩ := h
  exact ⟨h3.1, h3.2.1, h3.2.2.1, h3.2.2.2.1, h4.get 0 (by simp), h4.get 1 (by simp), h4.get 2 (by simp), h4.get 3 (by simp), h4.get 4 (by simp), h4.lt⟩
theorem TM.start (hk : CalPre w K) (hx : IsL w A n ws) (t u : TypeId) : TM w ((w.alloc (.cells #[.int .i64 K.s, .int .i64 K.e, .slice K.A1 K.n1 K.c1, .slice K.A2 K.n2 K.c2] t)).alloc (.cells #[.int .i64 F, .int .i64 B, .int .i64 T, .int .i64 M, .int .i64 R] u)) K F B T M R A n ws := by
  have hb : Below w.heap.size w ((w.alloc (.cells #[.int .i64 K.s, .int .i64 K.e, .slice K.A1 K.n1 K.c1, .slice K.A2 K.n2 K.c2] t)).alloc (.cells #[.int .i64 F, .int .i64 B, .int .i64 T, .int .i64 M, .int .i64 R] u)) := (by repeat' (first | (with_reducible exact Below.refl _ _) | (with_reducible assumption) | (with_reducible refine below_drewN ?_ _) | (with_reducible refine below_step (by assumption) ?_ ?_) | (with_reducible refine Below.alloc ?_ ?_ _) | (with_reducible refine Below.setCell ?_ ?_ _) | (with_reducible refine Below.drew ?_) | go_size | (exact Below.size (by assumption)) | (refine Nat.le_trans (Below.size (by assumption)) ?_)))
  refine ⟨hb, hk.below hb, (Box4.new w K t).keep ((Below.refl _ _).alloc (Nat.le_refl _) _), ?_, hx.below hb⟩
  have := Row.new (w.alloc (.cells #[.int .i64 K.s, .int .i64 K.e, .slice K.A1 K.n1 K.c1, .slice K.A2 K.n2 K.c2] t)) #[.int .i64 F, .int .i64 B, .int .i64 T, .int .i64 M, .int .i64 R] u
  rwa [World.size_alloc] at this
end
set_option maxRecDepth 100000 in
set_option maxHeartbeats 8000000 in
theorem topTime_walk (K : Cal) (F B T M R : Int) (A : Option Addr) (n c : Nat) (ws : List Int) (g1 : -9223372036854775808 ≤ M) (g2 : M ≤ 9223372036854775807) (w : World) (hk : CalPre w K) (hx : IsL w A n ws) :
    Calls Tryd.prog 3 #[K.v, .agg #[.int .i64 F, .int .i64 B, .int .i64 T, .int .i64 M, .int .i64 R], .slice A n c] w fun e w' => e = .returned (.bool true) ∧ Below w.heap.size w w' := by
  obtain ⟨x, hxx⟩ : ∃ x, cerr K = x := ⟨_, rfl⟩
  have HX := Lib.hid hxx
  have hci : ¬ (100 < K.n1 ∨ 200 < K.n2) → ∀ w', CalPre w' K → CalIn w' K := fun h w' hp => hp.ok h
  have HC := Lib.hid hci
  have T0 := Lib.hid (TM.start (F := F) (B := B) (T := T) (M := M) (R := R) hk hx 24 26)
  obtain ⟨cb, hcb⟩ : ∃ cb, (decide (100 < K.n1) || decide (200 < K.n2)) = cb := ⟨_, rfl⟩
  have CC := Lib.hid hcb
  clear hxx hk hx hci hcb
  obtain ⟨s, e, A1, n1, m1, A2, n2, m2, ls, ld⟩ := K
  simp only [Cal.v]
  cases cb
  case true =>
    as_aux_lemma =>
      go_enter Tryd.func3, Tryd.ntmps3
      go_wp2_with fail
      refine (fm270 _).mono ?_
      rintro e' w1 ⟨rfl, hb1⟩
      have T1 := Lib.hid (T0.out.step hb1)
      clear hb1
      obtain ⟨q0, q1, q2, q3, q4, q5, q6, q7, q8, z0⟩ := T1.out.cells
      go_wp2_with fail
      refine (many_any ⟨s, e, A1, n1, m1, A2, n2, m2, ls, ld⟩ _).mono ?_
      rw [CC.out]
      rintro e' w2 ⟨rfl, hb2⟩
      have T2 := Lib.hid (T1.out.step hb2)
      clear hb2 q0 q1 q2 q3 q4 q5 q6 q7 q8 z0
      obtain ⟨q0, q1, q2, q3, q4, q5, q6, q7, q8, z0⟩ := T2.out.cells
      go_wp2
      go_ret
      exact ⟨rfl, T2.out.1⟩
  have HI : Hid (∀ w', CalPre w' ⟨s, e, A1, n1, m1, A2, n2, m2, ls, ld⟩ → CalIn w' ⟨s, e, A1, n1, m1, A2, n2, m2, ls, ld⟩) := Lib.hid (HC.out (by have := CC.out; simp at this ⊢; omega))
  clear HC
  by_cases c1 : 100 < n
  case pos =>
    as_aux_lemma =>
    go_enter Tryd.func3, Tryd.ntmps3
    go_wp2_with fail
    refine (fm270 _).mono ?_
    rintro e' w1 ⟨rfl, hb1⟩
    have T1 := Lib.hid (T0.out.step hb1)
    clear hb1
    obtain ⟨q0, q1, q2, q3, q4, q5, q6, q7, q8, z0⟩ := T1.out.cells
    go_wp2_with fail
    refine (many_any ⟨s, e, A1, n1, m1, A2, n2, m2, ls, ld⟩ _).mono ?_
    rw [CC.out]
    rintro e' w2 ⟨rfl, hb2⟩
    have T2 := Lib.hid (T1.out.step hb2)
    clear hb2 q0 q1 q2 q3 q4 q5 q6 q7 q8 z0
    obtain ⟨q0, q1, q2, q3, q4, q5, q6, q7, q8, z0⟩ := T2.out.cells
    go_wp2
    go_ret
    exact ⟨rfl, T2.out.1⟩
  have d1 : decide (100 < n) = false := decide_eq_false c1
  by_cases c2 : x = 0
  case neg =>
    as_aux_lemma =>
      have cx := errne c2
      clear c2
      go_enter Tryd.func3, Tryd.ntmps3
      go_wp2_with fail
      refine (fm270 _).mono ?_
      rintro e' w1 ⟨rfl, hb1⟩
      have T1 := Lib.hid (T0.out.step hb1)
      clear hb1
      obtain ⟨q0, q1, q2, q3, q4, q5, q6, q7, q8, z0⟩ := T1.out.cells
      go_wp2_with fail
      refine (many_any ⟨s, e, A1, n1, m1, A2, n2, m2, ls, ld⟩ _).mono ?_
      rw [CC.out]
      rintro e' w2 ⟨rfl, hb2⟩
      have T2 := Lib.hid (T1.out.step hb2)
      clear hb2 q0 q1 q2 q3 q4 q5 q6 q7 q8 z0
      obtain ⟨q0, q1, q2, q3, q4, q5, q6, q7, q8, z0⟩ := T2.out.cells
      go_wp2_with fail
      refine (validate_any ⟨s, e, A1, n1, m1, A2, n2, m2, ls, ld⟩ x HX.out _ (HI.out _ T2.out.2.1)).mono ?_
      rintro e' w3 ⟨rfl, hb3⟩
      have T3 := Lib.hid (T2.out.step hb3)
      clear hb3 q0 q1 q2 q3 q4 q5 q6 q7 q8 z0
      obtain ⟨q0, q1, q2, q3, q4, q5, q6, q7, q8, z0⟩ := T3.out.cells
      go_wp2
      go_ret
      exact ⟨rfl, T3.out.1⟩
  subst c2
  obtain ⟨ra, ea, ha⟩ : ∃ x z, wrk ⟨s, e, A1, n1, m1, A2, n2, m2, ls, ld⟩ F B = (x, z) := ⟨_, _, rfl⟩
  obtain ⟨rb, eb, hb⟩ : ∃ x z, wrk ⟨s, e, A1, n1, m1, A2, n2, m2, ls, ld⟩ B T = (x, z) := ⟨_, _, rfl⟩
  obtain ⟨rc, ec, hc⟩ : ∃ x z, wrk ⟨s, e, A1, n1, m1, A2, n2, m2, ls, ld⟩ F T = (x, z) := ⟨_, _, rfl⟩
  obtain ⟨t, et, ht⟩ : ∃ x z, aftR ⟨s, e, A1, n1, m1, A2, n2, m2, ls, ld⟩ F M = (x, z) := ⟨_, _, rfl⟩
  have EA := Lib.hid ha
  have EB := Lib.hid hb
  have EC := Lib.hid hc
  have ET := Lib.hid ht
  clear ha hb hc ht
  go_enter Tryd.func3, Tryd.ntmps3
  go_wp2_with fail
  refine (fm270 _).mono ?_
  rintro e' w1 ⟨rfl, hb1⟩
  have T1 := Lib.hid (T0.out.step hb1)
  clear hb1
  obtain ⟨q0, q1, q2, q3, q4, q5, q6, q7, q8, z0⟩ := T1.out.cells
  go_wp2_with fail
  refine (many_any ⟨s, e, A1, n1, m1, A2, n2, m2, ls, ld⟩ _).mono ?_
  rw [CC.out]
  rintro e' w2 ⟨rfl, hb2⟩
  have T2 := Lib.hid (T1.out.step hb2)
  clear hb2 q0 q1 q2 q3 q4 q5 q6 q7 q8 z0
  obtain ⟨q0, q1, q2, q3, q4, q5, q6, q7, q8, z0⟩ := T2.out.cells
  go_wp2_with fail
  refine (validate_any ⟨s, e, A1, n1, m1, A2, n2, m2, ls, ld⟩ 0 HX.out _ (HI.out _ T2.out.2.1)).mono ?_
  rintro e' w3 ⟨rfl, hb3⟩
  have T3 := Lib.hid (T2.out.step hb3)
  clear hb3 q0 q1 q2 q3 q4 q5 q6 q7 q8 z0
  obtain ⟨q0, q1, q2, q3, q4, q5, q6, q7, q8, z0⟩ := T3.out.cells
  go_wp2_with fail
  refine (working_any ⟨s, e, A1, n1, m1, A2, n2, m2, ls, ld⟩ F B ra ea EA.out _ (HI.out _ T3.out.2.1)).mono ?_
  rintro e' w4 ⟨rfl, hb4⟩
  have T4 := Lib.hid (T3.out.step hb4)
  clear hb4 q0 q1 q2 q3 q4 q5 q6 q7 q8 z0
  obtain ⟨q0, q1, q2, q3, q4, q5, q6, q7, q8, z0⟩ := T4.out.cells
  go_wp2_with fail
  refine (working_any ⟨s, e, A1, n1, m1, A2, n2, m2, ls, ld⟩ B T rb eb EB.out _ (HI.out _ T4.out.2.1)).mono ?_
  rintro e' w5 ⟨rfl, hb5⟩
  have T5 := Lib.hid (T4.out.step hb5)
  clear hb5 q0 q1 q2 q3 q4 q5 q6 q7 q8 z0
  obtain ⟨q0, q1, q2, q3, q4, q5, q6, q7, q8, z0⟩ := T5.out.cells
  go_wp2_with fail
  refine (working_any ⟨s, e, A1, n1, m1, A2, n2, m2, ls, ld⟩ F T rc ec EC.out _ (HI.out _ T5.out.2.1)).mono ?_
  rintro e' w6 ⟨rfl, hb6⟩
  have T6 := Lib.hid (T5.out.step hb6)
  clear hb6 q0 q1 q2 q3 q4 q5 q6 q7 q8 z0
  obtain ⟨q0, q1, q2, q3, q4, q5, q6, q7, q8, z0⟩ := T6.out.cells
  go_upto_region 9 with fail
  go_cut [93] (fun s wx => s = .bool false ∧ wx = w6)
  case first =>
    as_aux_lemma =>
      rcases wrk_add HX.out EA.out EB.out EC.out with h | ⟨h, rfl⟩ | ⟨rfl, rfl, rfl, h1, h2, h3, h4, rfl⟩
      · go_wp2_with fail
        go_meet
        exact ⟨rfl, rfl⟩
      · go_wp2_with fail
        go_meet
        exact ⟨rfl, rfl⟩
      · have hbe : (ra + rb == ra + rb) = true := by simp
        go_wp2_with fail
        go_meet
        exact ⟨rfl, rfl⟩
  case rest =>
    obtain ⟨rfl, rfl⟩ := hcut
    go_wp2_with fail
    refine (after_any ⟨s, e, A1, n1, m1, A2, n2, m2, ls, ld⟩ F M t et ET.out g1 g2 _ (HI.out _ T6.out.2.1)).mono ?_
    rintro e' w7 ⟨rfl, hb7⟩
    have T7 := Lib.hid (T6.out.step hb7)
    clear hb7 q0 q1 q2 q3 q4 q5 q6 q7 q8 z0
    obtain ⟨q0, q1, q2, q3, q4, q5, q6, q7, q8, z0⟩ := T7.out.cells
    by_cases c3 : et = 0
    case neg =>
      as_aux_lemma =>
        have e3 : (et == 0) = false := by rw [beq_eq_false_iff_ne]; exact c3
        go_wp2
        go_ret
        exact ⟨rfl, T7.out.1⟩
    subst c3
    obtain ⟨a0, a1, hL⟩ := (aftR_least HX.out ET.out).1 rfl
    have LE := Lib.hid hL
    obtain ⟨v1, v2, mm0, mm1⟩ := wrk_least HX.out a0 hL
    have V1 := Lib.hid v1
    have V2 := Lib.hid v2
    have t0 : F ≤ t := hL.1
    have t1 : t ≤ 2880000 := hL.2.1
    have dt : decide (t < F) = false := decide_eq_false (by omega)
    have hmm : (M == M) = true := by simp
    clear hL v1 v2
    go_wp2_with fail
    refine (working_any ⟨s, e, A1, n1, m1, A2, n2, m2, ls, ld⟩ F t M 0 V1.out _ (HI.out _ T7.out.2.1)).mono ?_
    rintro e' w8 ⟨rfl, hb8⟩
    have T8 := Lib.hid (T7.out.step hb8)
    clear hb8 q0 q1 q2 q3 q4 q5 q6 q7 q8 z0
    obtain ⟨q0, q1, q2, q3, q4, q5, q6, q7, q8, z0⟩ := T8.out.cells
    go_upto_if 129 with fail
    go_cut [] (fun wx => TM w wx ⟨s, e, A1, n1, m1, A2, n2, m2, ls, ld⟩ F B T M R A n ws)
    case first =>
      as_aux_lemma =>
        by_cases hM : 0 < M
        · have hm1 : (M - 1 == M - 1) = true := by simp
          go_wp2_with fail
          refine (working_any ⟨s, e, A1, n1, m1, A2, n2, m2, ls, ld⟩ F (t - 1) (M - 1) 0 (V2.out hM) _ (HI.out _ T8.out.2.1)).mono ?_
          rintro e' w9 ⟨rfl, hb9⟩
          have T9 := Lib.hid (T8.out.step hb9)
          clear hb9 q0 q1 q2 q3 q4 q5 q6 q7 q8 z0
          obtain ⟨q0, q1, q2, q3, q4, q5, q6, q7, q8, z0⟩ := T9.out.cells
          go_wp2_with fail
          go_meet
          exact T9.out
        · have dM : decide (0 < M) = false := decide_eq_false hM
          go_wp2_with fail
          go_meet
          exact T8.out
    case rest =>
      clear q0 q1 q2 q3 q4 q5 q6 q7 q8 z0
      have T9 := Lib.hid hcut
      clear hcut
      obtain ⟨q0, q1, q2, q3, q4, q5, q6, q7, q8, z0⟩ := T9.out.cells
      go_upto_region 21 with fail
      go_cut [155] (fun y wx => ∃ b : Bool, y = .bool b ∧ (b = true → 0 ≤ R ∧ R ≤ 2880000) ∧ TM w wx ⟨s, e, A1, n1, m1, A2, n2, m2, ls, ld⟩ F B T M R A n ws)
      case first =>
        as_aux_lemma =>
          by_cases hR : 0 ≤ R
          · go_wp2_with fail
            go_meet
            exact ⟨_, rfl, fun h => ⟨hR, by simpa using h⟩, T9.out⟩
          · have dR : decide (0 ≤ R) = false := decide_eq_false hR
            go_wp2_with fail
            go_meet
            exact ⟨false, rfl, fun h => by simp at h, T9.out⟩
      case rest =>
      obtain ⟨b, rfl, hbR, hT⟩ := hcut
      clear q0 q1 q2 q3 q4 q5 q6 q7 q8 z0
      have T9 := Lib.hid hT
      have HBR := Lib.hid hbR
      clear hT hbR
      obtain ⟨q0, q1, q2, q3, q4, q5, q6, q7, q8, z0⟩ := T9.out.cells
      go_upto_if 155 with fail
      go_cut [] (fun wx => TM w wx ⟨s, e, A1, n1, m1, A2, n2, m2, ls, ld⟩ F B T M R A n ws)
      case first =>
        as_aux_lemma =>
          cases b
          case true =>
            as_aux_lemma =>
              obtain ⟨r0, r1⟩ := HBR.out rfl
              obtain ⟨u, f, hu⟩ : ∃ x z, aftR ⟨s, e, A1, n1, m1, A2, n2, m2, ls, ld⟩ t R = (x, z) := ⟨_, _, rfl⟩
              obtain ⟨v, g, hv⟩ : ∃ x z, aftR ⟨s, e, A1, n1, m1, A2, n2, m2, ls, ld⟩ F (M + R) = (x, z) := ⟨_, _, rfl⟩
              obtain ⟨rfl, rfl⟩ := aft_aft HX.out ET.out r0 hu hv
              have HU := Lib.hid hu
              have HV := Lib.hid hv
              have hff : (f == f) = true := by simp
              have huu : (u == u) = true := by simp
              clear hu hv
              go_wp2_with fail
              refine (after_any ⟨s, e, A1, n1, m1, A2, n2, m2, ls, ld⟩ t R u f HU.out (by omega) (by omega) _ (HI.out _ T9.out.2.1)).mono ?_
              rintro e' w10 ⟨rfl, hb10⟩
              have T10 := Lib.hid (T9.out.step hb10)
              clear hb10 q0 q1 q2 q3 q4 q5 q6 q7 q8 z0
              obtain ⟨q0, q1, q2, q3, q4, q5, q6, q7, q8, z0⟩ := T10.out.cells
              go_wp2_with fail
              refine (after_any ⟨s, e, A1, n1, m1, A2, n2, m2, ls, ld⟩ F (M + R) u f HV.out (by omega) (by omega) _ (HI.out _ T10.out.2.1)).mono ?_
              rintro e' w11 ⟨rfl, hb11⟩
              have T11 := Lib.hid (T10.out.step hb11)
              clear hb11 q0 q1 q2 q3 q4 q5 q6 q7 q8 z0
              obtain ⟨q0, q1, q2, q3, q4, q5, q6, q7, q8, z0⟩ := T11.out.cells
              by_cases hp : 0 < R
              · go_wp2_with fail
                go_meet
                exact T11.out
              · have dR : decide (0 < R) = false := decide_eq_false hp
                go_wp2_with fail
                go_meet
                exact T11.out
          case false =>
            go_wp2_with fail
            go_meet
            exact T9.out
      case rest =>
        clear q0 q1 q2 q3 q4 q5 q6 q7 q8 z0
        have T12 := Lib.hid hcut
        clear hcut
        obtain ⟨q0, q1, q2, q3, q4, q5, q6, q7, q8, z0⟩ := T12.out.cells
        obtain ⟨l, z, hr⟩ : ∃ l z, shr M ws = (l, z) := ⟨_, _, rfl⟩
        obtain ⟨-, p2, p3, p4⟩ := shr_part hr
        have HS := Lib.hid hr
        have P2 := Lib.hid p2
        have P3 := Lib.hid p3
        clear hr p2 p3 p4
        go_wp2_with fail
        refine (share_any M A n c ws l z HS.out _ T12.out.2.2.2.2 (by omega)).mono ?_
        rintro e' w13 ⟨AP, cP, rfl, i1, b1⟩
        have T13 := Lib.hid (T12.out.step b1)
        have I1 := Lib.hid i1
        clear i1 b1 q0 q1 q2 q3 q4 q5 q6 q7 q8 z0
        obtain ⟨q0, q1, q2, q3, q4, q5, q6, q7, q8, z0⟩ := T13.out.cells
        by_cases c4 : z = 0
        case neg =>
          as_aux_lemma =>
            have e3 : (z == 0) = false := by rw [beq_eq_false_iff_ne]; exact c4
            go_wp2
            go_ret
            exact ⟨rfl, T13.out.1⟩
        subst c4
        have P4 := Lib.hid (P3.out rfl)
        clear P3
        have hln : l.length ≤ 100 := by rw [P4.out.2, T13.out.2.2.2.2.1]; omega
        go_wp2
        clear q0 q1 q2 q3 q4 q5 q6 q7 q8 z0
        go_loopw [24, 25] (fun y i wr => ∃ (k : Nat) (v : Int), ((k = 0 ∧ i = .int .i64 (-1)) ∨ (∃ j : Nat, k = j + 1 ∧ i = .int .i64 j)) ∧ y = .int .i64 v ∧ k ≤ l.length ∧ Hid (TM w wr ⟨s, e, A1, n1, m1, A2, n2, m2, ls, ld⟩ F B T M R A n ws ∧ IsL wr AP l.length l ∧ Least ⟨s, e, A1, n1, m1, A2, n2, m2, ls, ld⟩ F (isum (l.drop k)) v)) (fun _ i _ => (intOf i + 1).toNat)
        case atStart =>
          refine ⟨l.length, F, ?_, rfl, Nat.le_refl _, T13.out, I1.out, by rw [List.drop_length]; exact least_zero a1⟩
          cases l with
          | nil => exact .inl ⟨rfl, rfl⟩
          | cons x l => exact .inr ⟨l.length, rfl, congrArg (Value.int .i64) (by simp)⟩
        case round =>
          obtain ⟨k, v, hi, rfl, hk, hs⟩ := hrel
          obtain ⟨q0, q1, q2, q3, q4, q5, q6, q7, q8, z0⟩ := hs.out.1.cells
          rcases hi with ⟨rfl, rfl⟩ | ⟨j, rfl, rfl⟩
          · have hv : v = t := least_unique (K := ⟨s, e, A1, n1, m1, A2, n2, m2, ls, ld⟩) (by have := (cerr_zero HX.out).1; simpa only [badHours] using this) (by have := hs.out.2.2; rw [List.drop_zero, P4.out.1] at this; exact this) LE.out
            subst hv
            have hbe : (v == v) = true := by simp
            go_wp2
            go_ret
            exact ⟨rfl, hs.out.1.1⟩
          · obtain ⟨gg, oo, eA, hgg, hcell⟩ := hs.out.2.1.2 (by omega)
            have z1 : w.heap.size < wr.heap.size := by omega
            have h0 := hcell j (by omega)
            obtain ⟨p, hp⟩ : ∃ p, l.getD j 0 = p := ⟨_, rfl⟩
            have hd := isum_drop l j (by omega)
            have hle := isum_drop_le (fun i => (P2.out i).1) j (by omega)
            rw [hp] at h0 hd
            rw [P4.out.1] at hle
            have hp0 := P2.out j
            rw [hp] at hp0
            obtain ⟨u, hu, hLu⟩ := share_step HX.out a0 LE.out hs.out.2.2 hp0.1 (by omega)
            rw [← hd] at hLu
            have HU := Lib.hid hu
            have HLU := Lib.hid hLu
            subst eA
            clear hcell hu hLu hd hle hp
            go_wp2
            refine region_grow (by kernel_rfl) (by kernel_rfl) ?_
            repeat (go_big_quiet_step ((go_at_call 8; exact grow_call (after_any ⟨s, e, A1, n1, m1, A2, n2, m2, ls, ld⟩ v p u 0 HU.out (by omega) (by omega) _ (HI.out _ (hs.out.1.2.1.below (below_grow _ _)))))))
            refine wpQuiet_nil ?_
            rintro w14 ⟨xg, hxg⟩
            have hb14 := below_grow wr xg
            rw [← hxg] at hb14
            clear hxg xg
            have T14 := Lib.hid (hs.out.1.step hb14)
            have I14 := Lib.hid (hs.out.2.1.below hb14)
            clear hb14 q0 q1 q2 q3 q4 q5 q6 q7 q8 z0 h0
            go_wp2
            go_roundw
            case rel =>
              refine ⟨j, u, ?_, rfl, by omega, T14.out, I14.out, HLU.out⟩
              cases j with
              | zero => exact .inl ⟨rfl, by go_num⟩
              | succ j => exact .inr ⟨j, rfl, congrArg (Value.int .i64) (by omega)⟩
            case measure => simp [intOf]
end Go.Proofs.YtplgndllfkceiaaDoor
