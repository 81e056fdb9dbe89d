/-
  THE WALK OF THE LAW NumShareFair: it returns true.
-/
import Derived.Test.YtclbjgelefbmlaaDoorShrA
import Derived.Test.YtclbjgelefbmlaaDoorShrN
import Derived.Test.YtclbjgelefbmlaaDoorKnown
namespace Go.Proofs.YtclbjgelefbmlaaDoor
open Go.RowKit
set_option maxRecDepth 100000 in
set_option maxHeartbeats 2000000 in
theorem numShareFair_walk (t : Int) (A : Option Addr) (n c : Nat) (ws : List Int) (w : World) (hx : IsL w A n ws) :
    Calls Tryd.prog 9 #[.int .i64 t, .slice A n c] w fun e w' => e = .returned (.bool true) ∧ Below w.heap.size w w' := by
  obtain ⟨l, z, hr⟩ : ∃ l z, shr t ws = (l, z) := ⟨_, _, rfl⟩
  obtain ⟨-, p2, p3, p4⟩ := shr_part hr
  have HR := Lib.hid hr
  have HX := Lib.hid hx
  have P2 := Lib.hid p2
  have P3 := Lib.hid p3
  have P4 := Lib.hid p4
  clear hr hx p2 p3 p4
  by_cases c0 : 100 < n
  · go_enter Tryd.func9, Tryd.ntmps9
    go_wp2_with (go_at_call 20; refine (known_any _).mono ?_; rintro e' w5 ⟨rfl, hb5⟩)
    go_ret
    exact ⟨rfl, hb5⟩
  have d0 : decide (100 < n) = false := decide_eq_false c0
  by_cases hz : z = 0
  case neg =>
    have hz1 : (z == 0) = false := by rw [beq_eq_false_iff_ne]; exact hz
    obtain rfl := P4.out hz
    clear hz
    go_enter Tryd.func9, Tryd.ntmps9
    go_wp2_with fail
    refine (share_any t A n c ws [] z HR.out _ HX.out (by omega)).mono ?_
    rintro e' w1 ⟨A1, c1, rfl, i1, b1⟩
    go_wp2_with (go_at_call 20; refine (known_any _).mono ?_; rintro e' w5 ⟨rfl, hb5⟩)
    go_ret
    exact ⟨rfl, b1.trans (hb5.mono b1.size)⟩
  subst hz
  obtain ⟨f1, f2, f3, -⟩ := shr_fair HR.out
  have hln : l.length = n := by rw [(P3.out rfl).2, HX.out.1]
  have HLN := Lib.hid hln
  rw [HX.out.1] at f1 f2 f3
  have F1 := Lib.hid f1
  have F2 := Lib.hid f2
  have F3 := Lib.hid f3
  clear f1 f2 f3 hln
  go_enter Tryd.func9, Tryd.ntmps9
  go_wp2_with fail
  refine (share_any t A n c ws l 0 HR.out _ HX.out (by omega)).mono ?_
  rintro e' w1 ⟨A1, c1, rfl, i1, b1⟩
  rw [HLN.out] at i1 ⊢
  have HX1 := Lib.hid (HX.out.below b1)
  have I1 := Lib.hid i1
  have B1 := Lib.hid b1
  clear i1 b1
  go_wp2
  clear d0
  go_loopw [7] (fun i wr => ∃ k e : Nat, i = .int .i64 k ∧ wr = w1.drewN e ∧ k ≤ n) (fun i _ => n - (intOf i).toNat)
  case atStart => exact ⟨0, 0, rfl, rfl, by omega⟩
  case round =>
    obtain ⟨i, e, rfl, rfl, hi⟩ := hrel
    by_cases hlt : i < n
    · obtain ⟨g1, o1, e1, -, h1⟩ := I1.out.2 (by omega)
      obtain ⟨g2, o2, e2, -, h2⟩ := HX1.out.2 (by omega)
      have q1 := h1 i hlt
      have q2 := h2 i hlt
      obtain ⟨x, hx⟩ : ∃ x, l.getD i 0 = x := ⟨_, rfl⟩
      obtain ⟨a, ha⟩ : ∃ a, ws.getD i 0 = a := ⟨_, rfl⟩
      rw [hx] at q1
      rw [ha] at q2
      have g1x := F1.out i hlt
      rw [ha, hx] at g1x
      have G1 := Lib.hid g1x
      have XA := Lib.hid (And.intro hx ha)
      have H1 := Lib.hid h1
      have H2 := Lib.hid h2
      subst e1 e2
      clear h1 h2 hx ha g1x
      have key : ((a == 0) = true ∧ (x == 0) = true) ∨ (a == 0) = false := by
        by_cases h : a = 0
        · exact .inl ⟨by simpa using h, by simpa using G1.out h⟩
        · exact .inr (by simpa using h)
      rcases key with ⟨ea, ex⟩ | ea
      all_goals
        go_wp2
        clear ea
        obtain ⟨wo, hwo⟩ : ∃ wo : World, wo = w1.drewN e := ⟨_, rfl⟩
        rw [← hwo]
        replace q1 : wo.cell? ⟨g1, o1 + i, none⟩ = some (.int .i64 x) := by rw [hwo]; exact q1
        replace q2 : wo.cell? ⟨g2, o2 + i, none⟩ = some (.int .i64 a) := by rw [hwo]; exact q2
        have c3 : ∀ j, j < n → wo.cell? ⟨g1, o1 + j, none⟩ = some (.int .i64 (l.getD j 0)) := by rw [hwo]; exact H1.out
        have c4 : ∀ j, j < n → wo.cell? ⟨g2, o2 + j, none⟩ = some (.int .i64 (ws.getD j 0)) := by rw [hwo]; exact H2.out
        have C3 := Lib.hid c3
        have C4 := Lib.hid c4
        have WO := Lib.hid hwo
        clear c3 c4 hwo
        go_loopw [8] (fun j wr => ∃ k e : Nat, j = .int .i64 k ∧ wr = wo.drewN e ∧ k ≤ n) (fun j _ => n - (intOf j).toNat)
        case atStart => exact ⟨0, 0, rfl, rfl, by omega⟩
        case round =>
          obtain ⟨j, f, rfl, rfl, hj⟩ := hrel
          by_cases hjt : j < n
          · have q3 := C3.out j hjt
            have q4 := C4.out j hjt
            obtain ⟨y, hy⟩ : ∃ y, l.getD j 0 = y := ⟨_, rfl⟩
            obtain ⟨b, hb⟩ : ∃ b, ws.getD j 0 = b := ⟨_, rfl⟩
            rw [hy] at q3
            rw [hb] at q4
            have y0 := P2.out j
            rw [hy] at y0
            have h2 := F2.out i j hlt hjt
            have h3 := F3.out i j hlt hjt
            rw [hy, hb, XA.out.1, XA.out.2] at h2 h3
            have wy : IntKind.i64.wrap (y + 1) = y + 1 := IntWalk.i64_in _ ⟨by omega, by omega⟩
            have hcase : (b < a ∧ decide (x < y) = false ∧ (a == b) = false) ∨ (b = a ∧ i < j ∧ y = x) ∨ (b = a ∧ i < j ∧ x = y + 1 ∧ (x != y) = true) ∨ (b = a ∧ decide (i < j) = false) ∨ (decide (b < a) = false ∧ (a == b) = false) := by
              simp only [decide_eq_false_iff_not, beq_eq_false_iff_ne, bne_iff_ne]
              omega
            clear hy hb h2 h3 y0
            rcases hcase with ⟨r1, r2, r3⟩ | ⟨r1, r2, r3⟩ | ⟨r1, r2, r3, r4⟩ | ⟨r1, r2⟩ | ⟨r1, r2⟩
            · go_wp2
              go_quiet (fail)
              go_wp2
              go_roundw
              case rel => exact ⟨j + 1, _, by go_num, rfl, by omega⟩
              case measure => simp [intOf]; omega
            · subst r1 r3
              clear XA G1 wy
              go_wp2
              go_quiet (fail)
              go_wp2
              go_roundw
              case rel => exact ⟨j + 1, _, by go_num, rfl, by omega⟩
              case measure => simp [intOf]; omega
            · subst r1
              have wx : IntKind.i64.wrap (y + 1) = x := wy.trans r3.symm
              clear XA G1 r3 wy
              go_wp2
              go_quiet (fail)
              go_wp2
              go_roundw
              case rel => exact ⟨j + 1, _, by go_num, rfl, by omega⟩
              case measure => simp [intOf]; omega
            · subst r1
              clear XA G1 wy
              go_wp2
              go_quiet (fail)
              go_wp2
              go_roundw
              case rel => exact ⟨j + 1, _, by go_num, rfl, by omega⟩
              case measure => simp [intOf]; omega
            · go_wp2
              go_quiet (fail)
              go_wp2
              go_roundw
              case rel => exact ⟨j + 1, _, by go_num, rfl, by omega⟩
              case measure => simp [intOf]; omega
          · go_wp2
            go_roundw
            case rel => exact ⟨i + 1, _, by go_num, by rw [WO.out, World.drewN_drewN], by omega⟩
            case measure => simp [intOf]; omega
    · have : i = n := by omega
      subst this
      go_wp2_with (go_at_call 20; refine (known_any _).mono ?_; rintro e' w5 ⟨rfl, hb5⟩)
      go_ret
      exact ⟨rfl, (below_drewN B1.out e).trans (hb5.mono B1.out.size)⟩
end Go.Proofs.YtclbjgelefbmlaaDoor
