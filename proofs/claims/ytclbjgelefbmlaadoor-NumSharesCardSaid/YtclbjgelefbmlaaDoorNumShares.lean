/-
  THE WALK OF THE LAW NumShares: it returns true.
-/
import Derived.Test.YtclbjgelefbmlaaDoorShrB
import Derived.Test.YtclbjgelefbmlaaDoorShrN
import Derived.Test.YtclbjgelefbmlaaDoorKnown
namespace Go.Proofs.YtclbjgelefbmlaaDoor
open Go.RowKit
set_option maxRecDepth 100000 in
set_option maxHeartbeats 4000000 in
theorem numShares_walk (t : Int) (A : Option Addr) (n c : Nat) (ws : List Int) (w : World) (hx : IsL w A n ws) :
    Calls Tryd.prog 8 #[.int .i64 t, .slice A n c] w fun e w' => e = .returned (.bool true) ∧ Below w.heap.size w w' := by
  obtain ⟨l, z, hr⟩ : ∃ l z, shr t ws = (l, z) := ⟨_, _, rfl⟩
  obtain ⟨p1, p2, p3, p4⟩ := shr_part hr
  have HR := Lib.hid hr
  have HX := Lib.hid hx
  have PP := Lib.hid p1
  have PQ := Lib.hid p3
  clear hr hx p1 p2 p3 p4
  by_cases c0 : 100 < n
  · go_enter Tryd.func8, Tryd.ntmps8
    go_wp2_with (go_at_call 20; refine (known_any _).mono ?_; rintro e' w5 ⟨rfl, hb5⟩)
    go_ret
    exact ⟨rfl, hb5⟩
  · have d0 : decide (100 < n) = false := decide_eq_false c0
    have hzz : (z == z) = true := by simp
    go_enter Tryd.func8, Tryd.ntmps8
    go_wp2_with fail
    refine (share_any t A n c ws l z HR.out _ HX.out (by omega)).mono ?_
    rintro e' w1 ⟨A1, c1, rfl, i1, b1⟩
    have HX1 := Lib.hid (HX.out.below b1)
    have I1 := Lib.hid i1
    have B1 := Lib.hid b1
    clear i1 b1
    go_wp2_with fail
    refine (rshare_any t A n c ws l z HR.out _ HX1.out (by omega)).mono ?_
    rintro e' w2 ⟨A2, c2, rfl, i2, b2⟩
    have I2 := Lib.hid i2
    have I3 := Lib.hid (I1.out.below b2)
    have B2 := Lib.hid (B1.out.trans (b2.mono B1.out.size))
    clear i2 b2 d0 I1 B1 HX1
    go_wp2
    clear hzz
    go_loopw [9, 10] (fun s i wr => ∃ (k e : Nat) (u : Int), i = .int .i64 k ∧ s = .int .i64 u ∧ wr = w2.drewN e ∧ k ≤ l.length ∧ 0 ≤ u ∧ u ≤ 1099511627776 ∧ Hid (isum (l.take k) = u)) (fun _ i _ => l.length - (intOf i).toNat)
    case atStart => exact ⟨0, 0, 0, rfl, rfl, rfl, by omega, by omega, by omega, (show isum (l.take 0) = 0 by simp [isum])⟩
    case round =>
      obtain ⟨k, e, u, rfl, rfl, rfl, hk, hu0, hu1, hs⟩ := hrel
      by_cases hlt : k < l.length
      · obtain ⟨g1, o1, e1, -, h1⟩ := I3.out.2 (by omega)
        obtain ⟨g2, o2, e2, -, h2⟩ := I2.out.2 (by omega)
        have q1 := h1 k hlt
        have q2 := h2 k hlt
        have hsm := isum_take l k hlt
        have hpb := PP.out (k + 1) hlt
        rw [hsm, hs.out] at hpb
        rw [hs.out] at hsm
        obtain ⟨x, hxx⟩ : ∃ x, l.getD k 0 = x := ⟨_, rfl⟩
        rw [hxx] at q1 q2 hsm hpb
        have HS := Lib.hid hsm
        have hbe : (x == x) = true := by simp
        have hll : l.length ≤ 9223372036854775807 := by
          have := PQ.out
          by_cases hz : z = 0
          · have h3 := (this hz).2; rw [h3, HX.out.1]; omega
          · have h3 := (shr_part HR.out).2.2.2 hz; rw [h3]; simp
        subst e1 e2
        clear h1 h2 hsm hxx
        go_wp2
        go_quiet (fail)
        go_wp2
        go_roundw
        case rel => exact ⟨k + 1, _, u + x, by go_num, rfl, rfl, by omega, by omega, by omega, HS.out⟩
        case measure => simp [intOf]; omega
      · have hk' : k = l.length := by omega
        have hsu : isum l = u := by have := hs.out; rwa [hk', List.take_length] at this
        by_cases hz : z = 0
        · subst hz
          have hut : u = t := by rw [← hsu]; exact (PQ.out rfl).1
          subst hut
          have hbe : (u == u) = true := by simp
          clear hs hk' hsu
          go_wp2_with (go_at_call 20; refine (known_any _).mono ?_; rintro e' w5 ⟨rfl, hb5⟩)
          go_ret
          exact ⟨rfl, (below_drewN B2.out e).trans (hb5.mono B2.out.size)⟩
        · have hz1 : (z == 0) = false := by rw [beq_eq_false_iff_ne]; exact hz
          clear hs hk' hsu
          go_wp2_with (go_at_call 20; refine (known_any _).mono ?_; rintro e' w5 ⟨rfl, hb5⟩)
          go_ret
          exact ⟨rfl, (below_drewN B2.out e).trans (hb5.mono B2.out.size)⟩
end Go.Proofs.YtclbjgelefbmlaaDoor
