/-
  THE REFERENCE: left, Validate, named.
-/
import Derived.Test.YtdgmpaijpjkeoaaRefA
namespace Go.Proofs.Ytdgmpaijpjkeoaa
open Go.RowKit
theorem takenP_take {n : Nat} {ps : List (Int × Int)} {k : Nat} (h : k < ps.length) : takenP n (ps.take (k + 1)) = takenP n (ps.take k) + (if ps[k].1 = n then ps[k].2 else 0) := by
  rw [List.take_succ_eq_append_getElem h, takenP_snoc]
theorem takenL_take {n : Nat} {l : List LotD} {k : Nat} (h : k < l.length) : takenL n (l.take (k + 1)) = takenL n (l.take k) + takenP n l[k].parts := by
  rw [List.take_succ_eq_append_getElem h, takenL_snoc]
set_option maxRecDepth 100000 in
set_option maxHeartbeats 1000000 in
theorem left_any (l : List LotD) (hl : l.length ≤ 1000) (hg : GoodAll l) (n : Nat) (hn : n < l.length) (A : Option Addr) (c : Nat) (w : World) (hL : LotsIn w A l) :
    Calls Try.prog 67 #[.slice A l.length c, .int .i64 n] w fun e w' => e = .returned (.int .i64 (leftL l n)) ∧ w = w' := by
  have HL := Lib.hid hL
  have HG := Lib.hid hg
  obtain ⟨b, o, rfl, hc⟩ := hL (by omega)
  have hln := hc n hn
  have hms := massOf_bd hg hn
  have hme : massOf l n = l[n].mass := by unfold massOf; rw [getD_at' hn]
  obtain ⟨-, -, hb, -, h5, -⟩ := hln
  obtain ⟨ms, hms'⟩ : ∃ ms, ms = massOf l n := ⟨_, rfl⟩
  rw [← hme, ← hms'] at h5
  rw [← hms'] at hms
  have HE := Lib.hid (show leftL l n = ms - takenL n l by rw [hms']; rfl)
  have HC := Lib.hid hc
  have hbd := fun k => takenL_bd (l := l.take k) (j := n) (fun x hx => hg.mem (List.mem_of_mem_take hx))
  have HBD := Lib.hid hbd
  clear hL hg hc hme hms' hbd
  go_enter Try.func67, Try.ntmps67
  go_wp2
  go_loop [5, 6] (fun t u => ∃ k : Nat, t = .int .i64 (ms - takenL n (l.take k)) ∧ u = .int .i64 k ∧ k ≤ l.length) (fun _ u => l.length - (intOf u).toNat)
  case atStart => exact ⟨0, by simp [takenL], rfl, by omega⟩
  case round =>
    obtain ⟨k, rfl, rfl, hk⟩ := hrel
    by_cases hlt : k < l.length
    · obtain ⟨e1, e2, e3, e4, e5, A', c', e6, e8, e7⟩ := HC.out k hlt
      have hgd := HG.out k hlt
      have hpl := hgd.plen
      have hpt := hgd.part
      have htl := takenL_take (n := n) hlt
      have hb1 := HBD.out k
      rw [List.length_take] at hb1
      obtain ⟨ps, hps⟩ : ∃ ps, ps = l[k].parts := ⟨_, rfl⟩
      rw [← hps] at e6 e7 e8 hpl hpt htl
      obtain ⟨T, hT⟩ : ∃ T, T = takenL n (l.take k) := ⟨_, rfl⟩
      rw [← hT] at hb1 htl ⊢
      have HTL := Lib.hid htl
      have HPT := Lib.hid hpt
      have HP := Lib.hid e7
      clear e1 e2 e4 e5 e7 hgd hpt htl hps hT
      go_wp2
      go_loop [5, 7] (fun t u => ∃ m : Nat, t = .int .i64 (ms - T - takenP n (ps.take m)) ∧ u = .int .i64 m ∧ m ≤ ps.length) (fun _ u => ps.length - (intOf u).toNat)
      case atStart => exact ⟨0, by simp [takenP], rfl, by omega⟩
      case round =>
        obtain ⟨m, rfl, rfl, hm⟩ := hrel
        by_cases hml : m < ps.length
        · obtain ⟨b', o', rfl, hb', hcc⟩ := HP.out.2 (by omega)
          obtain ⟨q0, q1⟩ := hcc m hml
          have hpm := HPT.out _ (List.getElem_mem hml)
          have htp := takenP_take (n := n) hml
          have hbp := takenP_bd (n := n) (ps := ps.take m) (fun p hp => (HPT.out p (List.mem_of_mem_take hp)).2.2)
          rw [List.length_take] at hbp
          obtain ⟨p, hp⟩ : ∃ p, p = ps[m] := ⟨_, rfl⟩
          rw [← hp] at q0 q1 hpm htp
          obtain ⟨p1, p2⟩ := p
          simp only at q0 q1 hpm htp
          obtain ⟨Q, hQ⟩ : ∃ Q, Q = takenP n (ps.take m) := ⟨_, rfl⟩
          rw [← hQ] at hbp htp ⊢
          have HTP := Lib.hid htp
          clear hcc hp hQ htp
          by_cases he : p1 = n
          · have HT2 := Lib.hid (show takenP n (ps.take (m + 1)) = Q + p2 by rw [HTP.out, if_pos he])
            have d1 : (p1 == (n : Int)) = true := by rw [beq_iff_eq]; exact he
            clear he
            go_wp2
            go_round
            case rel => exact ⟨m + 1, by rw [HT2.out]; go_num, by go_num, by omega⟩
            case measure => simp [intOf]; omega
          · have HT2 := Lib.hid (show takenP n (ps.take (m + 1)) = Q by rw [HTP.out, if_neg he]; omega)
            have d1 : (p1 == (n : Int)) = false := by rw [beq_eq_false_iff_ne]; exact he
            clear he
            go_wp2
            go_round
            case rel => exact ⟨m + 1, by rw [HT2.out], by go_num, by omega⟩
            case measure => simp [intOf]; omega
        · obtain rfl : m = ps.length := by omega
          rw [List.take_length]
          go_wp2
          go_round
          case rel => exact ⟨k + 1, by rw [HTL.out]; go_num, by go_num, by omega⟩
          case measure => simp [intOf]; omega
    · obtain rfl : k = l.length := by omega
      rw [List.take_length]
      go_wp2
      go_ret
      exact ⟨by rw [HE.out]; rfl, rfl⟩
theorem short_at {l : List LotD} {k : Nat} (hk : k < l.length) (h : leftL l k < 0) : shortL l = true := by
  unfold shortL
  rw [List.any_eq_true]
  exact ⟨k, by simpa using hk, decide_eq_true h⟩
theorem short_no {l : List LotD} (h : ∀ k, k < l.length → 0 ≤ leftL l k) : shortL l = false := by
  unfold shortL
  rw [List.any_eq_false]
  intro k hk
  simpa using h k (by simpa using hk)
set_option maxRecDepth 100000 in
set_option maxHeartbeats 1000000 in
theorem rvalidate_any (l : List LotD) (hl : l.length ≤ 1000) (hps : ∀ x ∈ l, x.parts.length ≤ 1000) (A : Option Addr) (c : Nat) (w : World) (hL : LotsIn w A l) :
    Calls Try.prog 33 #[.slice A l.length c] w fun e w' => e = .returned (.int .i64 (valE l)) ∧ Below w.heap.size w w' := by
  have HL := Lib.hid hL
  have HPS := Lib.hid hps
  clear hL hps
  by_cases h0 : 24 < l.length
  · have HR := Lib.hid (show valE l = 4 by rw [valE, if_pos h0])
    go_enter Try.func33, Try.ntmps33
    go_wp2
    go_ret
    exact ⟨by rw [HR.out]; rfl, Below.refl _ _⟩
  · have HR := Lib.hid (show valE l = if lotsE l 0 l ≠ 0 then lotsE l 0 l else if shortL l = true then 6 else 0 by rw [valE, if_neg h0])
    have d0 : decide ((24 : Int) < (l.length : Int)) = false := decide_eq_false (by omega)
    go_enter Try.func33, Try.ntmps33
    go_wp2
    go_loopw [3] (fun t wr => ∃ k : Nat, t = .int .i64 k ∧ k ≤ l.length ∧ Hid (lotsE l k (l.drop k) = lotsE l 0 l ∧ Below w.heap.size w wr)) (fun t _ => l.length - (intOf t).toNat)
    case atStart => exact ⟨0, rfl, by omega, Lib.hid ⟨by simp, Below.refl _ _⟩⟩
    case round =>
      obtain ⟨k, rfl, hk, hr⟩ := hrel
      by_cases hlt : k < l.length
      · have hst := lots_step hlt
        rw [hr.out.1] at hst
        have hcall := wrong_any l k hlt hl A c wr (HL.out.below hr.out.2) (HPS.out _ (List.getElem_mem hlt))
        obtain ⟨z, hz⟩ : ∃ z, z = lotE l k l[k] := ⟨_, rfl⟩
        rw [← hz] at hst hcall
        have HST := Lib.hid hst
        have HC := Lib.hid hcall
        clear hst hcall hz
        go_wp2_with fail
        refine HC.out.mono ?_
        rintro e w1 ⟨rfl, hb1⟩
        have H1 := Lib.hid (hr.out.2.trans (hb1.mono hr.out.2.size))
        clear hr hb1
        by_cases hz : z = 0
        · subst hz
          have H2 := Lib.hid (HST.out.trans (if_pos rfl))
          go_wp2
          go_roundw
          case rel => exact ⟨k + 1, by go_num, by omega, Lib.hid ⟨H2.out.symm, H1.out⟩⟩
          case measure => simp [intOf]; omega
        · have H2 := Lib.hid (HST.out.trans (if_neg hz))
          have H3 := Lib.hid (HR.out.trans (if_pos (by rw [H2.out]; exact hz)))
          have d1 : (z == 0) = false := by rw [beq_eq_false_iff_ne]; exact hz
          have d2 : (z != 0) = true := by rw [bne_iff_ne]; exact hz
          clear hz
          go_wp2
          go_ret
          exact ⟨by rw [H3.out, H2.out]; rfl, H1.out⟩
      · obtain rfl : k = l.length := by omega
        have H2 := Lib.hid (show lotsE l 0 l = 0 by rw [← hr.out.1, List.drop_length]; rfl)
        have H3 := Lib.hid (HR.out.trans (if_neg (by rw [H2.out]; decide)))
        have H1 := Lib.hid hr.out.2
        have HG := Lib.hid (good_of_lots H2.out)
        clear hr
        go_wp2
        go_loopw [5] (fun t wx => ∃ k : Nat, t = .int .i64 k ∧ k ≤ l.length ∧ Hid (∀ j, j < k → 0 ≤ leftL l j) ∧ wx = wr) (fun t _ => l.length - (intOf t).toNat)
        case atStart => exact ⟨0, rfl, by omega, Lib.hid (fun j hj => absurd hj (by omega)), rfl⟩
        case round =>
          obtain ⟨k, rfl, hk, hr, rfl⟩ := hrel
          by_cases hlt : k < l.length
          · have hcall := left_any l hl HG.out k hlt A c wr (HL.out.below H1.out)
            obtain ⟨z, hz⟩ : ∃ z, z = leftL l k := ⟨_, rfl⟩
            rw [← hz] at hcall
            have HZ := Lib.hid hz
            have HC := Lib.hid hcall
            clear hcall hz
            go_wp2_with fail
            refine HC.out.mono ?_
            rintro e w2 ⟨rfl, rfl⟩
            by_cases hneg : z < 0
            · have H4 := Lib.hid (H3.out.trans (if_pos (short_at hlt (by rw [← HZ.out]; omega))))
              go_wp2
              go_ret
              exact ⟨by rw [H4.out]; rfl, H1.out⟩
            · have H4 := Lib.hid (show ∀ j, j < k + 1 → 0 ≤ leftL l j from fun j hj => by
                rcases Nat.lt_succ_iff_lt_or_eq.1 hj with g | rfl
                · exact hr.out j g
                · rw [← HZ.out]; omega)
              go_wp2
              go_roundw
              case rel => exact ⟨k + 1, by go_num, by omega, H4, trivial⟩
              case measure => simp [intOf]; omega
          · obtain rfl : k = l.length := by omega
            have H4 := Lib.hid (H3.out.trans (if_neg (by rw [short_no hr.out]; decide)))
            go_wp2
            go_ret
            exact ⟨by rw [H4.out]; rfl, H1.out⟩
set_option maxRecDepth 100000 in
set_option maxHeartbeats 1000000 in
theorem named_any (l : List LotD) (hl : l.length ≤ 1000) (hps : ∀ x ∈ l, x.parts.length ≤ 1000) (a b : Int) (A : Option Addr) (c : Nat) (w : World) (hL : LotsIn w A l) :
    Calls Try.prog 61 #[.slice A l.length c, .int .i64 a, .int .i64 b] w fun e w' => e = .returned (.int .i64 (chkE l [a, b])) ∧ Below w.heap.size w w' := by
  have hval := rvalidate_any l hl hps A c w hL
  obtain ⟨z, hz⟩ : ∃ z, z = valE l := ⟨_, rfl⟩
  have hch : chkE l [a, b] = if z ≠ 0 then z else if [a, b].all (inL l) = true then 0 else 5 := by rw [chkE, hz]
  have HCH := Lib.hid hch
  rw [← hz] at hval
  have HV := Lib.hid hval
  clear hval hL hps hz hch
  go_enter Try.func61, Try.ntmps61
  go_wp2_with fail
  refine HV.out.mono ?_
  rintro e w1 ⟨rfl, hb1⟩
  by_cases hz : z = 0
  · subst hz
    have H2 := Lib.hid (HCH.out.trans (if_neg (by decide)))
    by_cases c1 : a < 0
    · have H3 := Lib.hid (H2.out.trans (if_neg (by simp [inL]; omega)))
      go_wp2
      go_ret
      exact ⟨by rw [H3.out]; rfl, hb1⟩
    · by_cases c2 : (l.length : Int) ≤ a
      · have H3 := Lib.hid (H2.out.trans (if_neg (by simp [inL]; omega)))
        have d1 : decide ((l.length : Int) ≤ a) = true := decide_eq_true c2
        go_wp2
        go_ret
        exact ⟨by rw [H3.out]; rfl, hb1⟩
      · have d1 : decide ((l.length : Int) ≤ a) = false := decide_eq_false c2
        by_cases c3 : b < 0
        · have H3 := Lib.hid (H2.out.trans (if_neg (by simp [inL]; omega)))
          go_wp2
          go_ret
          exact ⟨by rw [H3.out]; rfl, hb1⟩
        · by_cases c4 : (l.length : Int) ≤ b
          · have H3 := Lib.hid (H2.out.trans (if_neg (by simp [inL]; omega)))
            have d2 : decide ((l.length : Int) ≤ b) = true := decide_eq_true c4
            go_wp2
            go_ret
            exact ⟨by rw [H3.out]; rfl, hb1⟩
          · have H3 := Lib.hid (H2.out.trans (if_pos (by simp [inL]; omega)))
            have d2 : decide ((l.length : Int) ≤ b) = false := decide_eq_false c4
            go_wp2
            go_ret
            exact ⟨by rw [H3.out]; rfl, hb1⟩
  · have H2 := Lib.hid (HCH.out.trans (if_pos hz))
    have d1 : (z == 0) = false := by rw [beq_eq_false_iff_ne]; exact hz
    have d2 : (z != 0) = true := by rw [bne_iff_ne]; exact hz
    clear hz
    go_wp2
    go_ret
    exact ⟨by rw [H2.out]; rfl, hb1⟩
end Go.Proofs.Ytdgmpaijpjkeoaa
