/-
  ParseMoney, THE REFERENCE'S.
-/
import Derived.Test.YtclbjgelefbmlaaDoorMonA
import Derived.Deep.DeepCutAuto
namespace Go.Proofs.YtclbjgelefbmlaaDoor
open Go.RowKit Go.Lib
def OutM (w : World) (t : List UInt8) (e : Ending) (w' : World) : Prop := ∃ p z, e = .returned (.tuple #[.int .i64 p, .int .i64 z]) ∧ PrsM t p z ∧ Below w.heap.size w w'
/-- The sign of a text. -/
def sgn (t : List UInt8) : Int := if t.head? = some 45 then -1 else 1
theorem sgn_cases (t : List UInt8) : sgn t = 1 ∨ sgn t = -1 := by unfold sgn; split <;> simp
theorem own_signed {a : Int} {t : List UInt8} (h0 : -1099511627776 ≤ a) (h1 : a ≤ 1099511627776) (h : moneyT a = t) : sgn t * sumW (splitL 32 (bdy t)) = a := by
  have := own_sum h0 h1 h
  unfold sgn
  split
  · rw [if_pos (by assumption)] at this; omega
  · rw [if_neg (by assumption)] at this; omega
theorem own_piece {a : Int} {t : List UInt8} {xs : List ByteArray} (hm : xs.map (·.data.toList) = splitL 32 (bdy t)) (h0 : -1099511627776 ≤ a) (h1 : a ≤ 1099511627776) (h : moneyT a = t) :
    xs.length ≤ 3 ∧ ∀ x ∈ xs, ∃ (v : Nat) (u : UInt8), x.data.toList = itoa (v : Int) ++ [u] ∧ v ≤ 1099511627776 ∧ (u = 108 ∨ u = 115 ∨ u = 100) ∧ 2 ≤ x.size ∧ x.size ≤ 14 := by
  obtain ⟨e, -⟩ := own_words h0 h1 h
  rw [e] at hm
  refine ⟨?_, fun x hx => ?_⟩
  · have := congrArg List.length hm
    have := words_len a.natAbs
    simp at *; omega
  · obtain ⟨v, u, g1, g2, g3, g4, g5⟩ := words_good (n := a.natAbs) (by omega) x.data.toList (by rw [← hm]; exact List.mem_map.2 ⟨x, hx, rfl⟩)
    exact ⟨v, u, g1, g2, g3, by simpa using g4, by simpa using g5⟩
theorem prsM_no {t : List UInt8} (h : ∀ a, -1099511627776 ≤ a → a ≤ 1099511627776 → moneyT a ≠ t) : PrsM t 0 3 := .inr ⟨rfl, rfl, h⟩
/-- A string is all but its last byte, and that. -/
theorem last_app (x : ByteArray) (h : 0 < x.size) : x.data.toList = (x.extract 0 (x.size - 1)).data.toList ++ [x[x.size - 1]] := by
  have e := ext_list x 0 (x.size - 1)
  rw [List.drop_zero, Nat.sub_zero] at e
  have hk : x.size - 1 < x.data.toList.length := by simp; omega
  have := List.take_succ_eq_append_getElem hk
  rw [show x.size - 1 + 1 = x.data.toList.length by simp; omega, List.take_length] at this
  rw [e]
  conv => lhs; rw [this]
  rfl
theorem sumW_take {xs : List ByteArray} {k : Nat} (h : k < xs.length) : sumW ((xs.take (k + 1)).map (·.data.toList)) = sumW ((xs.take k).map (·.data.toList)) + wval xs[k].data.toList := by
  rw [List.take_succ_eq_append_getElem h, List.map_append, ← sumW_snoc]; rfl
theorem bdy_yes {s : ByteArray} (h : s.data.toList.head? = some 45) : (s.extract 1 s.size).data.toList = bdy s.data.toList := by
  rw [ext_list, bdy, if_pos h, List.take_of_length_le (by simp)]
theorem bdy_no {t : List UInt8} (h : t.head? ≠ some 45) : bdy t = t := by rw [bdy, if_neg h]
theorem head_yes {s : ByteArray} (h : s.data.toList.head? = some 45) : ∃ h0 : 0 < s.size, s[0] = 45 := by
  have hp : 0 < s.size := by
    rcases Nat.eq_zero_or_pos s.size with e | e
    · have : s.data.toList = [] := by
        apply List.eq_nil_of_length_eq_zero; simpa using e
      rw [this] at h; simp at h
    · exact e
  refine ⟨hp, ?_⟩
  rw [List.head?_eq_getElem?, at_list s 0 hp] at h
  injection h
theorem head_no {s : ByteArray} (h : s.data.toList.head? ≠ some 45) (h0 : 0 < s.size) : s[0] ≠ 45 := by
  intro e
  apply h
  rw [List.head?_eq_getElem?, at_list s 0 h0, e]
set_option maxRecDepth 100000 in
set_option maxHeartbeats 2000000 in
theorem rparseMoney_any (s : ByteArray) (hs : s.size ≤ 900000) (w : World) :
    Calls Tryd.prog 55 #[.string s] w (OutM w s.data.toList) := by
  obtain ⟨t, ht⟩ : ∃ t, t = s.data.toList := ⟨_, rfl⟩
  have HT := Lib.hid ht
  obtain ⟨sg, hsg⟩ : ∃ sg, sg = sgn s.data.toList := ⟨_, rfl⟩
  have hsg2 : sg = 1 ∨ sg = -1 := by rw [hsg]; exact sgn_cases _
  have HSG := Lib.hid hsg
  rw [← ht]
  clear ht hsg
  go_enter Tryd.func55, Tryd.ntmps55
  obtain ⟨g, hg⟩ : ∃ g, g = decide (s.data.toList.head? = some 45) := ⟨_, rfl⟩
  have HG := Lib.hid hg
  clear hg
  go_upto_region 2 with fail
  go_cut [23] (fun v wx => v = .bool g ∧ wx = w)
  case first =>
    by_cases hh : s.data.toList.head? = some 45
    · obtain ⟨h0, he⟩ := head_yes hh
      have d0 : decide (0 < s.size) = true := decide_eq_true h0
      have e0 : ((s[0].toNat : Int) == 45) = true := by rw [he]; decide
      obtain rfl : g = true := by rw [HG.out]; exact decide_eq_true hh
      clear hh he
      go_wp2_with fail
      go_meet
      exact ⟨rfl, rfl⟩
    · obtain rfl : g = false := by rw [HG.out]; exact decide_eq_false hh
      by_cases h0 : 0 < s.size
      · have d0 : decide (0 < s.size) = true := decide_eq_true h0
        have e0 : ((s[0].toNat : Int) == 45) = false := by
          rw [beq_eq_false_iff_ne]
          intro e
          exact head_no hh h0 (UInt8.toNat.inj (by show s[0].toNat = 45; omega))
        clear hh
        go_wp2_with fail
        go_meet
        exact ⟨rfl, rfl⟩
      · have d0 : decide (0 < s.size) = false := decide_eq_false h0
        clear hh
        go_wp2_with fail
        go_meet
        exact ⟨rfl, rfl⟩
  case rest =>
  obtain ⟨rfl, hwx⟩ := hcut
  rw [hwx]
  clear hwx
  go_upto_if 23 with fail
  go_cut [4, 5] (fun v u wx => ∃ b : ByteArray, v = .string b ∧ u = .int .i64 sg ∧ wx = w ∧ b.size ≤ 900000 ∧ b.data.toList = bdy t)
  case first =>
    cases g
    · have hh : ¬ s.data.toList.head? = some 45 := of_decide_eq_false HG.out.symm
      have hg : sg = 1 := by rw [HSG.out, sgn, if_neg hh]
      subst hg
      have hb : s.data.toList = bdy t := by rw [HT.out, bdy_no hh]
      have HB := Lib.hid hb
      clear hb hh
      go_wp2_with fail
      go_meet
      exact ⟨_, rfl, rfl, rfl, hs, HB.out⟩
    · have hh : s.data.toList.head? = some 45 := of_decide_eq_true HG.out.symm
      obtain ⟨h0, -⟩ := head_yes hh
      have hb := bdy_yes hh
      have hg : sg = -1 := by rw [HSG.out, sgn, if_pos hh]
      have HB := Lib.hid hb
      subst hg
      clear hb hh
      go_wp2_with fail
      go_meet
      exact ⟨_, rfl, rfl, rfl, by simp; omega, by rw [HB.out, HT.out]⟩
  case rest =>
    obtain ⟨b, rfl, rfl, hwx, hbs, hbd⟩ := hcut
    rw [hwx]
    clear hwx
    have HBD := Lib.hid hbd
    clear hbd
    go_wp2_with fail
    refine (split_any b 32 hbs _).mono ?_
    rintro e w1 ⟨A, c, xs, rfl, hI, hm, hb1⟩
    rw [HBD.out] at hm
    have HM := Lib.hid hm
    have hsz : ∀ x ∈ xs, x.size ≤ 900000 := by
      intro x hx
      have := splitL_len 32 (bdy t) x.data.toList (by rw [← hm]; exact List.mem_map.2 ⟨x, hx, rfl⟩)
      rw [← HBD.out] at this
      simp at this; omega
    have HI := Lib.hid hI
    have HB1 := Lib.hid hb1
    have HSZ := Lib.hid hsz
    have OP := fun a h0 h1 h => own_piece (a := a) HM.out h0 h1 h
    have HOP := Lib.hid OP
    clear hm hI hb1 hsz OP
    go_wp2
    go_loopw [7, 8] (fun v i wr => ∃ (S : Int) (k : Nat), v = .int .i64 S ∧ i = .int .i64 k ∧ k ≤ xs.length ∧ k ≤ 4 ∧ 0 ≤ S ∧ S ≤ k * 263882790666240 ∧ Hid (Below w1.heap.size w1 wr ∧ S = sumW ((xs.take k).map (·.data.toList)))) (fun _ i _ => 4 - (intOf i).toNat)
    case atStart => exact ⟨0, 0, rfl, rfl, by omega, by omega, by omega, by omega, Below.refl _ _, by simp [sumW]⟩
    case round =>
      obtain ⟨S, k, rfl, rfl, hk, hk4, hS0, hS1, hr⟩ := hrel
      by_cases hlt : k < xs.length ∧ k < 4
      · obtain ⟨hlt, hlt4⟩ := hlt
        have hI := HI.out.below hr.out.1
        obtain ⟨gb, go, rfl, hgb, hcell⟩ := hI.2 (by omega)
        have q0 := hcell k hlt
        obtain ⟨x, hx⟩ : ∃ x, xs[k] = x := ⟨_, rfl⟩
        rw [hx] at q0
        have hxs := HSZ.out x (by rw [← hx]; exact List.getElem_mem _)
        have hxm : x ∈ xs := by rw [← hx]; exact List.getElem_mem _
        have hso := sumW_take hlt
        rw [hx, ← hr.out.2] at hso
        have HSO := Lib.hid hso
        have HXM := Lib.hid hxm
        clear hcell hI hso hxm hx
        by_cases h2 : x.size < 2
        · have HP : Hid (PrsM t 0 3) := prsM_no fun a h0 h1 h => by
            obtain ⟨-, h3⟩ := HOP.out a h0 h1 h
            obtain ⟨v, u, -, -, -, h4, -⟩ := h3 x HXM.out
            omega
          go_wp2
          go_ret2
          exact ⟨0, 3, rfl, HP.out, HB1.out.trans (hr.out.1.mono HB1.out.size)⟩
        · have hla := last_app x (by omega)
          obtain ⟨u, hu⟩ : ∃ u, x[x.size - 1] = u := ⟨_, rfl⟩
          rw [hu] at hla
          have HLA := Lib.hid hla
          clear hla
          go_wp2_with fail
          refine (number_any _ (by simp; omega) _).mono ?_
          rintro e w2 ⟨n, b2, rfl, hn1, hn2, hn3, hn4, hb2⟩
          have HN3 := Lib.hid hn3
          have HN4 := Lib.hid hn4
          clear hn3 hn4
          go_upto_region 13 with fail
          go_cut [63] (fun v wx => v = .bool (!b2 || (decide (n < 0) || decide (1099511627776 < n))) ∧ wx = w2)
          case first =>
            cases b2
            · go_wp2_with fail
              go_meet
              exact ⟨rfl, rfl⟩
            · by_cases e1 : n < 0
              · have d1 : decide (n < 0) = true := decide_eq_true e1
                go_wp2_with fail
                go_meet
                exact ⟨by rw [d1]; rfl, rfl⟩
              · have d1 : decide (n < 0) = false := decide_eq_false e1
                go_wp2_with fail
                go_meet
                exact ⟨by rw [d1]; rfl, rfl⟩
          case rest =>
            obtain ⟨rfl, hwx⟩ := hcut
            rw [hwx]
            clear hwx
            by_cases hok : b2 = true ∧ 0 ≤ n ∧ n ≤ 1099511627776
            case neg =>
              have hgg : (!b2 || (decide (n < 0) || decide (1099511627776 < n))) = true := by
                cases b2
                · rfl
                · simp at hok ⊢; omega
              have HP : Hid (PrsM t 0 3) := prsM_no fun a h0 h1 h => by
                obtain ⟨-, h3⟩ := HOP.out a h0 h1 h
                obtain ⟨v, u', g1, g2, -⟩ := h3 x HXM.out
                have := List.append_inj' (HLA.out.symm.trans g1) rfl
                obtain ⟨g3, g4⟩ := HN4.out v (by omega) (by omega) this.1
                exact hok ⟨g3, by omega, by omega⟩
              rw [hgg]
              have B2 := Lib.hid (HB1.out.trans ((hr.out.1.trans (hb2.mono hr.out.1.size)).mono HB1.out.size))
              clear hgg hok
              go_wp2
              go_ret2
              exact ⟨0, 3, rfl, HP.out, B2.out⟩
            case pos =>
            obtain ⟨rfl, ok1, ok2⟩ := hok
            have hgg : (!true || (decide (n < 0) || decide (1099511627776 < n))) = false := by simp; omega
            rw [hgg]
            clear hgg
            have hw : wval x.data.toList = if u = 108 then 240 * n else if u = 115 then 12 * n else if u = 100 then n else 0 := by
              rw [HLA.out]
              exact wval_ok (by rw [HN3.out rfl]; exact atoi_itoa n (by omega) (by omega))
            have HW := Lib.hid hw
            have B2 := Lib.hid (hr.out.1.trans (hb2.mono hr.out.1.size))
            clear hw hb2
            have nq : ∀ c : UInt8, u ≠ c → ((x[x.size - 1].toNat : Int) == (c.toNat : Int)) = false := fun c h => by
              rw [hu, beq_eq_false_iff_ne]
              intro e
              exact h (UInt8.toNat.inj (by omega))
            by_cases e1 : u = 108
            · have q1 : ((x[x.size - 1].toNat : Int) == 108) = true := by rw [hu, e1]; decide
              have hS : S + 240 * n = sumW ((xs.take (k + 1)).map (·.data.toList)) := by rw [HSO.out, HW.out, if_pos e1]
              have HS := Lib.hid hS
              clear nq hu e1 hS
              go_wp2
              go_roundw
              case rel => exact ⟨S + 240 * n, k + 1, by go_num, by go_num, by omega, by omega, by omega, by omega, B2.out, HS.out⟩
              case measure => simp [intOf]; omega
            · have q1 : ((x[x.size - 1].toNat : Int) == 108) = false := nq 108 e1
              by_cases e2 : u = 115
              · have q2 : ((x[x.size - 1].toNat : Int) == 115) = true := by rw [hu, e2]; decide
                have hS : S + 12 * n = sumW ((xs.take (k + 1)).map (·.data.toList)) := by rw [HSO.out, HW.out, if_neg e1, if_pos e2]
                have HS := Lib.hid hS
                clear nq hu e1 e2 hS
                go_wp2
                go_roundw
                case rel => exact ⟨S + 12 * n, k + 1, by go_num, by go_num, by omega, by omega, by omega, by omega, B2.out, HS.out⟩
                case measure => simp [intOf]; omega
              · have q2 : ((x[x.size - 1].toNat : Int) == 115) = false := nq 115 e2
                by_cases e3 : u = 100
                · have q3 : ((x[x.size - 1].toNat : Int) == 100) = true := by rw [hu, e3]; decide
                  have hS : S + n = sumW ((xs.take (k + 1)).map (·.data.toList)) := by rw [HSO.out, HW.out, if_neg e1, if_neg e2, if_pos e3]
                  have HS := Lib.hid hS
                  clear nq hu e1 e2 e3 hS
                  go_wp2
                  go_roundw
                  case rel => exact ⟨S + n, k + 1, by go_num, by go_num, by omega, by omega, by omega, by omega, B2.out, HS.out⟩
                  case measure => simp [intOf]; omega
                · have q3 : ((x[x.size - 1].toNat : Int) == 100) = false := nq 100 e3
                  have HP : Hid (PrsM t 0 3) := prsM_no fun a h0 h1 h => by
                    obtain ⟨-, h3⟩ := HOP.out a h0 h1 h
                    obtain ⟨v, u', g1, g2, g3, -⟩ := h3 x HXM.out
                    have := List.append_inj' (HLA.out.symm.trans g1) rfl
                    have hu' : u = u' := by simpa using this.2
                    subst hu'
                    rcases g3 with g3 | g3 | g3
                    · exact e1 g3
                    · exact e2 g3
                    · exact e3 g3
                  have B3 := Lib.hid (HB1.out.trans (B2.out.mono HB1.out.size))
                  clear nq hu e1 e2 e3
                  go_wp2
                  go_ret2
                  exact ⟨0, 3, rfl, HP.out, B3.out⟩
      · have hex : (¬ k < xs.length) ∨ (k < xs.length ∧ ¬ k < 4) := by omega
        have cp : ∀ a, -1099511627776 ≤ a → a ≤ 1099511627776 → moneyT a = t → sg * S = a := by
          intro a h0 h1 h
          obtain ⟨h3, -⟩ := HOP.out a h0 h1 h
          have hk' : k = xs.length := by omega
          have := own_signed h0 h1 h
          rw [← HM.out] at this
          rw [HSG.out, ← HT.out, hr.out.2, hk', List.take_of_length_le (Nat.le_refl _)]
          exact this
        have hsb : -1055531162664960 ≤ sg * S ∧ sg * S ≤ 1055531162664960 := by
          rcases hsg2 with rfl | rfl <;> omega
        obtain ⟨V, hV⟩ : ∃ V, V = sg * S := ⟨_, rfl⟩
        rw [← hV] at cp hsb
        have CP := Lib.hid cp
        have hVV : sg * S = V := hV.symm
        have B2 := Lib.hid (HB1.out.trans (hr.out.1.mono HB1.out.size))
        clear cp hV hlt
        by_cases hr1 : -1099511627776 ≤ V ∧ V ≤ 1099511627776
        · obtain ⟨r1, r2⟩ := hr1
          by_cases hq : moneyT V = t
          · have HP : Hid (PrsM t V 0) := .inl ⟨rfl, r1, r2, hq⟩
            have q1 : (moneyT V == s.toList) = true := by rw [Lib.toList_data, ← HT.out, hq]; simp
            have q2 : (moneyT V != s.toList) = false := by rw [Lib.toList_data, ← HT.out, hq]; simp
            clear hq CP
            rcases hex with hex | ⟨hex, hex2⟩
            all_goals
              go_wp2_with fail
              refine (rformatMoney_yes V r1 r2 _).mono ?_
              rintro e w5 ⟨rfl, hb5⟩
              go_wp2
              go_ret2
              exact ⟨V, 0, rfl, HP.out, B2.out.trans (hb5.mono B2.out.size)⟩
          · have HP : Hid (PrsM t 0 3) := prsM_no fun a h0 h1 h => by
              have := CP.out a h0 h1 h
              subst this
              exact hq h
            have q1 : (moneyT V == s.toList) = false := by rw [Lib.toList_data, ← HT.out, beq_eq_false_iff_ne]; exact hq
            have q2 : (moneyT V != s.toList) = true := by rw [Lib.toList_data, ← HT.out, bne_iff_ne]; exact hq
            clear hq CP
            rcases hex with hex | ⟨hex, hex2⟩
            all_goals
              go_wp2_with fail
              refine (rformatMoney_yes V r1 r2 _).mono ?_
              rintro e w5 ⟨rfl, hb5⟩
              go_wp2
              go_ret2
              exact ⟨0, 3, rfl, HP.out, B2.out.trans (hb5.mono B2.out.size)⟩
        · have HP : Hid (PrsM t 0 3) := prsM_no fun a h0 h1 h => by
            have := CP.out a h0 h1 h
            subst this
            exact hr1 ⟨h0, h1⟩
          have r3 : V < -1099511627776 ∨ 1099511627776 < V := by omega
          have R3 := Lib.hid r3
          clear r3 hr1 CP
          rcases hex with hex | ⟨hex, hex2⟩
          all_goals
            go_wp2_with fail
            refine (rformatMoney_no V R3.out (by omega) (by omega) _).mono ?_
            rintro e w5 ⟨rfl, hb5⟩
            go_wp2
            go_ret2
            exact ⟨0, 3, rfl, HP.out, B2.out.trans (hb5.mono B2.out.size)⟩
end Go.Proofs.YtclbjgelefbmlaaDoor
