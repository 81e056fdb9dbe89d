/-
  ParseMoney, THE PROGRAM'S.
-/
import Derived.Test.YtclbjgelefbmlaaDoorMonC
namespace Go.Proofs.YtclbjgelefbmlaaDoor
open Go.RowKit Go.Lib
/-- strings.Split at one byte. -/
theorem split32_any (s : ByteArray) (hs : s.size ≤ 900000) (w : World) (hl : LibOK w) :
    Calls Tryd.prog 81 #[.string s, .string ⟨#[32]⟩] w (OutS w (splitL 32 s.data.toList)) := by
  obtain ⟨m, hm⟩ := hl.mx
  refine (Tryd.strings_Split s ⟨#[32]⟩ m w (by omega) hm (by decide)).mono ?_
  rintro e w' ⟨rfl, rfl⟩
  obtain ⟨xs, hxs⟩ : ∃ xs, xs = splitB ⟨#[32]⟩ 0 (countB s ⟨#[32]⟩) s := ⟨_, rfl⟩
  have hlen : xs.length = countB s ⟨#[32]⟩ + 1 := by rw [hxs]; exact splitB_all _ (by decide) 0 _ s rfl
  rw [← hxs]
  refine ⟨some ⟨w.heap.size, 0, none⟩, xs.length, xs, by rw [hlen], ⟨rfl, fun _ => ⟨w.heap.size, 0, rfl, by simp, fun i hi => ?_⟩⟩, by rw [hxs]; exact splitB_one s 32, (Below.refl _ _).alloc (Nat.le_refl _) _⟩
  rw [cell_of_row _ _ _ _ _ (0, 0) (heap_alloc_new w _)]
  simp [hi]
theorem splitL_count (b : UInt8) (l : List UInt8) : (splitL b l).length ≤ l.length + 1 := by
  induction l with
  | nil => simp [splitL]
  | cons c r ih =>
    simp only [splitL]
    split
    · simp; omega
    · split
      · simp
      · rename_i q ps he
        rw [he] at ih
        simp at ih ⊢; omega
theorem trim45 (s : ByteArray) : trimPrefix s.data.toList [45] = bdy s.data.toList ∧ hasPrefix s.data.toList [45] = decide (s.data.toList.head? = some 45) := by
  have h2 : hasPrefix s.data.toList [45] = decide (s.data.toList.head? = some 45) := by
    unfold hasPrefix
    cases s.data.toList with
    | nil => rfl
    | cons c r =>
      rw [Bool.eq_iff_iff]
      simp [List.isPrefixOf]
      exact eq_comm
  refine ⟨?_, h2⟩
  unfold trimPrefix bdy
  rw [h2]
  by_cases h : s.data.toList.head? = some 45
  · rw [if_pos (decide_eq_true h), if_pos h]; rfl
  · rw [if_neg (by simpa using h), if_neg h]
set_option maxRecDepth 100000 in
set_option maxHeartbeats 2000000 in
theorem parseMoney_any (s : ByteArray) (hs : s.size ≤ 3000) (w : World) (hl : LibOK w) :
    Calls Tryd.prog 54 #[.string s] w (OutM w s.data.toList) := by
  obtain ⟨t, ht⟩ : ∃ t, t = s.data.toList := ⟨_, rfl⟩
  obtain ⟨g, hg⟩ : ∃ g, g = decide (s.data.toList.head? = some 45) := ⟨_, rfl⟩
  obtain ⟨b, hb⟩ : ∃ b : ByteArray, b = ⟨(bdy s.data.toList).toArray⟩ := ⟨_, rfl⟩
  have hbd : b.data.toList = bdy t := by rw [hb, ht]
  have hbs : b.size ≤ 3000 := by
    have h1 : b.size = (bdy t).length := by rw [← hbd]; simp
    have h2 : (bdy t).length ≤ t.length := by unfold bdy; split <;> simp
    have h3 : t.length = s.size := by rw [ht]; simp
    omega
  have hcp : ∀ w, Calls Tryd.prog 80 #[.string s, .string ⟨#[45]⟩] w fun e w' => e = .returned (.tuple #[.string b, .bool g]) ∧ w' = w := fun w => by
    have := Tryd.strings_CutPrefix s ⟨#[45]⟩ w
    rw [show (⟨#[45]⟩ : ByteArray).data.toList = [45] from rfl, (trim45 s).1, (trim45 s).2, ← hb, ← hg] at this
    exact this
  have HT := Lib.hid ht
  have HG := Lib.hid hg
  have HBD := Lib.hid hbd
  have HCP := Lib.hid hcp
  have HL := Lib.hid hl
  rw [← ht]
  clear ht hg hb hbd hcp hl
  go_enter Tryd.func54, Tryd.ntmps54
  go_wp2_with fail
  refine (HCP.out _).mono ?_
  rintro e w' ⟨rfl, rfl⟩
  go_wp2_with fail
  refine (split32_any b (by omega) _ HL.out).mono ?_
  rintro e w1 ⟨A, c, xs, rfl, hI, hm, hb1⟩
  rw [HBD.out] at hm
  have HM := Lib.hid hm
  have hsz : ∀ x ∈ xs, x.size ≤ 3000 := by
    intro x hx
    have := splitL_len 32 (bdy t) x.data.toList (by rw [← hm]; exact List.mem_map.2 ⟨x, hx, rfl⟩)
    rw [← HBD.out] at this
    simp at this; omega
  have hxl : xs.length ≤ 3001 := by
    have h1 := congrArg List.length hm
    have h2 := splitL_count 32 (bdy t)
    rw [← HBD.out] at h1 h2
    simp at h1 h2; omega
  have HI := Lib.hid hI
  have HB1 := Lib.hid hb1
  have HSZ := Lib.hid hsz
  have L1 := Lib.hid (HL.out.below hb1)
  have OP := fun a h0 h1 h => own_piece (a := a) HM.out h0 h1 h
  have HOP := Lib.hid OP
  clear hm hI hb1 hsz OP
  go_wp2
  go_loopw [6, 21] (fun v i wr => ∃ (S : Int) (k : Nat), v = .int .i64 S ∧ i = .int .i64 k ∧ k ≤ xs.length ∧ -(k * 2400000000000000) ≤ S ∧ S ≤ k * 2400000000000000 ∧ Hid (Below w1.heap.size w1 wr ∧ S = sumW ((xs.take k).map (·.data.toList)))) (fun _ i _ => xs.length - (RowKit.intOf i).toNat)
  case atStart => exact ⟨0, 0, rfl, rfl, by omega, by omega, by omega, Below.refl _ _, by simp [sumW]⟩
  case round =>
    obtain ⟨S, k, rfl, rfl, hk, hS0, hS1, hr⟩ := hrel
    by_cases hlt : k < xs.length
    · have hI := HI.out.below hr.out.1
      obtain ⟨gb, go, rfl, hgb, hcell⟩ := hI.2 (by omega)
      have q0 := hcell k hlt
      obtain ⟨x, hx⟩ : ∃ x, xs[k] = x := ⟨_, rfl⟩
      rw [hx] at q0
      have hxs := HSZ.out x (by rw [← hx]; exact List.getElem_mem _)
      have hxm : x ∈ xs := by rw [← hx]; exact List.getElem_mem _
      have hso := sumW_take hlt
      rw [hx, ← hr.out.2] at hso
      have HSO := Lib.hid hso
      have HXM := Lib.hid hxm
      clear hcell hI hso hxm hx
      by_cases hbad : x.size = 0 ∨ 14 < x.size
      · have HP : Hid (PrsM t 0 3) := prsM_no fun a h0 h1 h => by
          obtain ⟨-, h3⟩ := HOP.out a h0 h1 h
          obtain ⟨v, u, -, -, -, h4, h5⟩ := h3 x HXM.out
          omega
        have B2 := Lib.hid (HB1.out.trans (hr.out.1.mono HB1.out.size))
        by_cases hx0 : x.size = 0
        · have he : x.toList.isEmpty = true := by rw [Lib.toList_data, List.isEmpty_iff]; apply List.eq_nil_of_length_eq_zero; simpa using hx0
          clear hbad hx0
          go_wp2
          go_ret2
          exact ⟨0, 3, rfl, HP.out, B2.out⟩
        · have he : x.toList.isEmpty = false := by
            rw [Lib.toList_data, List.isEmpty_eq_false_iff]
            intro e
            apply hx0
            have := congrArg List.length e
            simpa using this
          have h14 : decide (14 < (x.size : Int)) = true := decide_eq_true (by omega)
          clear hbad hx0
          go_wp2
          go_ret2
          exact ⟨0, 3, rfl, HP.out, B2.out⟩
      · have he : x.toList.isEmpty = false := by
          rw [Lib.toList_data, List.isEmpty_eq_false_iff]
          intro e
          have := congrArg List.length e
          exact hbad (.inl (by simpa using this))
        have h14 : decide (14 < (x.size : Int)) = false := decide_eq_false (by omega)
        have hx1 : 1 ≤ x.size ∧ x.size ≤ 14 := by omega
        obtain ⟨hx1, hx14⟩ := hx1
        clear hbad
        have hla := last_app x (by omega)
        obtain ⟨u, hu⟩ : ∃ u, x[x.size - 1] = u := ⟨_, rfl⟩
        rw [hu] at hla
        have HLA := Lib.hid hla
        have L2 := Lib.hid (L1.out.below hr.out.1)
        clear hla
        go_wp2_with fail
        refine (atoi_any _ (by simp; omega) _ L2.out).mono ?_
        rintro e w2 ⟨n, er, rfl, hn1, hn2, hn3, hb2⟩
        have B2 := Lib.hid (hr.out.1.trans (hb2.mono hr.out.1.size))
        clear hb2
        have hxe : (x.extract 0 (x.size - 1)).data.toList.length ≤ 13 := by simp; omega
        rcases hn3 with ⟨rfl, hok⟩ | ⟨⟨N, rfl⟩, hno⟩
        case inr =>
          have HP : Hid (PrsM t 0 3) := prsM_no fun a h0 h1 h => by
            obtain ⟨-, h3⟩ := HOP.out a h0 h1 h
            obtain ⟨v, u', g1, g2, -⟩ := h3 x HXM.out
            have := List.append_inj' (HLA.out.symm.trans g1) rfl
            exact hno v (by rw [this.1]; exact atoi_itoa _ (by omega) (by omega))
          have B3 := Lib.hid (HB1.out.trans (B2.out.mono HB1.out.size))
          clear hno
          go_wp2
          go_ret2
          exact ⟨0, 3, rfl, HP.out, B3.out⟩
        case inl =>
          have hbd := atoi_short hxe hok
          have hw : wval x.data.toList = if u = 108 then 240 * n else if u = 115 then 12 * n else if u = 100 then n else 0 := by
            rw [HLA.out]
            exact wval_ok hok
          have HW := Lib.hid hw
          clear hw hok hxe
          have nq : ∀ c : UInt8, u ≠ c → ((x[x.size - 1].toNat : Int) == (c.toNat : Int)) = false := fun c h => by
            rw [hu, beq_eq_false_iff_ne]
            intro e
            exact h (UInt8.toNat.inj (by omega))
          by_cases e1 : u = 108
          · have q1 : ((x[x.size - 1].toNat : Int) == 108) = true := by rw [hu, e1]; decide
            have hS : S + 240 * n = sumW ((xs.take (k + 1)).map (·.data.toList)) := by rw [HSO.out, HW.out, if_pos e1]
            have HS := Lib.hid hS
            clear nq hu e1 hS
            go_wp2
            go_roundw
            case rel => exact ⟨S + 240 * n, k + 1, by go_num, by go_num, by omega, by omega, by omega, B2.out, HS.out⟩
            case measure => simp [RowKit.intOf]; omega
          · have q1 : ((x[x.size - 1].toNat : Int) == 108) = false := nq 108 e1
            by_cases e2 : u = 115
            · have q2 : ((x[x.size - 1].toNat : Int) == 115) = true := by rw [hu, e2]; decide
              have hS : S + 12 * n = sumW ((xs.take (k + 1)).map (·.data.toList)) := by rw [HSO.out, HW.out, if_neg e1, if_pos e2]
              have HS := Lib.hid hS
              clear nq hu e1 e2 hS
              go_wp2
              go_roundw
              case rel => exact ⟨S + 12 * n, k + 1, by go_num, by go_num, by omega, by omega, by omega, B2.out, HS.out⟩
              case measure => simp [RowKit.intOf]; omega
            · have q2 : ((x[x.size - 1].toNat : Int) == 115) = false := nq 115 e2
              by_cases e3 : u = 100
              · have q3 : ((x[x.size - 1].toNat : Int) == 100) = true := by rw [hu, e3]; decide
                have hS : S + n = sumW ((xs.take (k + 1)).map (·.data.toList)) := by rw [HSO.out, HW.out, if_neg e1, if_neg e2, if_pos e3]
                have HS := Lib.hid hS
                clear nq hu e1 e2 e3 hS
                go_wp2
                go_roundw
                case rel => exact ⟨S + n, k + 1, by go_num, by go_num, by omega, by omega, by omega, B2.out, HS.out⟩
                case measure => simp [RowKit.intOf]; omega
              · have q3 : ((x[x.size - 1].toNat : Int) == 100) = false := nq 100 e3
                have hS : S = sumW ((xs.take (k + 1)).map (·.data.toList)) := by rw [HSO.out, HW.out, if_neg e1, if_neg e2, if_neg e3]; omega
                have HS := Lib.hid hS
                clear nq hu e1 e2 e3 hS
                go_wp2
                go_roundw
                case rel => exact ⟨S, k + 1, rfl, by go_num, by omega, by omega, by omega, B2.out, HS.out⟩
                case measure => simp [RowKit.intOf]; omega
    · have hk' : k = xs.length := by omega
      obtain ⟨V, hV⟩ : ∃ V, V = (if g = true then -S else S) := ⟨_, rfl⟩
      have cp : ∀ a, -1099511627776 ≤ a → a ≤ 1099511627776 → moneyT a = t → V = a := by
        intro a h0 h1 h
        have := own_sum h0 h1 h
        rw [← HM.out] at this
        have hS := hr.out.2
        rw [hk', List.take_of_length_le (Nat.le_refl _)] at hS
        rw [← hS] at this
        rw [hV, HG.out, ← HT.out]
        by_cases hh : t.head? = some 45
        · rw [if_pos (decide_eq_true hh)]; rw [if_pos hh] at this; exact this
        · rw [if_neg (by simpa using hh)]; rw [if_neg hh] at this; exact this
      have hsb : -7300000000000000000 ≤ V ∧ V ≤ 7300000000000000000 := by rw [hV]; split <;> omega
      have CP := Lib.hid cp
      have B2 := Lib.hid (HB1.out.trans (hr.out.1.mono HB1.out.size))
      have L2 := Lib.hid (L1.out.below hr.out.1)
      have HV := Lib.hid hV
      clear cp hV hk'
      go_upto_if 66 with fail
      go_cut [6] (fun v wx => v = .int .i64 V ∧ wx = wr)
      case first =>
        cases g
        · have hv : V = S := by rw [HV.out, if_neg (by decide)]
          subst hv
          go_wp2_with fail
          go_meet
          exact ⟨rfl, rfl⟩
        · have hv : V = -S := by rw [HV.out, if_pos rfl]
          have HVV := Lib.hid hv
          clear hv
          go_wp2_with fail
          go_meet
          exact ⟨by rw [HVV.out], rfl⟩
      case rest =>
      obtain ⟨rfl, hwx⟩ := hcut
      rw [hwx]
      clear hwx
      by_cases hr1 : -1099511627776 ≤ V ∧ V ≤ 1099511627776
      · obtain ⟨r1, r2⟩ := hr1
        by_cases hq : moneyT V = t
        · have HP : Hid (PrsM t V 0) := .inl ⟨rfl, r1, r2, hq⟩
          have q1 : (moneyT V == s.toList) = true := by rw [Lib.toList_data, ← HT.out, hq]; simp
          have q2 : (moneyT V != s.toList) = false := by rw [Lib.toList_data, ← HT.out, hq]; simp
          clear hq CP
          go_wp2_with fail
          refine (formatMoney_yes V r1 r2 _ L2.out).mono ?_
          rintro e w5 ⟨rfl, hb5⟩
          go_wp2
          go_ret2
          exact ⟨V, 0, rfl, HP.out, B2.out.trans (hb5.mono B2.out.size)⟩
        · have HP : Hid (PrsM t 0 3) := prsM_no fun a h0 h1 h => by
            have := CP.out a h0 h1 h
            subst this
            exact hq h
          have q1 : (moneyT V == s.toList) = false := by rw [Lib.toList_data, ← HT.out, beq_eq_false_iff_ne]; exact hq
          have q2 : (moneyT V != s.toList) = true := by rw [Lib.toList_data, ← HT.out, bne_iff_ne]; exact hq
          clear hq CP
          go_wp2_with fail
          refine (formatMoney_yes V r1 r2 _ L2.out).mono ?_
          rintro e w5 ⟨rfl, hb5⟩
          go_wp2
          go_ret2
          exact ⟨0, 3, rfl, HP.out, B2.out.trans (hb5.mono B2.out.size)⟩
      · have HP : Hid (PrsM t 0 3) := prsM_no fun a h0 h1 h => by
          have := CP.out a h0 h1 h
          subst this
          exact hr1 ⟨h0, h1⟩
        have r3 : V < -1099511627776 ∨ 1099511627776 < V := by omega
        have R3 := Lib.hid r3
        clear r3 hr1 CP
        go_wp2_with fail
        refine (formatMoney_no V R3.out (by omega) (by omega) _).mono ?_
        rintro e w5 ⟨rfl, rfl⟩
        go_wp2
        go_ret2
        exact ⟨0, 3, rfl, HP.out, B2.out⟩
end Go.Proofs.YtclbjgelefbmlaaDoor
