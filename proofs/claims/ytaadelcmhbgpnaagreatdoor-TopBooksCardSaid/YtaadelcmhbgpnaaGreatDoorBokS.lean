/-
  BOOKS: Validate of postings, the program's.
-/
import Derived.Test.YtaadelcmhbgpnaaGreatDoorBokN
import Derived.Test.YtaadelcmhbgpnaaGreatDoorRegM
namespace Go.Proofs.YtaadelcmhbgpnaaGreatDoor
open Go.RowKit
open Go.Lib
theorem toList_eq {a b : ByteArray} (h : a.data.toList = b.data.toList) : a = b := by
  cases a; cases b
  simp only at h
  rw [Array.toList_inj.1 h]
theorem val_large {l : List Po} (h : 64 < l.length) : valPo l = 4 := if_pos h
theorem val_name {l : List Po} (h : ¬ 64 < l.length) {k : Nat} (hk : k < l.length) (hn : nmP l[k] = false) : valPo l = 2 := by
  rw [valPo, if_neg h, if_pos]
  rw [Bool.eq_false_iff]
  intro h2
  have := List.all_eq_true.1 h2 l[k] (List.getElem_mem hk)
  rw [hn] at this; cases this
theorem names_all {l : List Po} (h : ∀ k (hk : k < l.length), nmP l[k] = true) : l.all nmP = true := by
  rw [List.all_eq_true]
  intro x hx
  obtain ⟨k, hk, rfl⟩ := List.mem_iff_getElem.1 hx
  exact h k hk
theorem val_arg {l : List Po} (h : ¬ 64 < l.length) (ha : l.all nmP = true) {k : Nat} (hk : k < l.length) (hn : okP l[k] = false) : valPo l = 1 := by
  rw [valPo, if_neg h, if_neg (by rw [ha]; simp), if_pos]
  rw [Bool.eq_false_iff]
  intro h2
  have := List.all_eq_true.1 h2 l[k] (List.getElem_mem hk)
  rw [hn] at this; cases this
theorem val_ok {l : List Po} (h : ¬ 64 < l.length) (ha : l.all nmP = true) (hb : ∀ k (hk : k < l.length), okP l[k] = true) : valPo l = 0 := by
  rw [valPo, if_neg h, if_neg (by rw [ha]; simp), if_neg]
  have : l.all okP = true := by
    rw [List.all_eq_true]
    intro x hx
    obtain ⟨k, hk, rfl⟩ := List.mem_iff_getElem.1 hx
    exact hb k hk
  rw [this]; simp
set_option maxRecDepth 100000 in
set_option maxHeartbeats 4000000 in
theorem pval_any (l : List Po) (A : Option Addr) (c : Nat) (hn : l.length ≤ 1000000) (w : World) (hI : IsPo w A l) :
    Calls Tryz.prog 30 #[.slice A l.length c] w fun e w' => e = .returned (.int .i64 (valPo l)) ∧ Below w.heap.size w w' := by
  by_cases h64 : 64 < l.length
  · have HV := Lib.hid (val_large h64)
    have d0 : (64 : Int) < (l.length : Int) := by omega
    clear h64 hI
    go_enter Tryz.func30, Tryz.ntmps30
    go_wp2
    go_ret
    exact ⟨by rw [HV.out] <;> rfl, Below.refl _ _⟩
  have HI := Lib.hid hI
  have H64 := Lib.hid h64
  have d0 : ¬ (64 : Int) < (l.length : Int) := by omega
  clear h64 hI
  go_enter Tryz.func30, Tryz.ntmps30
  go_upto_region 4 with fail
  go_loopw [12] (fun i wr => ∃ k : Nat, i = .int .i64 k ∧ k ≤ l.length ∧ Hid (Below w.heap.size w wr) ∧ Hid (∀ j (h : j < l.length), j < k → nmP l[j] = true)) (fun i _ => l.length - (intOf i).toNat)
  case atStart => exact ⟨0, rfl, by omega, Lib.hid (Below.refl _ _), Lib.hid fun j h hj => by omega⟩
  case round =>
    obtain ⟨k, rfl, hk, hB, hr⟩ := hrel
    by_cases hlt : k < l.length
    · have dl : decide ((k : Int) < (l.length : Int)) = true := decide_eq_true (by omega)
      obtain ⟨b, o, rfl, hb, hc⟩ := (HI.out.below hB.out) (by omega)
      obtain ⟨x, hx⟩ : ∃ x, l[k] = x := ⟨_, rfl⟩
      obtain ⟨q0, q1, q2⟩ := hc k hlt
      rw [hx] at q0 q1 q2
      have HX := Lib.hid hx
      clear hc hx
      have hX0 := Box3.new wr (.string x.d) (.string x.c) (.int .i64 x.p) 65
      have hB0 : Below w.heap.size w (wr.alloc (.cells #[.string x.d, .string x.c, .int .i64 x.p] 65)) := hB.out.trans ((below_new wr _).mono hB.out.size)
      obtain ⟨u, hu⟩ : ∃ u, u = wr.alloc (.cells #[.string x.d, .string x.c, .int .i64 x.p] 65) := ⟨_, rfl⟩
      obtain ⟨v, hv⟩ : ∃ v, v = wr.heap.size := ⟨_, rfl⟩
      rw [← hu, ← hv] at hX0
      rw [← hu] at hB0
      have HU := Lib.hid hu
      have HV := Lib.hid hv
      have HB0 := Lib.hid hB0
      clear hu hv hB0
      go_wp2_with fail
      rw [← HU.out, ← HV.out]
      have hx1 := hX0
      cases hd : nameT x.d.data.toList
      · have HN := Lib.hid (val_name H64.out hlt (show nmP l[k] = false by rw [HX.out, nmP, hd]; rfl))
        refine (pname_any x.d _).mono ?_
        rw [hd]
        rintro e w1 ⟨rfl, hb1⟩
        have HB1 := Lib.hid (HB0.out.trans (hb1.mono HB0.out.size))
        clear hX0 hx1 hb1 hd hr HB0
        go_wp2
        go_ret
        exact ⟨by rw [HN.out] <;> rfl, HB1.out⟩
      · refine (pname_any x.d _).mono ?_
        rw [hd]
        rintro e w1 ⟨rfl, hb1⟩
        have HB1 := Lib.hid (HB0.out.trans (hb1.mono HB0.out.size))
        have hX1 := hX0.keep hb1
        obtain ⟨x0, x1, x2, y0, y1, y2, y3⟩ := hX1
        have HD := Lib.hid hd
        clear hX0 hx1 hb1 hd HB0
        go_wp2_with fail
        cases hd : nameT x.c.data.toList
        · have HN := Lib.hid (val_name H64.out hlt (show nmP l[k] = false by rw [HX.out, nmP, hd, Bool.and_false]))
          refine (pname_any x.c _).mono ?_
          rw [hd]
          rintro e w2 ⟨rfl, hb2⟩
          have HB2 := Lib.hid (HB1.out.trans (hb2.mono HB1.out.size))
          clear hb2 hd hr HB1 x0 x1 x2 y0 y1 y2 y3
          go_wp2
          go_ret
          exact ⟨by rw [HN.out] <;> rfl, HB2.out⟩
        · have HR := Lib.hid (show ∀ j (h : j < l.length), j < k + 1 → nmP l[j] = true from fun j h hj => by
            by_cases he : j < k
            · exact hr.out j h he
            · obtain rfl : j = k := by omega
              rw [HX.out, nmP, hd, HD.out]; rfl)
          refine (pname_any x.c _).mono ?_
          rw [hd]
          rintro e w2 ⟨rfl, hb2⟩
          have HB2 := Lib.hid (HB1.out.trans (hb2.mono HB1.out.size))
          clear hb2 hd hr HB1 x0 x1 x2 y0 y1 y2 y3
          go_wp2
          go_roundw
          case rel => exact ⟨k + 1, by go_num, by omega, HB2, HR⟩
          case measure => simp [intOf]; omega
    · have dl : decide ((k : Int) < (l.length : Int)) = false := decide_eq_false (by omega)
      have HA := Lib.hid (names_all (l := l) fun j h => hr.out j h (by omega))
      have HW := hB
      clear hr hB
      go_upto_region 10 with fail
      go_loopw [29] (fun i w2 => ∃ k : Nat, i = .int .i64 k ∧ k ≤ l.length ∧ Hid (Below w.heap.size w w2) ∧ Hid (∀ j (h : j < l.length), j < k → okP l[j] = true)) (fun i _ => l.length - (intOf i).toNat)
      case atStart => exact ⟨0, rfl, by omega, HW, Lib.hid fun j h hj => by omega⟩
      case round =>
        clear hlt dl hk HW
        obtain ⟨k, rfl, hk, hB, hr⟩ := hrel
        by_cases hlt : k < l.length
        · have dl : decide ((k : Int) < (l.length : Int)) = true := decide_eq_true (by omega)
          obtain ⟨b, o, rfl, hb, hc⟩ := (HI.out.below hB.out) (by omega)
          obtain ⟨x, hx⟩ : ∃ x, l[k] = x := ⟨_, rfl⟩
          obtain ⟨q0, q1, q2⟩ := hc k hlt
          rw [hx] at q0 q1 q2
          have HX := Lib.hid hx
          have HB0 : Hid (Below w.heap.size w (wr.alloc (.cells #[.string x.d, .string x.c, .int .i64 x.p] 65))) := Lib.hid (hB.out.trans ((below_new wr _).mono hB.out.size))
          clear hc hx
          cases he : (x.d.toList == x.c.toList)
          · by_cases h1 : x.p < 1
            · have HN := Lib.hid (val_arg H64.out HA.out hlt (show okP l[k] = false by rw [HX.out, Bool.eq_false_iff]; intro h; have := okP_iff.1 h; omega))
              have d1 : decide (x.p < 1) = true := decide_eq_true h1
              clear hr h1
              go_wp2
              go_ret
              exact ⟨by rw [HN.out] <;> rfl, HB0.out⟩
            · have d1 : decide (x.p < 1) = false := decide_eq_false h1
              by_cases h2 : 1099511627776 < x.p
              · have HN := Lib.hid (val_arg H64.out HA.out hlt (show okP l[k] = false by rw [HX.out, Bool.eq_false_iff]; intro h; have := okP_iff.1 h; omega))
                have d2 : decide (1099511627776 < x.p) = true := decide_eq_true h2
                clear hr h1 h2
                go_wp2
                go_ret
                exact ⟨by rw [HN.out] <;> rfl, HB0.out⟩
              · have d2 : decide (1099511627776 < x.p) = false := decide_eq_false h2
                have HR := Lib.hid (show ∀ j (h : j < l.length), j < k + 1 → okP l[j] = true from fun j h hj => by
                  by_cases he2 : j < k
                  · exact hr.out j h he2
                  · obtain rfl : j = k := by omega
                    rw [HX.out, okP_iff]
                    refine ⟨fun e => ?_, by omega, by omega⟩
                    rw [e] at he; simp at he)
                clear hr h1 h2
                go_wp2
                go_roundw
                case rel => exact ⟨k + 1, by go_num, by omega, HB0, HR⟩
                case measure => simp [intOf]; omega
          · have HN := Lib.hid (val_arg H64.out HA.out hlt (show okP l[k] = false by
              rw [HX.out, Bool.eq_false_iff]; intro h
              refine (okP_iff.1 h).1 (toList_eq (by rw [← Lib.toList_data, ← Lib.toList_data]; exact eq_of_beq he))))
            clear hr
            go_wp2
            go_ret
            exact ⟨by rw [HN.out] <;> rfl, HB0.out⟩
        · have dl : decide ((k : Int) < (l.length : Int)) = false := decide_eq_false (by omega)
          have HV := Lib.hid (val_ok H64.out HA.out fun j h => hr.out j h (by omega))
          clear hr
          go_wp2
          go_ret
          exact ⟨by rw [HV.out] <;> rfl, hB.out⟩
end Go.Proofs.YtaadelcmhbgpnaaGreatDoor
/-
  BOOKS: Validate of postings, the reference's.
-/
namespace Go.Proofs.YtaadelcmhbgpnaaGreatDoor
open Go.RowKit
open Go.Lib
attribute [local go_sem] grow_cell grow_frozen
set_option maxRecDepth 100000 in
set_option maxHeartbeats 4000000 in
theorem rval_any (l : List Po) (A : Option Addr) (c : Nat) (hn : l.length ≤ 1000000) (w : World) (hI : IsPo w A l) :
    Calls Tryz.prog 31 #[.slice A l.length c] w fun e w' => e = .returned (.int .i64 (valPo l)) ∧ Below w.heap.size w w' := by
  by_cases h64 : 64 < l.length
  · have HV := Lib.hid (val_large h64)
    have d0 : (64 : Int) < (l.length : Int) := by omega
    clear h64 hI
    go_enter Tryz.func31, Tryz.ntmps31
    go_wp2
    go_ret
    exact ⟨by rw [HV.out] <;> rfl, Below.refl _ _⟩
  have HI := Lib.hid hI
  have H64 := Lib.hid h64
  have d0 : ¬ (64 : Int) < (l.length : Int) := by omega
  clear h64 hI
  go_enter Tryz.func31, Tryz.ntmps31
  go_upto_region 4 with fail
  go_loopw [3] (fun i wr => ∃ k : Nat, i = .int .i64 k ∧ k ≤ l.length ∧ Hid (Below w.heap.size w wr) ∧ Hid (∀ j (h : j < l.length), j < k → nmP l[j] = true)) (fun i _ => l.length - (intOf i).toNat)
  case atStart => exact ⟨0, rfl, by omega, Lib.hid (Below.refl _ _), Lib.hid fun j h hj => by omega⟩
  case round =>
    obtain ⟨k, rfl, hk, hB, hr⟩ := hrel
    by_cases hlt : k < l.length
    · have dl : decide ((k : Int) < (l.length : Int)) = true := decide_eq_true (by omega)
      obtain ⟨b, o, rfl, hb, hc⟩ := (HI.out.below hB.out) (by omega)
      obtain ⟨x, hx⟩ : ∃ x, l[k] = x := ⟨_, rfl⟩
      obtain ⟨q0, q1, q2⟩ := hc k hlt
      rw [hx] at q0 q1 q2
      have HX := Lib.hid hx
      clear hc hx
      go_wp2_with fail
      cases hd : nameT x.d.data.toList
      · have HN := Lib.hid (val_name H64.out hlt (show nmP l[k] = false by rw [HX.out, nmP, hd]; rfl))
        refine (rname_any x.d _).mono ?_
        rw [hd]
        rintro e w1 ⟨rfl, rfl⟩
        clear hd hr
        go_wp2
        go_ret
        exact ⟨by rw [HN.out] <;> rfl, hB.out⟩
      · refine (rname_any x.d _).mono ?_
        rw [hd]
        rintro e w1 ⟨rfl, rfl⟩
        have HD := Lib.hid hd
        clear hd
        go_wp2_with fail
        cases hd : nameT x.c.data.toList
        · have HN := Lib.hid (val_name H64.out hlt (show nmP l[k] = false by rw [HX.out, nmP, hd, Bool.and_false]))
          refine (rname_any x.c _).mono ?_
          rw [hd]
          rintro e w2 ⟨rfl, rfl⟩
          clear hd hr
          go_wp2
          go_ret
          exact ⟨by rw [HN.out] <;> rfl, hB.out⟩
        · have HR := Lib.hid (show ∀ j (h : j < l.length), j < k + 1 → nmP l[j] = true from fun j h hj => by
            by_cases he : j < k
            · exact hr.out j h he
            · obtain rfl : j = k := by omega
              rw [HX.out, nmP, hd, HD.out]; rfl)
          refine (rname_any x.c _).mono ?_
          rw [hd]
          rintro e w2 ⟨rfl, rfl⟩
          clear hd hr
          go_wp2
          go_roundw
          case rel => exact ⟨k + 1, by go_num, by omega, hB, HR⟩
          case measure => simp [intOf]; omega
    · have dl : decide ((k : Int) < (l.length : Int)) = false := decide_eq_false (by omega)
      have HA := Lib.hid (names_all (l := l) fun j h => hr.out j h (by omega))
      have HW := hB
      clear hr hB
      go_upto_region 9 with fail
      go_loopw [4] (fun i w2 => ∃ k : Nat, i = .int .i64 k ∧ k ≤ l.length ∧ Hid (Below w.heap.size w w2) ∧ Hid (∀ j (h : j < l.length), j < k → okP l[j] = true)) (fun i _ => l.length - (intOf i).toNat)
      case atStart => exact ⟨0, rfl, by omega, HW, Lib.hid fun j h hj => by omega⟩
      case round =>
        clear hlt dl hk HW
        obtain ⟨k, rfl, hk, hB, hr⟩ := hrel
        by_cases hlt : k < l.length
        · have dl : decide ((k : Int) < (l.length : Int)) = true := decide_eq_true (by omega)
          obtain ⟨b, o, rfl, hb, hc⟩ := (HI.out.below hB.out) (by omega)
          obtain ⟨x, hx⟩ : ∃ x, l[k] = x := ⟨_, rfl⟩
          obtain ⟨q0, q1, q2⟩ := hc k hlt
          rw [hx] at q0 q1 q2
          have HX := Lib.hid hx
          clear hc hx
          cases he : (x.d.toList == x.c.toList)
          · by_cases h1 : x.p < 1
            · have HN := Lib.hid (val_arg H64.out HA.out hlt (show okP l[k] = false by rw [HX.out, Bool.eq_false_iff]; intro h; have := okP_iff.1 h; omega))
              have d1 : decide (x.p < 1) = true := decide_eq_true h1
              clear hr h1
              go_upto_region 11 with fail
              refine region_grow (by kernel_rfl) (by kernel_rfl) ?_
              repeat (go_big_quiet_step ((fail)))
              refine wpQuiet_nil ?_
              rintro w5 ⟨xg, hxg⟩
              have hb5 := below_grow wr xg
              rw [← hxg] at hb5
              clear hxg xg
              have HB5 := Lib.hid (hB.out.trans (hb5.mono hB.out.size))
              clear hb5
              go_wp2
              go_ret
              exact ⟨by rw [HN.out] <;> rfl, HB5.out⟩
            · have d1 : decide (x.p < 1) = false := decide_eq_false h1
              by_cases h2 : 1099511627776 < x.p
              · have HN := Lib.hid (val_arg H64.out HA.out hlt (show okP l[k] = false by rw [HX.out, Bool.eq_false_iff]; intro h; have := okP_iff.1 h; omega))
                have d2 : decide (1099511627776 < x.p) = true := decide_eq_true h2
                clear hr h1 h2
                go_upto_region 11 with fail
                refine region_grow (by kernel_rfl) (by kernel_rfl) ?_
                repeat (go_big_quiet_step ((fail)))
                refine wpQuiet_nil ?_
                rintro w5 ⟨xg, hxg⟩
                have hb5 := below_grow wr xg
                rw [← hxg] at hb5
                clear hxg xg
                have HB5 := Lib.hid (hB.out.trans (hb5.mono hB.out.size))
                clear hb5
                go_wp2
                go_ret
                exact ⟨by rw [HN.out] <;> rfl, HB5.out⟩
              · have d2 : decide (1099511627776 < x.p) = false := decide_eq_false h2
                have HR := Lib.hid (show ∀ j (h : j < l.length), j < k + 1 → okP l[j] = true from fun j h hj => by
                  by_cases he2 : j < k
                  · exact hr.out j h he2
                  · obtain rfl : j = k := by omega
                    rw [HX.out, okP_iff]
                    refine ⟨fun e => ?_, by omega, by omega⟩
                    rw [e] at he; simp at he)
                clear hr h1 h2
                go_upto_region 11 with fail
                refine region_grow (by kernel_rfl) (by kernel_rfl) ?_
                repeat (go_big_quiet_step ((fail)))
                refine wpQuiet_nil ?_
                rintro w5 ⟨xg, hxg⟩
                have hb5 := below_grow wr xg
                rw [← hxg] at hb5
                clear hxg xg
                have HB5 := Lib.hid (hB.out.trans (hb5.mono hB.out.size))
                clear hb5
                go_wp2
                go_roundw
                case rel => exact ⟨k + 1, by go_num, by omega, HB5, HR⟩
                case measure => simp [intOf]; omega
          · have HN := Lib.hid (val_arg H64.out HA.out hlt (show okP l[k] = false by
              rw [HX.out, Bool.eq_false_iff]; intro h
              refine (okP_iff.1 h).1 (toList_eq (by rw [← Lib.toList_data, ← Lib.toList_data]; exact eq_of_beq he))))
            clear hr
            go_upto_region 11 with fail
            refine region_grow (by kernel_rfl) (by kernel_rfl) ?_
            repeat (go_big_quiet_step ((fail)))
            refine wpQuiet_nil ?_
            rintro w5 ⟨xg, hxg⟩
            have hb5 := below_grow wr xg
            rw [← hxg] at hb5
            clear hxg xg
            have HB5 := Lib.hid (hB.out.trans (hb5.mono hB.out.size))
            clear hb5
            go_wp2
            go_ret
            exact ⟨by rw [HN.out] <;> rfl, HB5.out⟩
        · have dl : decide ((k : Int) < (l.length : Int)) = false := decide_eq_false (by omega)
          have HV := Lib.hid (val_ok H64.out HA.out fun j h => hr.out j h (by omega))
          clear hr
          go_wp2
          go_ret
          exact ⟨by rw [HV.out] <;> rfl, hB.out⟩
end Go.Proofs.YtaadelcmhbgpnaaGreatDoor
