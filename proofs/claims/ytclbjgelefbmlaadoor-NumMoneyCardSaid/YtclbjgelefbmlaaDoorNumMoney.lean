/-
  THE WALK OF THE LAW NumMoney: it returns true.
-/
import Derived.Test.YtclbjgelefbmlaaDoorMonD
import Derived.Test.YtclbjgelefbmlaaDoorKnown
namespace Go.Proofs.YtclbjgelefbmlaaDoor
open Go.RowKit Go.Lib
theorem moneyT_len {p : Int} (h1 : -1099511627776 ≤ p) (h2 : p ≤ 1099511627776) : (moneyT p).length ≤ 100 := by
  have hj : (join (wordsM p.natAbs) [32]).length ≤ 50 := by
    by_cases h0 : p.natAbs = 0
    · rw [h0]; decide +kernel
    · exact words_join_len (by omega) h0
  unfold moneyT
  split
  · rw [List.length_cons]; omega
  · omega
theorem moneyT_back {p q z : Int} (h1 : -1099511627776 ≤ p) (h2 : p ≤ 1099511627776) (hp : PrsM (moneyT p) q z) : q = p ∧ z = 0 := PrsM.unique hp (.inl ⟨rfl, h1, h2, rfl⟩)
set_option maxRecDepth 100000 in
set_option maxHeartbeats 4000000 in
theorem numMoney_walk (p : Int) (s : ByteArray) (hp : -9223372036854775808 ≤ p) (kp : p ≤ 9223372036854775807) (w : World) (hl : LibOK w) :
    Calls Tryd.prog 15 #[.int .i64 p, .string s] w fun e w' => e = .returned (.bool true) ∧ Below w.heap.size w w' := by
  by_cases hlen : 1000 < s.size
  · go_enter Tryd.func15, Tryd.ntmps15
    go_wp2_with (go_at_call 20; refine (known_any _).mono ?_; rintro e w6 ⟨rfl, hb6⟩)
    go_ret
    exact ⟨rfl, (by repeat' (first | (with_reducible exact Below.refl _ _) | (with_reducible assumption) | (with_reducible refine below_drewN ?_ _) | (with_reducible refine below_step (by assumption) ?_ ?_) | (with_reducible refine Below.alloc ?_ ?_ _) | (with_reducible refine Below.setCell ?_ ?_ _) | (with_reducible refine Below.drew ?_) | go_size | (exact Below.size (by assumption)) | (refine Nat.le_trans (Below.size (by assumption)) ?_)))⟩
  have HL := Lib.hid hl
  clear hl
  by_cases hv : -1099511627776 ≤ p ∧ p ≤ 1099511627776
  · obtain ⟨v1, v2⟩ := hv
    have hfl := moneyT_len v1 v2
    have hbk := fun q z => moneyT_back (q := q) (z := z) v1 v2
    have HBK := Lib.hid hbk
    clear hbk
    go_enter Tryd.func15, Tryd.ntmps15
    go_wp2_with fail
    refine (formatMoney_yes p v1 v2 _ HL.out).mono ?_
    rintro e w1 ⟨rfl, hb1⟩
    go_wp2_with fail
    refine (rformatMoney_yes p v1 v2 _).mono ?_
    rintro e w2 ⟨rfl, hb2⟩
    have B2 := Lib.hid (hb1.trans (hb2.mono hb1.size))
    clear hb1 hb2
    go_wp2_with fail
    refine (parseMoney_any s (by omega) _ (HL.out.below B2.out)).mono ?_
    rintro e w3 ⟨n, z, rfl, hp, hb3⟩
    have HP := Lib.hid hp
    clear hp
    go_wp2_with fail
    refine (rparseMoney_any s (by omega) _).mono ?_
    rintro e w4 ⟨n', z', rfl, hp, hb4⟩
    obtain ⟨rfl, rfl⟩ := PrsM.unique HP.out hp
    clear hp
    have B4 := Lib.hid (B2.out.trans ((hb3.trans (hb4.mono hb3.size)).mono B2.out.size))
    clear hb3 hb4
    go_wp2_with fail
    refine (parseMoney_any ⟨(moneyT p).toArray⟩ (by show (moneyT p).toArray.size ≤ _; simp; omega) _ (HL.out.below B4.out)).mono ?_
    rintro e w5 ⟨n2, z2, rfl, hp2, hb5⟩
    obtain ⟨rfl, rfl⟩ := HBK.out n2 z2 hp2
    have B5 := Lib.hid (B4.out.trans (hb5.mono B4.out.size))
    clear hp2 hb5
    go_wp2_with (go_at_call 20; refine (known_any _).mono ?_; rintro e w6 ⟨rfl, hb6⟩)
    go_ret
    exact ⟨rfl, B5.out.trans (hb6.mono B5.out.size)⟩
  · have hv' : p < -1099511627776 ∨ 1099511627776 < p := by omega
    have HV := Lib.hid hv'
    clear hv hv'
    go_enter Tryd.func15, Tryd.ntmps15
    go_wp2_with fail
    refine (formatMoney_no p HV.out (by omega) (by omega) _).mono ?_
    rintro e w1 ⟨rfl, rfl⟩
    go_wp2_with fail
    refine (rformatMoney_no p HV.out (by omega) (by omega) _).mono ?_
    rintro e w2 ⟨rfl, hb2⟩
    have B2 := Lib.hid hb2
    clear hb2
    go_wp2_with fail
    refine (parseMoney_any s (by omega) _ (HL.out.below B2.out)).mono ?_
    rintro e w3 ⟨n, z, rfl, hp, hb3⟩
    have HP := Lib.hid hp
    clear hp
    go_wp2_with fail
    refine (rparseMoney_any s (by omega) _).mono ?_
    rintro e w4 ⟨n', z', rfl, hp, hb4⟩
    obtain ⟨rfl, rfl⟩ := PrsM.unique HP.out hp
    clear hp
    have B4 := Lib.hid (B2.out.trans ((hb3.trans (hb4.mono hb3.size)).mono B2.out.size))
    clear hb3 hb4
    go_wp2_with fail
    refine (parseMoney_any ⟨#[]⟩ (by decide) _ (HL.out.below B4.out)).mono ?_
    rintro e w5 ⟨n2, z2, rfl, hp2, hb5⟩
    have B5 := Lib.hid (B4.out.trans (hb5.mono B4.out.size))
    clear hp2 hb5
    go_wp2_with (go_at_call 20; refine (known_any _).mono ?_; rintro e w6 ⟨rfl, hb6⟩)
    go_ret
    exact ⟨rfl, B5.out.trans (hb6.mono B5.out.size)⟩
end Go.Proofs.YtclbjgelefbmlaaDoor
