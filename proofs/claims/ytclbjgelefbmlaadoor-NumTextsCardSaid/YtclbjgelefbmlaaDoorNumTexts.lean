/-
  THE WALK OF THE LAW NumTexts: it returns true.
-/
import Derived.Test.YtclbjgelefbmlaaDoorTxtK
import Derived.Test.YtclbjgelefbmlaaDoorKnown
namespace Go.Proofs.YtclbjgelefbmlaaDoor
open Go.RowKit Go.Lib
theorem fmtR_len {n d : Int} (h : vld n d = true) : (fmtR n d).length ≤ 100 := by
  have b := vld_bds h
  have l1 := itoa_length_le n (by omega) (by omega)
  have l2 := itoa_length_le d (by omega) (by omega)
  unfold fmtR
  split
  · omega
  · rw [List.length_append, List.length_cons]; omega
theorem fmtR_back {n d a b z : Int} (h : vld n d = true) (hp : PrsR (fmtR n d) a b z) : a = n ∧ b = d ∧ z = 0 := PrsR.unique hp (.inl ⟨rfl, h, rfl⟩)
set_option maxRecDepth 100000 in
set_option maxHeartbeats 4000000 in
theorem numTexts_walk (a1 a2 : Int) (s : ByteArray) (ha1 : -9223372036854775808 ≤ a1) (ka1 : a1 ≤ 9223372036854775807) (ha2 : -9223372036854775808 ≤ a2) (ka2 : a2 ≤ 9223372036854775807) (w : World) (hl : LibOK w) :
    Calls Tryd.prog 14 #[.agg #[.int .i64 a1, .int .i64 a2], .string s] w fun e w' => e = .returned (.bool true) ∧ Below w.heap.size w w' := by
  by_cases hlen : 1000 < s.size
  · go_enter Tryd.func14, Tryd.ntmps14
    go_wp2_with (go_at_call 20; refine (known_any _).mono ?_; rintro e w6 ⟨rfl, hb6⟩)
    go_ret
    exact ⟨rfl, (by repeat' (first | (with_reducible exact Below.refl _ _) | (with_reducible assumption) | (with_reducible refine below_drewN ?_ _) | (with_reducible refine below_step (by assumption) ?_ ?_) | (with_reducible refine Below.alloc ?_ ?_ _) | (with_reducible refine Below.setCell ?_ ?_ _) | (with_reducible refine Below.drew ?_) | go_size | (exact Below.size (by assumption)) | (refine Nat.le_trans (Below.size (by assumption)) ?_)))⟩
  have HL := Lib.hid hl
  clear hl
  by_cases hv : vld a1 a2 = true
  · have hfl := fmtR_len hv
    obtain ⟨v1, v2, v3, v4⟩ := vld_bds hv
    have hbk := fun a b z => fmtR_back (a := a) (b := b) (z := z) hv
    have HBK := Lib.hid hbk
    have HV := Lib.hid hv
    clear hv hbk
    go_enter Tryd.func14, Tryd.ntmps14
    go_wp2_with fail
    have hB0 : Below w.heap.size w (w.alloc (.cells #[.int .i64 a1, .int .i64 a2] 23)) := (by repeat' (first | (with_reducible exact Below.refl _ _) | (with_reducible assumption) | (with_reducible refine below_drewN ?_ _) | (with_reducible refine below_step (by assumption) ?_ ?_) | (with_reducible refine Below.alloc ?_ ?_ _) | (with_reducible refine Below.setCell ?_ ?_ _) | (with_reducible refine Below.drew ?_) | go_size | (exact Below.size (by assumption)) | (refine Nat.le_trans (Below.size (by assumption)) ?_)))
    refine (formatRat_yes a1 a2 (by omega) (by omega) (by omega) (by omega) HV.out _ (HL.out.below hB0)).mono ?_
    rintro e w1 ⟨rfl, hb1⟩
    (have xa : Box2 w1 (w.heap.size) (.int .i64 a1) (.int .i64 a2) := Box2.keep (by assumption) (by repeat' (first | (with_reducible assumption) | (with_reducible refine Box2.drewN ?_ _) | (with_reducible refine Box2.drew ?_) | (with_reducible exact Box2.new _ _ _ _) | (with_reducible exact Box2.new1 _ _ _ _ _) | (with_reducible exact Box2.new2 _ _ _ _ _ _) | (with_reducible refine Box2.alloc ?_ _))); obtain ⟨c0xa, c1xa, f0xa, f1xa, zxa⟩ := id xa)
    go_wp2_with fail
    refine (rformatRat_yes a1 a2 (by omega) (by omega) (by omega) (by omega) HV.out _).mono ?_
    rintro e w2 ⟨rfl, hb2⟩
    (have xb : Box2 w2 (w.heap.size) (.int .i64 a1) (.int .i64 a2) := Box2.keep (by assumption) (by repeat' (first | (with_reducible assumption) | (with_reducible refine Box2.drewN ?_ _) | (with_reducible refine Box2.drew ?_) | (with_reducible exact Box2.new _ _ _ _) | (with_reducible exact Box2.new1 _ _ _ _ _) | (with_reducible exact Box2.new2 _ _ _ _ _ _) | (with_reducible refine Box2.alloc ?_ _))); obtain ⟨c0xb, c1xb, f0xb, f1xb, zxb⟩ := id xb)
    have hB2 : Below w.heap.size w w2 := (by repeat' (first | (with_reducible exact Below.refl _ _) | (with_reducible assumption) | (with_reducible refine below_drewN ?_ _) | (with_reducible refine below_step (by assumption) ?_ ?_) | (with_reducible refine Below.alloc ?_ ?_ _) | (with_reducible refine Below.setCell ?_ ?_ _) | (with_reducible refine Below.drew ?_) | go_size | (exact Below.size (by assumption)) | (refine Nat.le_trans (Below.size (by assumption)) ?_)))
    have L2 := Lib.hid (HL.out.below hB2)
    clear hB0 hB2
    go_wp2_with fail
    refine (parseRat_any s (by omega) _ L2.out).mono ?_
    rintro e w3 ⟨n, d, z, rfl, hp, hb3⟩
    have HP := Lib.hid hp
    clear hp
    (have xc : Box2 w3 (w.heap.size) (.int .i64 a1) (.int .i64 a2) := Box2.keep (by assumption) (by repeat' (first | (with_reducible assumption) | (with_reducible refine Box2.drewN ?_ _) | (with_reducible refine Box2.drew ?_) | (with_reducible exact Box2.new _ _ _ _) | (with_reducible exact Box2.new1 _ _ _ _ _) | (with_reducible exact Box2.new2 _ _ _ _ _ _) | (with_reducible refine Box2.alloc ?_ _))); obtain ⟨c0xc, c1xc, f0xc, f1xc, zxc⟩ := id xc)
    go_wp2_with fail
    refine (rparseRat_any s (by omega) _).mono ?_
    rintro e w4 ⟨n', d', z', rfl, hp, hb4⟩
    obtain ⟨rfl, rfl, rfl⟩ := PrsR.unique HP.out hp
    clear hp
    (have xd : Box2 w4 (w.heap.size) (.int .i64 a1) (.int .i64 a2) := Box2.keep (by assumption) (by repeat' (first | (with_reducible assumption) | (with_reducible refine Box2.drewN ?_ _) | (with_reducible refine Box2.drew ?_) | (with_reducible exact Box2.new _ _ _ _) | (with_reducible exact Box2.new1 _ _ _ _ _) | (with_reducible exact Box2.new2 _ _ _ _ _ _) | (with_reducible refine Box2.alloc ?_ _))); obtain ⟨c0xd, c1xd, f0xd, f1xd, zxd⟩ := id xd)
    (have xe : Box2 w4 (w3.heap.size) (.int .i64 n) (.int .i64 d) := Box2.keep (by assumption) (by repeat' (first | (with_reducible assumption) | (with_reducible refine Box2.drewN ?_ _) | (with_reducible refine Box2.drew ?_) | (with_reducible exact Box2.new _ _ _ _) | (with_reducible exact Box2.new1 _ _ _ _ _) | (with_reducible exact Box2.new2 _ _ _ _ _ _) | (with_reducible refine Box2.alloc ?_ _))); obtain ⟨c0xe, c1xe, f0xe, f1xe, zxe⟩ := id xe)
    have hB4 : Below w.heap.size w w4 := (by repeat' (first | (with_reducible exact Below.refl _ _) | (with_reducible assumption) | (with_reducible refine below_drewN ?_ _) | (with_reducible refine below_step (by assumption) ?_ ?_) | (with_reducible refine Below.alloc ?_ ?_ _) | (with_reducible refine Below.setCell ?_ ?_ _) | (with_reducible refine Below.drew ?_) | go_size | (exact Below.size (by assumption)) | (refine Nat.le_trans (Below.size (by assumption)) ?_)))
    have L4 := Lib.hid (HL.out.below (hB4.alloc hB4.size (.cells #[.int .i64 n, .int .i64 d] 23)))
    clear hB4
    go_wp2_with fail
    refine (parseRat_any ⟨(fmtR a1 a2).toArray⟩ (by show (fmtR a1 a2).toArray.size ≤ _; simp; omega) _ L4.out).mono ?_
    rintro e w5 ⟨n2, d2, z2, rfl, hp2, hb5⟩
    obtain ⟨rfl, rfl, rfl⟩ := HBK.out n2 d2 z2 hp2
    clear hp2
    (have xf : Box2 w5 (w.heap.size) (.int .i64 n2) (.int .i64 d2) := Box2.keep (by assumption) (by repeat' (first | (with_reducible assumption) | (with_reducible refine Box2.drewN ?_ _) | (with_reducible refine Box2.drew ?_) | (with_reducible exact Box2.new _ _ _ _) | (with_reducible exact Box2.new1 _ _ _ _ _) | (with_reducible exact Box2.new2 _ _ _ _ _ _) | (with_reducible refine Box2.alloc ?_ _))); obtain ⟨c0xf, c1xf, f0xf, f1xf, zxf⟩ := id xf)
    go_wp2_with (go_at_call 20; refine (known_any _).mono ?_; rintro e w6 ⟨rfl, hb6⟩)
    go_ret
    exact ⟨rfl, (by repeat' (first | (with_reducible exact Below.refl _ _) | (with_reducible assumption) | (with_reducible refine below_drewN ?_ _) | (with_reducible refine below_step (by assumption) ?_ ?_) | (with_reducible refine Below.alloc ?_ ?_ _) | (with_reducible refine Below.setCell ?_ ?_ _) | (with_reducible refine Below.drew ?_) | go_size | (exact Below.size (by assumption)) | (refine Nat.le_trans (Below.size (by assumption)) ?_)))⟩
  · have HV := Lib.hid (show vld a1 a2 = false by simpa using hv)
    clear hv
    go_enter Tryd.func14, Tryd.ntmps14
    go_wp2_with fail
    have hB0 : Below w.heap.size w (w.alloc (.cells #[.int .i64 a1, .int .i64 a2] 23)) := (by repeat' (first | (with_reducible exact Below.refl _ _) | (with_reducible assumption) | (with_reducible refine below_drewN ?_ _) | (with_reducible refine below_step (by assumption) ?_ ?_) | (with_reducible refine Below.alloc ?_ ?_ _) | (with_reducible refine Below.setCell ?_ ?_ _) | (with_reducible refine Below.drew ?_) | go_size | (exact Below.size (by assumption)) | (refine Nat.le_trans (Below.size (by assumption)) ?_)))
    refine (formatRat_no a1 a2 (by omega) (by omega) (by omega) (by omega) HV.out _).mono ?_
    rintro e w1 ⟨rfl, hb1⟩
    (have xa : Box2 w1 (w.heap.size) (.int .i64 a1) (.int .i64 a2) := Box2.keep (by assumption) (by repeat' (first | (with_reducible assumption) | (with_reducible refine Box2.drewN ?_ _) | (with_reducible refine Box2.drew ?_) | (with_reducible exact Box2.new _ _ _ _) | (with_reducible exact Box2.new1 _ _ _ _ _) | (with_reducible exact Box2.new2 _ _ _ _ _ _) | (with_reducible refine Box2.alloc ?_ _))); obtain ⟨c0xa, c1xa, f0xa, f1xa, zxa⟩ := id xa)
    go_wp2_with fail
    refine (rformatRat_no a1 a2 (by omega) (by omega) (by omega) (by omega) HV.out _).mono ?_
    rintro e w2 ⟨rfl, hb2⟩
    (have xb : Box2 w2 (w.heap.size) (.int .i64 a1) (.int .i64 a2) := Box2.keep (by assumption) (by repeat' (first | (with_reducible assumption) | (with_reducible refine Box2.drewN ?_ _) | (with_reducible refine Box2.drew ?_) | (with_reducible exact Box2.new _ _ _ _) | (with_reducible exact Box2.new1 _ _ _ _ _) | (with_reducible exact Box2.new2 _ _ _ _ _ _) | (with_reducible refine Box2.alloc ?_ _))); obtain ⟨c0xb, c1xb, f0xb, f1xb, zxb⟩ := id xb)
    have hB2 : Below w.heap.size w w2 := (by repeat' (first | (with_reducible exact Below.refl _ _) | (with_reducible assumption) | (with_reducible refine below_drewN ?_ _) | (with_reducible refine below_step (by assumption) ?_ ?_) | (with_reducible refine Below.alloc ?_ ?_ _) | (with_reducible refine Below.setCell ?_ ?_ _) | (with_reducible refine Below.drew ?_) | go_size | (exact Below.size (by assumption)) | (refine Nat.le_trans (Below.size (by assumption)) ?_)))
    have L2 := Lib.hid (HL.out.below hB2)
    clear hB0 hB2
    go_wp2_with fail
    refine (parseRat_any s (by omega) _ L2.out).mono ?_
    rintro e w3 ⟨n, d, z, rfl, hp, hb3⟩
    have HP := Lib.hid hp
    clear hp
    (have xc : Box2 w3 (w.heap.size) (.int .i64 a1) (.int .i64 a2) := Box2.keep (by assumption) (by repeat' (first | (with_reducible assumption) | (with_reducible refine Box2.drewN ?_ _) | (with_reducible refine Box2.drew ?_) | (with_reducible exact Box2.new _ _ _ _) | (with_reducible exact Box2.new1 _ _ _ _ _) | (with_reducible exact Box2.new2 _ _ _ _ _ _) | (with_reducible refine Box2.alloc ?_ _))); obtain ⟨c0xc, c1xc, f0xc, f1xc, zxc⟩ := id xc)
    go_wp2_with fail
    refine (rparseRat_any s (by omega) _).mono ?_
    rintro e w4 ⟨n', d', z', rfl, hp, hb4⟩
    obtain ⟨rfl, rfl, rfl⟩ := PrsR.unique HP.out hp
    clear hp
    (have xd : Box2 w4 (w.heap.size) (.int .i64 a1) (.int .i64 a2) := Box2.keep (by assumption) (by repeat' (first | (with_reducible assumption) | (with_reducible refine Box2.drewN ?_ _) | (with_reducible refine Box2.drew ?_) | (with_reducible exact Box2.new _ _ _ _) | (with_reducible exact Box2.new1 _ _ _ _ _) | (with_reducible exact Box2.new2 _ _ _ _ _ _) | (with_reducible refine Box2.alloc ?_ _))); obtain ⟨c0xd, c1xd, f0xd, f1xd, zxd⟩ := id xd)
    (have xe : Box2 w4 (w3.heap.size) (.int .i64 n) (.int .i64 d) := Box2.keep (by assumption) (by repeat' (first | (with_reducible assumption) | (with_reducible refine Box2.drewN ?_ _) | (with_reducible refine Box2.drew ?_) | (with_reducible exact Box2.new _ _ _ _) | (with_reducible exact Box2.new1 _ _ _ _ _) | (with_reducible exact Box2.new2 _ _ _ _ _ _) | (with_reducible refine Box2.alloc ?_ _))); obtain ⟨c0xe, c1xe, f0xe, f1xe, zxe⟩ := id xe)
    have hB4 : Below w.heap.size w w4 := (by repeat' (first | (with_reducible exact Below.refl _ _) | (with_reducible assumption) | (with_reducible refine below_drewN ?_ _) | (with_reducible refine below_step (by assumption) ?_ ?_) | (with_reducible refine Below.alloc ?_ ?_ _) | (with_reducible refine Below.setCell ?_ ?_ _) | (with_reducible refine Below.drew ?_) | go_size | (exact Below.size (by assumption)) | (refine Nat.le_trans (Below.size (by assumption)) ?_)))
    have L4 := Lib.hid (HL.out.below (hB4.alloc hB4.size (.cells #[.int .i64 n, .int .i64 d] 23)))
    clear hB4
    go_wp2_with fail
    refine (parseRat_any ⟨#[]⟩ (by decide) _ L4.out).mono ?_
    rintro e w5 ⟨n2, d2, z2, rfl, hp2, hb5⟩
    clear hp2
    (have xf : Box2 w5 (w.heap.size) (.int .i64 a1) (.int .i64 a2) := Box2.keep (by assumption) (by repeat' (first | (with_reducible assumption) | (with_reducible refine Box2.drewN ?_ _) | (with_reducible refine Box2.drew ?_) | (with_reducible exact Box2.new _ _ _ _) | (with_reducible exact Box2.new1 _ _ _ _ _) | (with_reducible exact Box2.new2 _ _ _ _ _ _) | (with_reducible refine Box2.alloc ?_ _))); obtain ⟨c0xf, c1xf, f0xf, f1xf, zxf⟩ := id xf)
    go_wp2_with (go_at_call 20; refine (known_any _).mono ?_; rintro e w6 ⟨rfl, hb6⟩)
    go_ret
    exact ⟨rfl, (by repeat' (first | (with_reducible exact Below.refl _ _) | (with_reducible assumption) | (with_reducible refine below_drewN ?_ _) | (with_reducible refine below_step (by assumption) ?_ ?_) | (with_reducible refine Below.alloc ?_ ?_ _) | (with_reducible refine Below.setCell ?_ ?_ _) | (with_reducible refine Below.drew ?_) | go_size | (exact Below.size (by assumption)) | (refine Nat.le_trans (Below.size (by assumption)) ?_)))⟩
end Go.Proofs.YtclbjgelefbmlaaDoor
