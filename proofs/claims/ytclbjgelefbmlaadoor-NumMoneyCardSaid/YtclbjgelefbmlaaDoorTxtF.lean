/-
  FormatRat, THE REFERENCE'S.
-/
import Derived.Test.YtclbjgelefbmlaaDoorTxtE
import Derived.Test.YtclbjgelefbmlaaDoorTxtC
namespace Go.Proofs.YtclbjgelefbmlaaDoor
open Go.RowKit Go.Lib
/-- The text of a fraction. -/
def fmtR (n d : Int) : List UInt8 := if d = 1 then itoa n else itoa n ++ 47 :: itoa d
theorem fmtR_one (n : Int) : fmtR n 1 = itoa n := by rw [fmtR, if_pos rfl]
theorem fmtR_two {n d : Int} (h : d ≠ 1) : fmtR n d = itoa n ++ 47 :: itoa d := by rw [fmtR, if_neg h]
theorem ret_si {a b : ByteArray} {c : Int} (h : a = b) : Ending.returned (.tuple #[.string a, .int .i64 c]) = .returned (.tuple #[.string b, .int .i64 c]) := by rw [h]
set_option maxRecDepth 100000 in
set_option maxHeartbeats 2000000 in
theorem rformatRat_no (n d : Int) (h1 : -9223372036854775808 ≤ n) (h2 : n ≤ 9223372036854775807) (h3 : -9223372036854775808 ≤ d) (h4 : d ≤ 9223372036854775807) (hv : vld n d = false) (w : World) :
    Calls Tryd.prog 49 #[.agg #[.int .i64 n, .int .i64 d]] w fun e w' => e = .returned (.tuple #[.string ⟨#[]⟩, .int .i64 1]) ∧ Below w.heap.size w w' := by
  have HV := Lib.hid hv
  clear hv
  go_enter Tryd.func49, Tryd.ntmps49
  go_wp2_with fail
  refine (rvalid_any n d h1 h2 h3 h4 _).mono ?_
  rw [HV.out]
  rintro e w1 ⟨rfl, hb1⟩
  go_wp2
  go_ret2
  exact ⟨rfl, (by repeat' (first | (with_reducible exact Below.refl _ _) | (with_reducible assumption) | (with_reducible refine below_drewN ?_ _) | (with_reducible refine below_step (by assumption) ?_ ?_) | (with_reducible refine Below.alloc ?_ ?_ _) | (with_reducible refine Below.setCell ?_ ?_ _) | (with_reducible refine Below.drew ?_) | go_size | (exact Below.size (by assumption)) | (refine Nat.le_trans (Below.size (by assumption)) ?_)))⟩
set_option maxRecDepth 100000 in
set_option maxHeartbeats 2000000 in
theorem rformatRat_yes (n d : Int) (h1 : -9223372036854775808 < n) (h2 : n ≤ 9223372036854775807) (h3 : -9223372036854775808 < d) (h4 : d ≤ 9223372036854775807) (hv : vld n d = true) (w : World) :
    Calls Tryd.prog 49 #[.agg #[.int .i64 n, .int .i64 d]] w fun e w' => e = .returned (.tuple #[.string ⟨(fmtR n d).toArray⟩, .int .i64 0]) ∧ Below w.heap.size w w' := by
  have HV := Lib.hid hv
  have l1 := itoa_length_le n (by omega) h2
  have l2 := itoa_length_le d (by omega) h4
  clear hv
  by_cases hd : d = 1
  · subst hd
    go_enter Tryd.func49, Tryd.ntmps49
    go_wp2_with fail
    refine (rvalid_any n 1 (by omega) h2 (by omega) h4 _).mono ?_
    rw [HV.out]
    rintro e w1 ⟨rfl, hb1⟩
    (have xa : Box2 w1 w.heap.size (.int .i64 n) (.int .i64 1) := Box2.keep (by assumption) (by repeat' (first | (with_reducible assumption) | (with_reducible refine Box2.drewN ?_ _) | (with_reducible refine Box2.drew ?_) | (with_reducible exact Box2.new _ _ _ _) | (with_reducible exact Box2.new1 _ _ _ _ _) | (with_reducible exact Box2.new2 _ _ _ _ _ _) | (with_reducible refine Box2.alloc ?_ _))); obtain ⟨c0xa, c1xa, f0xa, f1xa, zxa⟩ := id xa)
    go_wp2_with fail
    refine (digits_int n h1 h2 _).mono ?_
    rintro e w2 ⟨rfl, hb2⟩
    simp only [str]
    (have xb : Box2 w2 w.heap.size (.int .i64 n) (.int .i64 1) := Box2.keep (by assumption) (by repeat' (first | (with_reducible assumption) | (with_reducible refine Box2.drewN ?_ _) | (with_reducible refine Box2.drew ?_) | (with_reducible exact Box2.new _ _ _ _) | (with_reducible exact Box2.new1 _ _ _ _ _) | (with_reducible exact Box2.new2 _ _ _ _ _ _) | (with_reducible refine Box2.alloc ?_ _))); obtain ⟨c0xb, c1xb, f0xb, f1xb, zxb⟩ := id xb)
    go_wp2
    go_ret2
    exact ⟨ret_si (by rw [fmtR_one]), (by repeat' (first | (with_reducible exact Below.refl _ _) | (with_reducible assumption) | (with_reducible refine below_drewN ?_ _) | (with_reducible refine below_step (by assumption) ?_ ?_) | (with_reducible refine Below.alloc ?_ ?_ _) | (with_reducible refine Below.setCell ?_ ?_ _) | (with_reducible refine Below.drew ?_) | go_size | (exact Below.size (by assumption)) | (refine Nat.le_trans (Below.size (by assumption)) ?_)))⟩
  · have e0 : (d == 1) = false := by rw [beq_eq_false_iff_ne]; exact hd
    have e1 : (d != 1) = true := by rw [bne_iff_ne]; exact hd
    have hf : ((⟨(itoa n).toArray⟩ : ByteArray) ++ ⟨#[47]⟩) ++ ⟨(itoa d).toArray⟩ = ⟨(fmtR n d).toArray⟩ := by
      rw [fmtR_two hd, show (⟨#[47]⟩ : ByteArray) = ⟨([47] : List UInt8).toArray⟩ from rfl, bytes_app2, bytes_app2]; simp
    have HF := Lib.hid hf
    clear hf hd
    go_enter Tryd.func49, Tryd.ntmps49
    go_wp2_with fail
    refine (rvalid_any n d (by omega) h2 (by omega) h4 _).mono ?_
    rw [HV.out]
    rintro e w1 ⟨rfl, hb1⟩
    (have xa : Box2 w1 w.heap.size (.int .i64 n) (.int .i64 d) := Box2.keep (by assumption) (by repeat' (first | (with_reducible assumption) | (with_reducible refine Box2.drewN ?_ _) | (with_reducible refine Box2.drew ?_) | (with_reducible exact Box2.new _ _ _ _) | (with_reducible exact Box2.new1 _ _ _ _ _) | (with_reducible exact Box2.new2 _ _ _ _ _ _) | (with_reducible refine Box2.alloc ?_ _))); obtain ⟨c0xa, c1xa, f0xa, f1xa, zxa⟩ := id xa)
    go_wp2_with fail
    refine (digits_int n h1 h2 _).mono ?_
    rintro e w2 ⟨rfl, hb2⟩
    simp only [str]
    (have xb : Box2 w2 w.heap.size (.int .i64 n) (.int .i64 d) := Box2.keep (by assumption) (by repeat' (first | (with_reducible assumption) | (with_reducible refine Box2.drewN ?_ _) | (with_reducible refine Box2.drew ?_) | (with_reducible exact Box2.new _ _ _ _) | (with_reducible exact Box2.new1 _ _ _ _ _) | (with_reducible exact Box2.new2 _ _ _ _ _ _) | (with_reducible refine Box2.alloc ?_ _))); obtain ⟨c0xb, c1xb, f0xb, f1xb, zxb⟩ := id xb)
    go_wp2_with fail
    refine (digits_int d h3 h4 _).mono ?_
    rintro e w3 ⟨rfl, hb3⟩
    simp only [str]
    (have xc : Box2 w3 w.heap.size (.int .i64 n) (.int .i64 d) := Box2.keep (by assumption) (by repeat' (first | (with_reducible assumption) | (with_reducible refine Box2.drewN ?_ _) | (with_reducible refine Box2.drew ?_) | (with_reducible exact Box2.new _ _ _ _) | (with_reducible exact Box2.new1 _ _ _ _ _) | (with_reducible exact Box2.new2 _ _ _ _ _ _) | (with_reducible refine Box2.alloc ?_ _))); obtain ⟨c0xc, c1xc, f0xc, f1xc, zxc⟩ := id xc)
    go_wp2
    go_ret2
    exact ⟨ret_si HF.out, (by repeat' (first | (with_reducible exact Below.refl _ _) | (with_reducible assumption) | (with_reducible refine below_drewN ?_ _) | (with_reducible refine below_step (by assumption) ?_ ?_) | (with_reducible refine Below.alloc ?_ ?_ _) | (with_reducible refine Below.setCell ?_ ?_ _) | (with_reducible refine Below.drew ?_) | go_size | (exact Below.size (by assumption)) | (refine Nat.le_trans (Below.size (by assumption)) ?_)))⟩
end Go.Proofs.YtclbjgelefbmlaaDoor
