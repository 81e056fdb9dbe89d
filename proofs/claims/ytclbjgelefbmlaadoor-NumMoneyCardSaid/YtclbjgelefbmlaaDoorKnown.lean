/-
  THE WALK OF known: the program has the fraction -3/2 of 6 and -4, and the text of 270 pence.
-/
import Derived.Test.YtclbjgelefbmlaaDoorNumB
import Derived.Test.YtclbjgelefbmlaaDoorShelf
import Derived.Deep.AppendLies
namespace Go.Proofs.YtclbjgelefbmlaaDoor
open Go.RowKit
theorem str_info : (Tryd.prog.info? 9).map (fun i => (i.zero, i.size, i.bytes)) = some (some (.string ByteArray.empty), 1, 16) := by kernel_rfl
theorem itoa_lit (k : Int) (i : Nat) (b : ByteArray) (hk : k = i) (hi : i < 100) (hb : ⟨(Lib.decDigits i).toArray⟩ = b) (w : World) :
    Calls Tryd.prog 73 #[.int .i64 k] w fun e w' => e = .returned (.string b) ∧ w = w' := by
  subst hk; subst hb
  exact (Tryd.strconv_Itoa_small i hi w).mono fun _ _ h => ⟨h.1, h.2.symm⟩
theorem bytes_app (a b : List UInt8) : ((⟨a.toArray⟩ : ByteArray) ++ ⟨b.toArray⟩) = ⟨(a ++ b).toArray⟩ := by
  apply ByteArray.ext
  simp [ByteArray.data_append]
theorem join3 (g cap : Nat) (w : World) {B : Nat} (hown : w.ownsRow B 9 1 (.slice (some ⟨g, 0, none⟩) 3 cap) 3 [.string ⟨#[49, 108]⟩, .string ⟨#[50, 115]⟩, .string ⟨#[54, 100]⟩]) (hlt : g < w.heap.size) :
    Calls Tryd.prog 79 #[.slice (some ⟨g, 0, none⟩) 3 cap, .string ⟨#[32]⟩] w fun e w' => e = .returned (.string ⟨#[49, 108, 32, 50, 115, 32, 54, 100]⟩) ∧ Below w.heap.size w w' := by
  have hcap : 3 ≤ cap := by
    rcases hown.2 with ⟨h, _⟩ | ⟨g', c', cur, h, _, _, h1, _⟩
    · cases h
    · injection h with _ _ h; omega
  refine (Tryd.strings_Join g 0 cap [⟨#[49, 108]⟩, ⟨#[50, 115]⟩, ⟨#[54, 100]⟩] ⟨#[32]⟩ w (fun j x hx => ?_) hlt (by simp) hcap (by decide)).mono fun e w' h => ?_
  · rw [Nat.zero_add, hown.cellAt j (by
      have := (List.getElem?_eq_some_iff.1 hx).1
      simp at this; omega)]
    rcases j with _ | _ | _ | j <;> simp at hx ⊢ <;> exact hx
  · exact h
set_option maxRecDepth 100000 in
set_option maxHeartbeats 2000000 in
theorem fm270 (w : World) :
    Calls Tryd.prog 52 #[.int .i64 270] w fun e w' => e = .returned (.tuple #[.string ⟨#[49, 108, 32, 50, 115, 32, 54, 100]⟩, .int .i64 0]) ∧ Below w.heap.size w w' := by
  obtain ⟨i0, hi0, hz0, hz1, hz2⟩ := info_parts str_info
  have hmax : max (270 : Int) (-270) = 270 := by decide
  have j1 : ((⟨#[49]⟩ : ByteArray) ++ ⟨#[108]⟩) = ⟨#[49, 108]⟩ := by decide +kernel
  have j2 : ((⟨#[50]⟩ : ByteArray) ++ ⟨#[115]⟩) = ⟨#[50, 115]⟩ := by decide +kernel
  have j3 : ((⟨#[54]⟩ : ByteArray) ++ ⟨#[100]⟩) = ⟨#[54, 100]⟩ := by decide +kernel
  go_enter Tryd.func52, Tryd.ntmps52
  go_wp2_with fail
  refine (itoa_lit _ 1 ⟨#[49]⟩ rfl (by omega) (by kernel_rfl) _).mono ?_
  rintro e w' ⟨rfl, rfl⟩
  go_wp2_with (at_builtin; refine wpList_append_lies _ (by rfl) (.tmp 21) (.tmp 26) _ (by rfl) w.heap.size 9 i0 _ 1 16 Tryd.underlying79 hi0 hz0 hz1 hz2 rfl (by omega) (.slice none 0 0) 0 [] (by rfl) (World.ownsRow_nil _ _ _ _) ⟨w.heap.size, 0, none⟩ 1 1 [.string ⟨#[49, 108]⟩] (by rfl) rfl (cell_one_new _ _ _) (by intro u hu; simp at hu; subst hu; rfl) (by omega) (by simp [maxLen]) (by omega) (by simp) (w.heap.size + 1) (by simp) ?_; intro g1 cap1 w1 hown1 hgrow1 hat1 hlt1)
  simp only [Nat.zero_add, List.nil_append] at hown1
  have b1 : Below w.heap.size w w1 := ((Below.refl _ _).alloc (Nat.le_refl _) _).grown hgrow1 (by simp) (by simp [Value.ownBlock])
  have s1 := b1.size
  have G1 : w.heap.size ≤ g1 := by
    rcases hat1 with h | h
    · simp [Value.ownBlock] at h
    · omega
  clear hat1 hgrow1
  refine (itoa_lit _ 2 ⟨#[50]⟩ rfl (by omega) (by kernel_rfl) _).mono ?_
  rintro e w' ⟨rfl, rfl⟩
  go_wp2_with (at_builtin; refine wpList_append_lies _ (by rfl) (.tmp 33) (.tmp 37) _ (by rfl) w.heap.size 9 i0 _ 1 16 Tryd.underlying79 hi0 hz0 hz1 hz2 rfl (by omega) (.slice (some ⟨g1, 0, none⟩) 1 cap1) 1 [.string ⟨#[49, 108]⟩] (by rfl) (hown1.alloc _) ⟨w1.heap.size, 0, none⟩ 1 1 [.string ⟨#[50, 115]⟩] (by rfl) rfl (cell_one_new _ _ _) (by intro u hu; simp at hu; subst hu; rfl) (by omega) (by simp [maxLen]) (by omega) (by simp; omega) (w1.heap.size + 1) (by simp) ?_; intro g2 cap2 w2 hown2 hgrow2 hat2 hlt2)
  have b2 : Below w.heap.size w w2 := (b1.alloc s1 _).grown hgrow2 (by simp; omega) (by simp [Value.ownBlock]; omega)
  have s2 := b2.size
  have G2 : w.heap.size ≤ g2 := by
    rcases hat2 with h | h
    · simp [Value.ownBlock] at h; omega
    · omega
  clear hat2 hgrow2 hown1
  refine (itoa_lit _ 6 ⟨#[54]⟩ rfl (by omega) (by kernel_rfl) _).mono ?_
  rintro e w' ⟨rfl, rfl⟩
  go_wp2_with (at_builtin; refine wpList_append_lies _ (by rfl) (.tmp 47) (.tmp 51) _ (by rfl) w.heap.size 9 i0 _ 1 16 Tryd.underlying79 hi0 hz0 hz1 hz2 rfl (by omega) (.slice (some ⟨g2, 0, none⟩) 2 cap2) 2 [.string ⟨#[49, 108]⟩, .string ⟨#[50, 115]⟩] (by rfl) (hown2.alloc _) ⟨w2.heap.size, 0, none⟩ 1 1 [.string ⟨#[54, 100]⟩] (by rfl) rfl (cell_one_new _ _ _) (by intro u hu; simp at hu; subst hu; rfl) (by omega) (by simp [maxLen]) (by omega) (by simp; omega) (w2.heap.size + 1) (by simp) ?_; intro g3 cap3 w3 hown3 hgrow3 hat3 hlt3)
  have b3 : Below w.heap.size w w3 := (b2.alloc s2 _).grown hgrow3 (by simp; omega) (by simp [Value.ownBlock]; omega)
  have s3 := b3.size
  clear hat3 hgrow3 hown2
  refine (join3 g3 cap3 w3 hown3 hlt3).mono ?_
  rintro e w4 ⟨rfl, hb4⟩
  go_wp2
  go_ret2
  exact ⟨rfl, (by repeat' (first | (with_reducible exact Below.refl _ _) | (with_reducible assumption) | (with_reducible refine below_drewN ?_ _) | (with_reducible refine below_step (by assumption) ?_ ?_) | (with_reducible refine Below.alloc ?_ ?_ _) | (with_reducible refine Below.setCell ?_ ?_ _) | (with_reducible refine Below.drew ?_) | go_size | (exact Below.size (by assumption)) | (refine Nat.le_trans (Below.size (by assumption)) ?_)))⟩
theorem known_any (w : World) :
    Calls Tryd.prog 20 #[] w fun e w' => e = .returned (.bool true) ∧ Below w.heap.size w w' := by
  go_enter Tryd.func20, Tryd.ntmps20
  go_wp2_with fail
  refine (make_any 6 (-4) (-3) 2 0 (by decide +kernel) (by omega) (by omega) (by omega) (by omega) _).mono ?_
  rintro e w1 ⟨rfl, hb1⟩
  go_wp2_with fail
  refine (fm270 _).mono ?_
  rintro e w2 ⟨rfl, hb2⟩
  (have xa : Box2 w2 w1.heap.size (.int .i64 (-3)) (.int .i64 2) := Box2.keep (by assumption) (by repeat' (first | (with_reducible assumption) | (with_reducible refine Box2.drewN ?_ _) | (with_reducible refine Box2.drew ?_) | (with_reducible exact Box2.new _ _ _ _) | (with_reducible exact Box2.new1 _ _ _ _ _) | (with_reducible exact Box2.new2 _ _ _ _ _ _) | (with_reducible refine Box2.alloc ?_ _))); obtain ⟨c0xa, c1xa, f0xa, f1xa, zxa⟩ := id xa)
  go_wp2
  go_ret
  exact ⟨rfl, (by repeat' (first | (with_reducible exact Below.refl _ _) | (with_reducible assumption) | (with_reducible refine below_drewN ?_ _) | (with_reducible refine below_step (by assumption) ?_ ?_) | (with_reducible refine Below.alloc ?_ ?_ _) | (with_reducible refine Below.setCell ?_ ?_ _) | (with_reducible refine Below.drew ?_) | go_size | (exact Below.size (by assumption)) | (refine Nat.le_trans (Below.size (by assumption)) ?_)))⟩
end Go.Proofs.YtclbjgelefbmlaaDoor
