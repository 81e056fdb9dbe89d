/-
  BOOKS: postings, PLAIN. Which are valid, their texts, and what a text is read as.
-/
import Derived.Test.YtaadelcmhbgpnaaGreatDoorBokJ
import Derived.Test.YtaadelcmhbgpnaaGreatDoorBokN
namespace Go.Proofs.YtaadelcmhbgpnaaGreatDoor
open Go.RowKit
open Go.Lib
def postT (x : Po) : List UInt8 := [112, 111, 115, 116] ++ 32 :: (x.d.data.toList ++ 32 :: (x.c.data.toList ++ 32 :: moneyT x.p))
def noPo : Po := ⟨⟨#[]⟩, ⟨#[]⟩, 0⟩
def PrsP (t : List UInt8) (x : Po) (z : Int) : Prop := (z = 0 ∧ valPo [x] = 0 ∧ postT x = t) ∨ (z = 3 ∧ x = noPo ∧ ∀ y, valPo [y] = 0 → postT y ≠ t)
theorem name_free {t : List UInt8} (h : nameT t = true) : (32 : UInt8) ∉ t := fun hm => by
  have := nameC_iff.1 ((nameT_iff.1 h).2.2 _ hm)
  revert this; decide
theorem sep_uniq {c : UInt8} : ∀ {a b x y : List UInt8}, c ∉ a → c ∉ b → a ++ c :: x = b ++ c :: y → a = b ∧ x = y
  | [], [], x, y, _, _, h => ⟨rfl, by simpa using h⟩
  | [], d :: b, x, y, _, hb, h => by
    simp at h
    exact absurd (by rw [h.1]; exact List.mem_cons_self) hb
  | d :: a, [], x, y, ha, _, h => by
    simp at h
    exact absurd (by rw [← h.1]; exact List.mem_cons_self) ha
  | d :: a, e :: b, x, y, ha, hb, h => by
    simp only [List.cons_append, List.cons.injEq] at h
    simp only [List.mem_cons, not_or] at ha hb
    obtain ⟨r1, r2⟩ := sep_uniq ha.2 hb.2 h.2
    exact ⟨by rw [h.1, r1], r2⟩
theorem toList_inj {a b : ByteArray} (h : a.data.toList = b.data.toList) : a = b := by rw [bytes_of a, bytes_of b, h]
theorem postT_inj {x y : Po} (hx : valPo [x] = 0) (hy : valPo [y] = 0) (h : postT x = postT y) : x = y := by
  obtain ⟨n1, o1⟩ := valPo_one.1 hx
  obtain ⟨n2, o2⟩ := valPo_one.1 hy
  obtain ⟨a1, a2⟩ := nmP_iff.1 n1
  obtain ⟨b1, b2⟩ := nmP_iff.1 n2
  obtain ⟨-, p1, p2⟩ := okP_iff.1 o1
  obtain ⟨-, q1, q2⟩ := okP_iff.1 o2
  unfold postT at h
  obtain ⟨-, h1⟩ := sep_uniq (by decide) (by decide) h
  obtain ⟨e1, h2⟩ := sep_uniq (name_free a1) (name_free b1) h1
  obtain ⟨e2, h3⟩ := sep_uniq (name_free a2) (name_free b2) h2
  have e3 := moneyT_inj (by omega) p2 (by omega) q2 h3
  cases x; cases y
  simp only at e1 e2 e3
  rw [toList_inj e1, toList_inj e2, e3]
theorem PrsP.unique {t : List UInt8} {x y : Po} {a b : Int} (h : PrsP t x a) (k : PrsP t y b) : x = y ∧ a = b := by
  rcases h with ⟨rfl, h1, h2⟩ | ⟨rfl, h1, h2⟩ <;> rcases k with ⟨rfl, k1, k2⟩ | ⟨rfl, k1, k2⟩
  · exact ⟨postT_inj h1 k1 (h2.trans k2.symm), rfl⟩
  · exact absurd h2 (k2 _ h1)
  · exact absurd k2 (h2 _ k1)
  · exact ⟨h1.trans k1.symm, rfl⟩
theorem splitK_zero (l : List UInt8) : splitK [32] 0 0 l = [l] := rfl
/-- The four words of a posting's text. -/
theorem split_post {y : Po} (h : valPo [y] = 0) : splitK [32] 0 (min 4 ((postT y).length + 1) - 1) (postT y) = [[112, 111, 115, 116], y.d.data.toList, y.c.data.toList, moneyT y.p] := by
  obtain ⟨n1, -⟩ := valPo_one.1 h
  obtain ⟨a1, a2⟩ := nmP_iff.1 n1
  have hk : min 4 ((postT y).length + 1) - 1 = 3 := by
    have : 3 ≤ (postT y).length := by unfold postT; simp only [List.length_append, List.length_cons]; omega
    omega
  rw [hk]
  unfold postT
  rw [splitK_app (by decide), splitK_app (name_free a1), splitK_app (name_free a2), splitK_zero]
theorem post_len {y : Po} (h : valPo [y] = 0) : (postT y).length ≤ 100 := by
  obtain ⟨n1, o1⟩ := valPo_one.1 h
  obtain ⟨a1, a2⟩ := nmP_iff.1 n1
  obtain ⟨-, p1, p2⟩ := okP_iff.1 o1
  have h1 := (nameT_iff.1 a1).1
  have h2 := (nameT_iff.1 a2).1
  have h3 : (moneyT y.p).length ≤ 50 := by
    unfold moneyT
    rw [if_neg (by omega)]
    exact words_join_len (by omega) (by omega)
  unfold postT
  simp only [List.length_append, List.length_cons, List.length_nil]; omega
/-- Where the first blanks are. -/
def posB : List UInt8 → Nat → Nat → List Nat
  | [], _, _ => []
  | _ :: _, _, 0 => []
  | c :: l, o, k + 1 => if c = 32 then o :: posB l (o + 1) k else posB l (o + 1) (k + 1)
theorem posB_zero (l : List UInt8) (o : Nat) : posB l o 0 = [] := by cases l <;> rfl
theorem posB_app {k : Nat} {r : List UInt8} : ∀ {a : List UInt8} (o : Nat), (32 : UInt8) ∉ a → posB (a ++ 32 :: r) o (k + 1) = (o + a.length) :: posB r (o + a.length + 1) k
  | [], o, _ => by simp [posB]
  | c :: a, o, h => by
    simp only [List.mem_cons, not_or] at h
    rw [List.cons_append, posB, if_neg (fun e => h.1 e.symm), posB_app (o + 1) h.2, List.length_cons]
    rw [show o + 1 + a.length = o + (a.length + 1) by omega]
theorem posB_bd : ∀ (l : List UInt8) (o k : Nat), (posB l o k).length ≤ k ∧ ∀ p ∈ posB l o k, o ≤ p ∧ p < o + l.length
  | [], o, k => by simp [posB]
  | c :: l, o, 0 => by simp [posB]
  | c :: l, o, k + 1 => by
    rw [posB]
    split
    · obtain ⟨h1, h2⟩ := posB_bd l (o + 1) k
      refine ⟨by simp; omega, fun p hp => ?_⟩
      rcases List.mem_cons.1 hp with rfl | hp
      · simp
      · have := h2 p hp; simp; omega
    · obtain ⟨h1, h2⟩ := posB_bd l (o + 1) (k + 1)
      refine ⟨h1, fun p hp => ?_⟩
      have := h2 p hp; simp; omega
theorem posB_sorted : ∀ (l : List UInt8) (o k : Nat), (posB l o k).Pairwise (· < ·)
  | [], o, k => by simp [posB]
  | c :: l, o, 0 => by simp [posB]
  | c :: l, o, k + 1 => by
    rw [posB]
    split
    · refine List.pairwise_cons.2 ⟨fun p hp => ?_, posB_sorted l (o + 1) k⟩
      have := (posB_bd l (o + 1) k).2 p hp; omega
    · exact posB_sorted l (o + 1) (k + 1)
theorem posB_three {l : List UInt8} {p q r : Nat} (h : posB l 0 3 = [p, q, r]) : p < q ∧ q < r ∧ r < l.length := by
  have h1 := posB_sorted l 0 3
  have h2 := (posB_bd l 0 3).2
  rw [h] at h1 h2
  simp at h1
  have := h2 r (by simp)
  omega
theorem posB_post {y : Po} (h : valPo [y] = 0) : posB (postT y) 0 3 = [4, 5 + y.d.data.toList.length, 6 + y.d.data.toList.length + y.c.data.toList.length] := by
  obtain ⟨n1, -⟩ := valPo_one.1 h
  obtain ⟨a1, a2⟩ := nmP_iff.1 n1
  unfold postT
  rw [posB_app 0 (by decide), posB_app _ (name_free a1), posB_app _ (name_free a2), posB_zero]
  simp; omega
end Go.Proofs.YtaadelcmhbgpnaaGreatDoor
