/-
  FormatMoney, THE REFERENCE'S.
-/
import Derived.Test.YtclbjgelefbmlaaDoorMonM
namespace Go.Proofs.YtclbjgelefbmlaaDoor
open Go.RowKit Go.Lib
/-- The pieces of the text behind blanks. -/
def mP1 (m : Nat) : List UInt8 := if m / 240 > 0 then 32 :: (itoa ((m / 240 : Nat) : Int) ++ [108]) else []
def mP2 (m : Nat) : List UInt8 := if m / 12 % 20 > 0 then 32 :: (itoa ((m / 12 % 20 : Nat) : Int) ++ [115]) else []
def mP3 (m : Nat) : List UInt8 := if m % 12 > 0 then 32 :: (itoa ((m % 12 : Nat) : Int) ++ [100]) else []
theorem joinTail_join {ws : List (List UInt8)} (h : ws ≠ []) : joinTail [32] ws = 32 :: join ws [32] := by
  cases ws with
  | nil => exact absurd rfl h
  | cons x r => rw [join_cons]; simp [joinTail]
theorem mP_all {m : Nat} (h : m ≠ 0) : mP1 m ++ (mP2 m ++ mP3 m) = 32 :: join (wordsM m) [32] := by
  rw [← joinTail_join (words_ne m)]
  unfold mP1 mP2 mP3 wordsM joinTail
  simp only [List.map_append, List.flatten_append, h, or_false]
  split <;> split <;> split <;> simp
theorem mP_len {m : Nat} (h : m ≤ 1099511627776) : (mP1 m).length ≤ 16 ∧ (mP2 m).length ≤ 16 ∧ (mP3 m).length ≤ 16 := by
  have k : ∀ v : Nat, v ≤ 1099511627776 → (itoa (v : Int)).length ≤ 13 := fun v hv => itoa_nat_len (by omega) (by omega)
  have k1 := k (m / 240) (by omega)
  have k2 := k (m / 12 % 20) (by omega)
  have k3 := k (m % 12) (by omega)
  unfold mP1 mP2 mP3
  refine ⟨?_, ?_, ?_⟩ <;> split <;> simp only [List.length_cons, List.length_append, List.length_nil] <;> omega
theorem bytes_lit1 (c : UInt8) : (⟨#[c]⟩ : ByteArray) = ⟨([c] : List UInt8).toArray⟩ := rfl
theorem glue3 (q : List UInt8) (v : Int) (u : UInt8) : (((⟨q.toArray⟩ : ByteArray) ++ ⟨#[32]⟩) ++ ⟨(itoa v).toArray⟩) ++ ⟨#[u]⟩ = ⟨(q ++ 32 :: (itoa v ++ [u])).toArray⟩ := by
  rw [bytes_lit1, bytes_lit1, bytes_app2, bytes_app2, bytes_app2]; simp
theorem cut_one {q r : List UInt8} {c : UInt8} (h : q = c :: r) : (⟨q.toArray⟩ : ByteArray).extract 1 q.length = ⟨r.toArray⟩ := by
  subst h
  apply ByteArray.ext
  rw [ByteArray.data_extract]
  apply Array.toList_inj.1
  rw [Array.toList_extract, List.extract_eq_take_drop]
  simp
theorem ediv240 (m : Nat) : ((m / 240 : Nat) : Int) = (m : Int) / 240 := by omega
theorem ediv12 (m : Nat) : ((m / 12 % 20 : Nat) : Int) = (m : Int) / 12 % 20 := by omega
theorem emod12 (m : Nat) : ((m % 12 : Nat) : Int) = (m : Int) % 12 := by omega
theorem rformatMoney_no (p : Int) (h : p < -1099511627776 ∨ 1099511627776 < p) (h1 : -9223372036854775808 ≤ p) (h2 : p ≤ 9223372036854775807) (w : World) :
    Calls Tryd.prog 53 #[.int .i64 p] w fun e w' => e = .returned (.tuple #[.string ⟨#[]⟩, .int .i64 1]) ∧ Below w.heap.size w w' := by
  go_enter Tryd.func53, Tryd.ntmps53
  go_wp2_with fail
  refine (within_no p _ _ (by omega) _).mono ?_
  rintro e w' ⟨rfl, rfl⟩
  go_wp2
  go_ret2
  exact ⟨rfl, (by repeat' (first | (with_reducible exact Below.refl _ _) | (with_reducible assumption) | (with_reducible refine below_drewN ?_ _) | (with_reducible refine below_step (by assumption) ?_ ?_) | (with_reducible refine Below.alloc ?_ ?_ _) | (with_reducible refine Below.setCell ?_ ?_ _) | (with_reducible refine Below.drew ?_) | go_size | (exact Below.size (by assumption)) | (refine Nat.le_trans (Below.size (by assumption)) ?_)))⟩
set_option maxRecDepth 100000 in
set_option maxHeartbeats 2000000 in
theorem rformatMoney_yes (p : Int) (h1 : -1099511627776 ≤ p) (h2 : p ≤ 1099511627776) (w : World) :
    Calls Tryd.prog 53 #[.int .i64 p] w fun e w' => e = .returned (.tuple #[.string ⟨(moneyT p).toArray⟩, .int .i64 0]) ∧ Below w.heap.size w w' := by
  by_cases hp : p = 0
  · subst hp
    go_enter Tryd.func53, Tryd.ntmps53
    go_wp2_with fail
    refine (within_yes 0 _ _ (by omega) (by omega) _).mono ?_
    rintro e w' ⟨rfl, rfl⟩
    go_wp2
    go_ret2
    exact ⟨ret_si (by decide +kernel), (by repeat' (first | (with_reducible exact Below.refl _ _) | (with_reducible assumption) | (with_reducible refine below_drewN ?_ _) | (with_reducible refine below_step (by assumption) ?_ ?_) | (with_reducible refine Below.alloc ?_ ?_ _) | (with_reducible refine Below.setCell ?_ ?_ _) | (with_reducible refine Below.drew ?_) | go_size | (exact Below.size (by assumption)) | (refine Nat.le_trans (Below.size (by assumption)) ?_)))⟩
  · have hp' : (p == 0) = false := by rw [beq_eq_false_iff_ne]; exact hp
    obtain ⟨m, hm⟩ : ∃ m, m = p.natAbs := ⟨_, rfl⟩
    have hm0 : m ≠ 0 := by omega
    have hm1 : m ≤ 1099511627776 := by omega
    obtain ⟨l1, l2, l3⟩ := mP_len hm1
    have hall := mP_all hm0
    have hT : moneyT p = if p < 0 then 45 :: join (wordsM m) [32] else join (wordsM m) [32] := by rw [moneyT, hm]
    obtain ⟨q1, hq1⟩ : ∃ q, q = mP1 m := ⟨_, rfl⟩
    obtain ⟨q2, hq2⟩ : ∃ q, q = q1 ++ mP2 m := ⟨_, rfl⟩
    obtain ⟨q3, hq3⟩ : ∃ q, q = q2 ++ mP3 m := ⟨_, rfl⟩
    have h3 : q3 = 32 :: join (wordsM m) [32] := by rw [hq3, hq2, hq1, List.append_assoc]; exact hall
    have g1 : q1.length ≤ 16 := by rw [hq1]; exact l1
    have g2 : q2.length ≤ 32 := by rw [hq2, List.length_append]; omega
    have g3 : q3.length ≤ 48 := by rw [hq3, List.length_append]; omega
    have g4 : 1 ≤ q3.length := by rw [h3]; simp
    have k1 : (itoa ((m : Int) / 240)).length ≤ 13 := by rw [← ediv240]; exact itoa_nat_len (by omega) (by omega)
    have k2 : (itoa ((m : Int) / 12 % 20)).length ≤ 13 := by rw [← ediv12]; exact itoa_nat_len (by omega) (by omega)
    have k3 : (itoa ((m : Int) % 12)).length ≤ 13 := by rw [← emod12]; exact itoa_nat_len (by omega) (by omega)
    have HM := Lib.hid hm
    have HT := Lib.hid hT
    have Q1 := Lib.hid hq1
    have Q2 := Lib.hid hq2
    have Q3 := Lib.hid hq3
    have H3 := Lib.hid h3
    clear hall hT hq1 hq2 hq3 h3 hp hm l1 l2 l3
    go_enter Tryd.func53, Tryd.ntmps53
    go_wp2_with fail
    refine (within_yes p _ _ (by omega) (by omega) _).mono ?_
    rintro e w' ⟨rfl, rfl⟩
    go_upto_if 13 with fail
    go_cut [4] (fun v wx => v = .int .i64 m ∧ Below w.heap.size w wx)
    case first =>
      by_cases hn : p < 0
      · have hd : decide (p < 0) = true := decide_eq_true hn
        go_wp2_with fail
        go_meet
        exact ⟨by rw [HM.out]; congr 1; omega, (by repeat' (first | (with_reducible exact Below.refl _ _) | (with_reducible assumption) | (with_reducible refine below_drewN ?_ _) | (with_reducible refine below_step (by assumption) ?_ ?_) | (with_reducible refine Below.alloc ?_ ?_ _) | (with_reducible refine Below.setCell ?_ ?_ _) | (with_reducible refine Below.drew ?_) | go_size | (exact Below.size (by assumption)) | (refine Nat.le_trans (Below.size (by assumption)) ?_)))⟩
      · have hd : decide (p < 0) = false := decide_eq_false hn
        go_wp2_with fail
        go_meet
        exact ⟨by rw [HM.out]; congr 1; omega, (by repeat' (first | (with_reducible exact Below.refl _ _) | (with_reducible assumption) | (with_reducible refine below_drewN ?_ _) | (with_reducible refine below_step (by assumption) ?_ ?_) | (with_reducible refine Below.alloc ?_ ?_ _) | (with_reducible refine Below.setCell ?_ ?_ _) | (with_reducible refine Below.drew ?_) | go_size | (exact Below.size (by assumption)) | (refine Nat.le_trans (Below.size (by assumption)) ?_)))⟩
    case rest =>
      obtain ⟨rfl, hB⟩ := hcut
      go_upto_if 18 with fail
      go_cut [5] (fun v wx => v = .string ⟨q1.toArray⟩ ∧ Below w.heap.size w wx)
      case first =>
        by_cases hc : 0 < m / 240
        · have e1 : q1 = [] ++ 32 :: (itoa ((m : Int) / 240) ++ [108]) := by rw [Q1.out, mP1, if_pos hc, ediv240]; rfl
          have E1 := Lib.hid e1
          clear e1
          go_wp2_with fail
          refine (digits_int _ (by omega) (by omega) _).mono ?_
          rintro e w2 ⟨rfl, hb2⟩
          simp only [str]
          go_wp2_with fail
          go_meet
          exact ⟨by rw [E1.out, ← glue3], (by repeat' (first | (with_reducible exact Below.refl _ _) | (with_reducible assumption) | (with_reducible refine below_drewN ?_ _) | (with_reducible refine below_step (by assumption) ?_ ?_) | (with_reducible refine Below.alloc ?_ ?_ _) | (with_reducible refine Below.setCell ?_ ?_ _) | (with_reducible refine Below.drew ?_) | go_size | (exact Below.size (by assumption)) | (refine Nat.le_trans (Below.size (by assumption)) ?_)))⟩
        · go_wp2_with fail
          go_meet
          exact ⟨by rw [Q1.out, mP1, if_neg hc], (by repeat' (first | (with_reducible exact Below.refl _ _) | (with_reducible assumption) | (with_reducible refine below_drewN ?_ _) | (with_reducible refine below_step (by assumption) ?_ ?_) | (with_reducible refine Below.alloc ?_ ?_ _) | (with_reducible refine Below.setCell ?_ ?_ _) | (with_reducible refine Below.drew ?_) | go_size | (exact Below.size (by assumption)) | (refine Nat.le_trans (Below.size (by assumption)) ?_)))⟩
      case rest =>
        obtain ⟨rfl, hB2⟩ := hcut
        clear hB
        go_upto_if 29 with fail
        go_cut [5] (fun v wx => v = .string ⟨q2.toArray⟩ ∧ Below w.heap.size w wx)
        case first =>
          by_cases hc : 0 < m / 12 % 20
          · have e1 : q2 = q1 ++ 32 :: (itoa ((m : Int) / 12 % 20) ++ [115]) := by rw [Q2.out, mP2, if_pos hc, ediv12]
            have E1 := Lib.hid e1
            clear e1
            go_wp2_with fail
            refine (digits_int _ (by omega) (by omega) _).mono ?_
            rintro e w2 ⟨rfl, hb2⟩
            simp only [str]
            go_wp2_with fail
            go_meet
            exact ⟨by rw [E1.out, ← glue3], (by repeat' (first | (with_reducible exact Below.refl _ _) | (with_reducible assumption) | (with_reducible refine below_drewN ?_ _) | (with_reducible refine below_step (by assumption) ?_ ?_) | (with_reducible refine Below.alloc ?_ ?_ _) | (with_reducible refine Below.setCell ?_ ?_ _) | (with_reducible refine Below.drew ?_) | go_size | (exact Below.size (by assumption)) | (refine Nat.le_trans (Below.size (by assumption)) ?_)))⟩
          · go_wp2_with fail
            go_meet
            exact ⟨by rw [Q2.out, mP2, if_neg hc, List.append_nil], (by repeat' (first | (with_reducible exact Below.refl _ _) | (with_reducible assumption) | (with_reducible refine below_drewN ?_ _) | (with_reducible refine below_step (by assumption) ?_ ?_) | (with_reducible refine Below.alloc ?_ ?_ _) | (with_reducible refine Below.setCell ?_ ?_ _) | (with_reducible refine Below.drew ?_) | go_size | (exact Below.size (by assumption)) | (refine Nat.le_trans (Below.size (by assumption)) ?_)))⟩
        case rest =>
          obtain ⟨rfl, hB3⟩ := hcut
          clear hB2
          go_upto_if 40 with fail
          go_cut [5] (fun v wx => v = .string ⟨q3.toArray⟩ ∧ Below w.heap.size w wx)
          case first =>
            by_cases hc : 0 < m % 12
            · have e1 : q3 = q2 ++ 32 :: (itoa ((m : Int) % 12) ++ [100]) := by rw [Q3.out, mP3, if_pos hc, emod12]
              have E1 := Lib.hid e1
              clear e1
              go_wp2_with fail
              refine (digits_int _ (by omega) (by omega) _).mono ?_
              rintro e w2 ⟨rfl, hb2⟩
              simp only [str]
              go_wp2_with fail
              go_meet
              exact ⟨by rw [E1.out, ← glue3], (by repeat' (first | (with_reducible exact Below.refl _ _) | (with_reducible assumption) | (with_reducible refine below_drewN ?_ _) | (with_reducible refine below_step (by assumption) ?_ ?_) | (with_reducible refine Below.alloc ?_ ?_ _) | (with_reducible refine Below.setCell ?_ ?_ _) | (with_reducible refine Below.drew ?_) | go_size | (exact Below.size (by assumption)) | (refine Nat.le_trans (Below.size (by assumption)) ?_)))⟩
            · go_wp2_with fail
              go_meet
              exact ⟨by rw [Q3.out, mP3, if_neg hc, List.append_nil], (by repeat' (first | (with_reducible exact Below.refl _ _) | (with_reducible assumption) | (with_reducible refine below_drewN ?_ _) | (with_reducible refine below_step (by assumption) ?_ ?_) | (with_reducible refine Below.alloc ?_ ?_ _) | (with_reducible refine Below.setCell ?_ ?_ _) | (with_reducible refine Below.drew ?_) | go_size | (exact Below.size (by assumption)) | (refine Nat.le_trans (Below.size (by assumption)) ?_)))⟩
          case rest =>
            obtain ⟨rfl, hB4⟩ := hcut
            clear hB3
            by_cases hn : p < 0
            · have hd : decide (p < 0) = true := decide_eq_true hn
              go_wp2
              go_ret2
              exact ⟨ret_si (by rw [cut_one H3.out, HT.out, if_pos hn, bytes_lit1, bytes_app2]; rfl), (by repeat' (first | (with_reducible exact Below.refl _ _) | (with_reducible assumption) | (with_reducible refine below_drewN ?_ _) | (with_reducible refine below_step (by assumption) ?_ ?_) | (with_reducible refine Below.alloc ?_ ?_ _) | (with_reducible refine Below.setCell ?_ ?_ _) | (with_reducible refine Below.drew ?_) | go_size | (exact Below.size (by assumption)) | (refine Nat.le_trans (Below.size (by assumption)) ?_)))⟩
            · have hd : decide (p < 0) = false := decide_eq_false hn
              go_wp2
              go_ret2
              exact ⟨ret_si (by rw [cut_one H3.out, HT.out, if_neg (by omega)]), (by repeat' (first | (with_reducible exact Below.refl _ _) | (with_reducible assumption) | (with_reducible refine below_drewN ?_ _) | (with_reducible refine below_step (by assumption) ?_ ?_) | (with_reducible refine Below.alloc ?_ ?_ _) | (with_reducible refine Below.setCell ?_ ?_ _) | (with_reducible refine Below.drew ?_) | go_size | (exact Below.size (by assumption)) | (refine Nat.le_trans (Below.size (by assumption)) ?_)))⟩
end Go.Proofs.YtclbjgelefbmlaaDoor
