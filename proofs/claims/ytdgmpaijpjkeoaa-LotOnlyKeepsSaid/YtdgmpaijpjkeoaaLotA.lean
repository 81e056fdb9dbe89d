/-
  GENEALOGIES IN MEMORY; takes.
-/
import Derived.Test.YtdgmpaijpjkeoaaLotV
import Derived.Test.YtdgmpaijpjkeoaaCalA
import Derived.Test.YtdgmpaijpjkeoaaReg
namespace Go.Proofs.Ytdgmpaijpjkeoaa
open Go.RowKit
/-- An int. -/
def I64 (n : Int) : Prop := -9223372036854775808 ≤ n ∧ n ≤ 9223372036854775807
/-- The slice with address A reads as the parts ps. -/
def PartsIn (w : World) (A : Option Addr) (ps : List (Int × Int)) : Prop :=
  (∀ p ∈ ps, I64 p.1 ∧ I64 p.2) ∧ (0 < ps.length → ∃ b o, A = some ⟨b, o, none⟩ ∧ b < w.heap.size ∧ ∀ k (h : k < ps.length), w.cell? ⟨b, o + k * 2, none⟩ = some (.int .i64 ps[k].1) ∧ w.cell? ⟨b, o + k * 2 + 1, none⟩ = some (.int .i64 ps[k].2))
theorem PartsIn.below {w w' : World} {A : Option Addr} {ps : List (Int × Int)} (hb : Below w.heap.size w w') (h : PartsIn w A ps) : PartsIn w' A ps := by
  refine ⟨h.1, fun hp => ?_⟩
  obtain ⟨b, o, rfl, hlt, hc⟩ := h.2 hp
  refine ⟨b, o, rfl, Nat.lt_of_lt_of_le hlt hb.size, fun k hk => ⟨(hb.cell (p := ⟨b, _, none⟩) hlt).trans (hc k hk).1, (hb.cell (p := ⟨b, _, none⟩) hlt).trans (hc k hk).2⟩⟩
/-- The cells from p on in block b hold the lot x. -/
def LotAt (w : World) (b p : Nat) (x : LotD) : Prop :=
  I64 x.kind ∧ I64 x.mass ∧ b < w.heap.size ∧ w.cell? ⟨b, p, none⟩ = some (.int .i64 x.kind) ∧ w.cell? ⟨b, p + 1, none⟩ = some (.int .i64 x.mass) ∧ ∃ A c, w.cell? ⟨b, p + 2, none⟩ = some (.slice A x.parts.length c) ∧ x.parts.length ≤ c ∧ PartsIn w A x.parts
theorem LotAt.below {w w' : World} {b p : Nat} {x : LotD} (hb : Below w.heap.size w w') (h : LotAt w b p x) : LotAt w' b p x := by
  obtain ⟨h1, h2, h3, h4, h5, A, c, h6, h8, h7⟩ := h
  exact ⟨h1, h2, Nat.lt_of_lt_of_le h3 hb.size, (hb.cell (p := ⟨b, _, none⟩) h3).trans h4, (hb.cell (p := ⟨b, _, none⟩) h3).trans h5, A, c, (hb.cell (p := ⟨b, _, none⟩) h3).trans h6, h8, h7.below hb⟩
/-- The slice with address A reads as the genealogy l. -/
def LotsIn (w : World) (A : Option Addr) (l : List LotD) : Prop :=
  0 < l.length → ∃ b o, A = some ⟨b, o, none⟩ ∧ ∀ i (h : i < l.length), LotAt w b (o + i * 3) l[i]
theorem LotsIn.below {w w' : World} {A : Option Addr} {l : List LotD} (hb : Below w.heap.size w w') (h : LotsIn w A l) : LotsIn w' A l := by
  intro hp
  obtain ⟨b, o, rfl, hc⟩ := h hp
  exact ⟨b, o, rfl, fun i hi => (hc i hi).below hb⟩
theorem sumP_take {ps : List (Int × Int)} {k : Nat} (h : k < ps.length) : sumP (ps.take (k + 1)) = sumP (ps.take k) + ps[k].2 := by
  rw [List.take_succ_eq_append_getElem h, sumP_snoc]
/-- Parts whose masses are no masses of a lot may add up to anything; those of a valid lot do not. -/
def SmallP (ps : List (Int × Int)) : Prop := ps.length ≤ 1000000 ∧ ∀ p ∈ ps, -1000000 ≤ p.2 ∧ p.2 ≤ 1000000
theorem SmallP.bd {ps : List (Int × Int)} (h : SmallP ps) (k : Nat) : -(k * 1000000) ≤ sumP (ps.take k) ∧ sumP (ps.take k) ≤ k * 1000000 := by
  induction k with
  | zero => simp [sumP]
  | succ k ih =>
    by_cases hk : k < ps.length
    · rw [sumP_take hk]
      have := h.2 _ (List.getElem_mem hk)
      omega
    · rw [List.take_of_length_le (by omega)] at ih ⊢
      omega
set_option maxRecDepth 100000 in
set_option maxHeartbeats 400000 in
theorem takes_any (x : LotD) (A : Option Addr) (c : Nat) (w : World) (hP : PartsIn w A x.parts) (hS : SmallP x.parts) :
    Calls Try.prog 96 #[.agg #[.int .i64 x.kind, .int .i64 x.mass, .slice A x.parts.length c]] w fun e w' => e = .returned (.int .i64 (sumP x.parts)) ∧ Below w.heap.size w w' := by
  obtain ⟨kd, ms, ps⟩ := x
  simp only at hP hS ⊢
  have HP := Lib.hid hP
  have HS := Lib.hid hS
  clear hP hS
  go_enter Try.func96, Try.ntmps96
  go_wp2
  go_loopw [3, 9] (fun v i wr => ∃ k : Nat, v = .int .i64 (sumP (ps.take k)) ∧ i = .int .i64 k ∧ k ≤ ps.length ∧ Hid (Below w.heap.size w wr)) (fun _ i _ => ps.length - (intOf i).toNat)
  case atStart => exact ⟨0, rfl, rfl, by omega, Lib.hid (by repeat' (first | (with_reducible exact Below.refl _ _) | (with_reducible assumption) | (with_reducible refine below_drewN ?_ _) | (with_reducible refine below_step (by assumption) ?_ ?_) | (with_reducible refine Below.alloc ?_ ?_ _) | (with_reducible refine Below.setCell ?_ ?_ _) | (with_reducible refine Below.drew ?_) | go_size | (exact Below.size (by assumption)) | (refine Nat.le_trans (Below.size (by assumption)) ?_)))⟩
  case round =>
    obtain ⟨k, rfl, rfl, hk, hr⟩ := hrel
    by_cases hlt : k < ps.length
    · obtain ⟨b, o, rfl, hb, hc⟩ := (HP.out.below hr.out).2 (by omega)
      obtain ⟨q0, q1⟩ := hc k hlt
      have hbd := HS.out.bd k
      have hbd2 := HS.out.bd (k + 1)
      have hl := HS.out.1
      have ht := sumP_take hlt
      rw [ht] at hbd2
      have HT := Lib.hid ht
      obtain ⟨p, hp⟩ : ∃ p, ps[k] = p := ⟨_, rfl⟩
      rw [hp] at q0 q1 hbd2
      have HPP := Lib.hid hp
      obtain ⟨S, hS⟩ : ∃ S, S = sumP (ps.take k) := ⟨_, rfl⟩
      rw [← hS] at hbd hbd2 ⊢
      have HSS := Lib.hid hS
      clear hc ht hp hS
      go_wp2
      go_roundw
      case rel => exact ⟨k + 1, by rw [HT.out, ← HSS.out, HPP.out], by go_num, by omega, Lib.hid (hr.out.alloc hr.out.size _)⟩
      case measure => simp [intOf]; omega
    · obtain rfl : k = ps.length := by omega
      rw [List.take_length]
      go_wp2
      go_ret
      exact ⟨rfl, hr.out⟩
end Go.Proofs.Ytdgmpaijpjkeoaa
