/-
  RECALLS: PLAIN. Which lots have at least some share of a lot; a greater share names no more lots.
-/
import Derived.Test.YtdgmpaijpjkeoaaCmpA
import Derived.Test.YtdgmpaijpjkeoaaNumN
import Derived.Test.YtdgmpaijpjkeoaaOwn
namespace Go.Proofs.Ytdgmpaijpjkeoaa
open Go.RowKit
def rclT (l : List LotD) (of : Nat) (rn rd : Int) : Nat → List Int
  | 0 => []
  | k + 1 => rclT l of rn rd k ++ (if of ≤ k ∧ 0 ≤ agE l of k rn rd then [(k : Int)] else [])
section
variable {l : List LotD} {of : Nat} {rn rd : Int}
theorem rclT_yes {k : Nat} (h : of ≤ k) (h2 : 0 ≤ agE l of k rn rd) : rclT l of rn rd (k + 1) = rclT l of rn rd k ++ [(k : Int)] := by rw [rclT, if_pos ⟨h, h2⟩]
theorem rclT_no {k : Nat} (h : ¬ (of ≤ k ∧ 0 ≤ agE l of k rn rd)) : rclT l of rn rd (k + 1) = rclT l of rn rd k := by rw [rclT, if_neg h, List.append_nil]
theorem rclT_low : ∀ (k : Nat), k ≤ of → rclT l of rn rd k = []
  | 0, _ => rfl
  | k + 1, h => by rw [rclT_no (by omega)]; exact rclT_low k (by omega)
theorem rclT_length : ∀ (k : Nat), (rclT l of rn rd k).length ≤ k
  | 0 => by simp [rclT]
  | k + 1 => by
    have := rclT_length k
    rw [rclT, List.length_append]
    split <;> simp <;> omega
theorem mem_rclT {x : Int} : ∀ (k : Nat), x ∈ rclT l of rn rd k ↔ ∃ j : Nat, j < k ∧ x = j ∧ of ≤ j ∧ 0 ≤ agE l of j rn rd
  | 0 => by simp [rclT]
  | k + 1 => by
    rw [rclT, List.mem_append, mem_rclT k]
    constructor
    · rintro (⟨j, h1, h2⟩ | h)
      · exact ⟨j, by omega, h2⟩
      · split at h
        · rename_i hk
          exact ⟨k, by omega, by simpa using h, hk⟩
        · cases h
    · rintro ⟨j, h1, h2, h3⟩
      by_cases hj : j = k
      · subst hj
        exact .inr (by rw [if_pos h3]; simp [h2])
      · exact .inl ⟨j, by omega, h2, h3⟩
end
/-- The answer of Recall. -/
def rclE (l : List LotD) (of rn rd : Int) : List Int × Int := if chkE l [of] ≠ 0 then ([], chkE l [of]) else if vld rn rd = true ∧ 0 < rn then (rclT l of.toNat rn rd l.length, 0) else ([], 1)
theorem rclE_len {l : List LotD} {of rn rd : Int} {a : List Int} {e : Int} (h : rclE l of rn rd = (a, e)) : a.length ≤ l.length ∧ ∀ x ∈ a, (0 : Int) ≤ x ∧ x ≤ l.length := by
  unfold rclE at h
  split at h
  · simp only [Prod.mk.injEq] at h
    obtain ⟨rfl, rfl⟩ := h
    simp
  · split at h
    · simp only [Prod.mk.injEq] at h
      obtain ⟨rfl, rfl⟩ := h
      refine ⟨rclT_length _, fun x hx => ?_⟩
      obtain ⟨j, h1, h2, -⟩ := (mem_rclT _).1 hx
      omega
    · simp only [Prod.mk.injEq] at h
      obtain ⟨rfl, rfl⟩ := h
      simp
theorem ag_pos {l : List LotD} {of j : Nat} {rn rd : Int} (h : 0 < rn) (hd : 0 < rd) : 0 ≤ agE l of j rn rd ↔ ((Pr (tN l) 0 (j + 1) : Nat) : Int) * rn ≤ (fN l of j : Nat) * rd := by
  obtain ⟨r, rfl⟩ : ∃ n : Nat, rn = n := ⟨rn.toNat, by omega⟩
  obtain ⟨d, rfl⟩ : ∃ n : Nat, rd = n := ⟨rd.toNat, by omega⟩
  unfold agE
  rw [if_neg (by omega), Int.toNat_natCast, Int.toNat_natCast, ← Int.natCast_mul, ← Int.natCast_mul, Int.ofNat_le]
  unfold cmpN
  split
  · constructor <;> intro <;> omega
  · split <;> constructor <;> intro <;> omega
/-- The half of a share names all the lots that the share names. -/
theorem rcl_half {l : List LotD} {of rn rd hn hd e f : Int} {a c : List Int} (h1 : rclE l of rn rd = (a, e)) (h2 : mulM rn rd 1 2 = (hn, hd, 0)) (h3 : rclE l of hn hd = (c, f)) (h0 : 0 < a.length) : f = 0 ∧ ∀ x ∈ a, x ∈ c := by
  unfold rclE at h1 h3
  by_cases hc : chkE l [of] = 0
  · rw [if_neg (by simpa using hc)] at h1 h3
    by_cases hr : vld rn rd = true ∧ 0 < rn
    · rw [if_pos hr] at h1
      simp only [Prod.mk.injEq] at h1
      obtain ⟨rfl, -⟩ := h1
      have hv := (mulM_bd h2).2.2 rfl
      unfold mulM at h2
      rw [if_pos ⟨hr.1, by decide⟩] at h2
      obtain ⟨-, -, hm⟩ := mk_ok h2
      have pd := (vld_bd hr.1).1
      have pe := (vld_bd hv).1
      have hrd : (0 : Int) < rd * 2 := by omega
      have hhd : (0 : Int) < hd := by omega
      have hpos : 0 < hn := by
        have h4 : 0 < hn * (rd * 2) := by rw [hm]; exact Int.mul_pos (by omega) hhd
        exact Int.pos_of_mul_pos_left h4 hrd
      rw [if_pos ⟨hv, hpos⟩] at h3
      simp only [Prod.mk.injEq] at h3
      obtain ⟨rfl, rfl⟩ := h3
      refine ⟨rfl, fun x hx => ?_⟩
      obtain ⟨j, h5, h6, h7, h8⟩ := (mem_rclT _).1 hx
      refine (mem_rclT _).2 ⟨j, h5, h6, h7, ?_⟩
      rw [ag_pos hr.2 (by omega)] at h8
      rw [ag_pos hpos hhd]
      generalize ((Pr (tN l) 0 (j + 1) : Nat) : Int) = D at h8 ⊢
      generalize hN : ((fN l of.toNat j : Nat) : Int) = N at h8 ⊢
      have hN0 : 0 ≤ N := by omega
      have hN1 : 0 ≤ N * hd := Int.mul_nonneg hN0 (by omega)
      have k1 : D * hn * (rd * 2) = D * rn * hd := by rw [Int.mul_assoc, hm, Int.mul_one, ← Int.mul_assoc]
      have k2 : D * rn * hd ≤ N * rd * hd := Int.mul_le_mul_of_nonneg_right h8 (by omega)
      have k3 : D * hn * 2 * rd ≤ N * hd * rd := by
        have e1 : D * hn * 2 * rd = D * hn * (rd * 2) := by ac_rfl
        have e2 : N * hd * rd = N * rd * hd := by ac_rfl
        rw [e1, k1, e2]; exact k2
      have k4 : D * hn * 2 ≤ N * hd := Int.le_of_mul_le_mul_right k3 (by omega)
      omega
    · rw [if_neg hr] at h1
      simp only [Prod.mk.injEq] at h1
      rw [← h1.1] at h0
      simp at h0
  · rw [if_pos hc] at h1
    simp only [Prod.mk.injEq] at h1
    rw [← h1.1] at h0
    simp at h0
/-- A list of integers and an error. -/
def OutI (w : World) (l : List Int) (z : Int) (e : Ending) (w' : World) : Prop :=
  ∃ A c, e = .returned (.tuple #[.slice A l.length c, .int .i64 z]) ∧ IsL w' A l.length l ∧ Below w.heap.size w w'
theorem OutI.no {w w' : World} {l : List Int} {z y : Int} (h : (([] : List Int), y) = (l, z)) (hb : Below w.heap.size w w') : OutI w l z (.returned (.tuple #[.slice none 0 0, .int .i64 y])) w' := by
  simp only [Prod.mk.injEq] at h
  obtain ⟨rfl, rfl⟩ := h
  exact ⟨none, 0, rfl, ⟨rfl, fun h => by simp at h⟩, hb⟩
theorem Box2.of_block {w w' : World} {b : Nat} {x y : Value} (h : Box2 w b x y) (hb : w'.heap[b]? = w.heap[b]?) : Box2 w' b x y := by
  obtain ⟨h1, h2, h3, h4, h5⟩ := h
  refine ⟨(World.cell?_of_block (a := ⟨b, 0, none⟩) hb).trans h1, (World.cell?_of_block (a := ⟨b, 1, none⟩) hb).trans h2, ?_, ?_, ?_⟩
  · rw [← h3]; simp only [World.frozen?, hb]
  · rw [← h4]; simp only [World.frozen?, hb]
  · rw [Array.getElem?_eq_getElem h5] at hb
    exact (Array.getElem?_eq_some_iff.1 hb).1
end Go.Proofs.Ytdgmpaijpjkeoaa
