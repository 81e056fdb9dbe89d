/-
  LISTS OF LOTS JOINED; PARTS THAT ARE WRITTEN.
-/
import Derived.Test.YtdgmpaijpjkeoaaOwnF
namespace Go.Proofs.Ytdgmpaijpjkeoaa
open Go.RowKit
theorem PartO.move {w : World} {B B' : Nat} {hb hb' : Option Nat} {ps : List (Int × Int)} {s : Value} (h : PartO w B hb ps s) (hB : B' ≤ B) (hv : ∀ g, hb' = some g → g < B) : PartO w B' hb' ps s := by
  obtain ⟨A, c, rfl, q1, q2, q3⟩ := h
  exact ⟨A, c, rfl, q1, q2, fun hp => by
    obtain ⟨g, e, r1, -, r3⟩ := q3 hp
    exact ⟨g, e, Nat.le_trans hB r1, fun e => by have := hv g e; omega, r3⟩⟩
theorem OwnL.join {w : World} {B B2 : Nat} {v1 v2 : Value} {l1 l2 : List LotD} (h1 : OwnL w B v1 l1) (h2 : OwnL w B2 v2 l2) (hB : B ≤ B2) (hv : ∀ g, v1.ownBlock = some g → g < B2) (hn : l1.length + l2.length ≤ 1000) (hb : B ≤ w.heap.size) (ty : TypeId) :
    ∃ v' w', (Builtin.append_ #[22, 22] ty #[v1, v2]).run Try.prog w = .ok v' w' ∧ OwnL w' B v' (l1 ++ l2) ∧ w.grownBy w' v1.ownBlock := by
  obtain ⟨ts1, t1, t2, t3⟩ := h1
  obtain ⟨ts2, u1, u2, u3⟩ := h2
  obtain ⟨A, c, rfl, hle, hc⟩ := own_slice u1
  obtain ⟨v', w', r1, r2, r3, r4⟩ := lots_run w ty A l2.length c ts2 u2 (fun t ht => by
    obtain ⟨i, hi, rfl⟩ := List.getElem_of_mem ht
    obtain ⟨-, -, -, -, e5⟩ := u3 i (by omega) hi
    exact e5.one) (hc (by decide)) B v1 l1.length (flat3 ts1) (by omega) t1 hb
  refine ⟨v', w', r1, ⟨ts1 ++ ts2, ?_, by simp [t2, u2], fun i hi hi' => ?_⟩, r3⟩
  · rw [flat3_append, List.length_append]
    exact r2
  · have hd : v'.ownBlock = v1.ownBlock ∨ v'.ownBlock = some w.heap.size ∨ v'.ownBlock = some (w.heap.size + 1) := by
      rcases r4 with h | h
      · exact .inl h
      · exact .inr (.inl h)
    by_cases hil : i < l1.length
    · rw [List.getElem_append_left hil, List.getElem_append_left (by omega)]
      obtain ⟨e1, e2, e3, e4, e5⟩ := t3 i hil (by omega)
      exact ⟨e1, e2, e3, e4, e5.grown r3 (.inl rfl) hd⟩
    · have hi2 : i - l1.length < l2.length := by simp at hi; omega
      rw [List.getElem_append_right (by omega), List.getElem_append_right (by omega)]
      obtain ⟨e1, e2, e3, e4, e5⟩ := u3 (i - l1.length) hi2 (by omega)
      simp only [t2]
      exact ⟨e1, e2, e3, e4, (e5.move (hb' := v1.ownBlock) hB hv).grown r3 (.inl rfl) hd⟩
theorem PartO.down {w : World} {B B' : Nat} {hb : Option Nat} {ps : List (Int × Int)} {s : Value} (h : PartO w B hb ps s) (hB : B' ≤ B) : PartO w B' hb ps s := by
  obtain ⟨A, c, rfl, q1, q2, q3⟩ := h
  exact ⟨A, c, rfl, q1, q2, fun hp => by
    obtain ⟨g, e, r1, r2, r3⟩ := q3 hp
    exact ⟨g, e, Nat.le_trans hB r1, r2, r3⟩⟩
theorem ownsRow_down {w : World} {B B' : Nat} {e : TypeId} {size : Nat} {v : Value} {n : Nat} {xs : List Value} (h : w.ownsRow B e size v n xs) (hB : B' ≤ B) : w.ownsRow B' e size v n xs := by
  refine ⟨h.1, ?_⟩
  rcases h.2 with h | ⟨g, cap, cur, e, h1, h2⟩
  · exact .inl h
  · exact .inr ⟨g, cap, cur, e, Nat.le_trans hB h1, h2⟩
theorem OwnL.down {w : World} {B B' : Nat} {v : Value} {ls : List LotD} (h : OwnL w B v ls) (hB : B' ≤ B) : OwnL w B' v ls := by
  obtain ⟨ts, t1, t2, t3⟩ := h
  refine ⟨ts, ownsRow_down t1 hB, t2, fun i hi hi' => ?_⟩
  obtain ⟨e1, e2, e3, e4, e5⟩ := t3 i hi hi'
  exact ⟨e1, e2, e3, e4, e5.down hB⟩
/-- The parts of n lots at o in block b may be written; they lie in memory from block B on, outside of b. -/
def MutL (w : World) (B b : Nat) (ms : List Nat) : Prop :=
  B ≤ b ∧ b < w.heap.size ∧ ∀ i (h : i < ms.length), ∃ A c, w.cell? ⟨b, i * 3 + 2, none⟩ = some (.slice A ms[i] c) ∧ ms[i] ≤ c ∧ (0 < ms[i] → ∃ g xs, A = some ⟨g, 0, none⟩ ∧ B ≤ g ∧ b ≠ g ∧ Row w g xs ∧ xs.length = ms[i] * 2)
theorem MutL.drewN {w : World} {B b : Nat} {ms : List Nat} (h : MutL w B b ms) (m : Nat) : MutL (w.drewN m) B b ms := h
theorem OwnL.mut {w : World} {B g n c : Nat} {ls : List LotD} (h : OwnL w B (.slice (some ⟨g, 0, none⟩) n c) ls) : n = ls.length ∧ MutL w B g (ls.map (·.parts.length)) := by
  obtain ⟨A, c', e, hle, hL⟩ := h.lots
  cases e
  refine ⟨rfl, ?_⟩
  have hlt := h.lt g rfl
  obtain ⟨ts, t1, t2, t3⟩ := h
  refine ⟨hlt.1, hlt.2, fun i hi => ?_⟩
  simp only [List.length_map] at hi
  obtain ⟨e1, e2, e3, e4, e5⟩ := t3 i hi (by omega)
  obtain ⟨q1, q2, q3⟩ := flat3_at ts i (by omega)
  obtain ⟨A', c2, e6, e7, e8, e9⟩ := e5
  have := World.ownsRow.cells t1 (g := g) rfl _ _ q3
  rw [Addr.add_mid, Nat.zero_add, e6] at this
  simp only [List.getElem_map]
  refine ⟨A', c2, this, e7, fun hp => ?_⟩
  obtain ⟨g', f1, f2, f3, f4⟩ := e9 hp
  exact ⟨g', _, f1, f2, fun e => f3 (by rw [e]; rfl), f4, flatP_length _⟩
theorem MutL.set {w : World} {B b g : Nat} {ms : List Nat} (h : MutL w B b ms) (hne : b ≠ g) (j : Nat) (u : Value) : MutL (w.setCell ⟨g, j, none⟩ u) B b ms := by
  refine ⟨h.1, by simpa using h.2.1, fun i hi => ?_⟩
  obtain ⟨A, c, e1, e2, e3⟩ := h.2.2 i hi
  refine ⟨A, c, ?_, e2, fun hp => ?_⟩
  · exact (World.cell?_of_block (a := ⟨b, _, none⟩) (Below.heap_setCell w ⟨g, j, none⟩ u b hne)).trans e1
  · obtain ⟨g', xs, f1, f2, f3, f4, f5⟩ := e3 hp
    by_cases hg : g' = g
    · subst hg
      exact ⟨g', xs.set j u, f1, f2, f3, f4.set j u, by rw [List.length_set]; exact f5⟩
    · exact ⟨g', xs, f1, f2, f3, f4.other hg u, f5⟩
theorem MutL.at {w : World} {B b : Nat} {ms : List Nat} (h : MutL w B b ms) (i : Nat) (hi : i < ms.length) : ∃ A c, w.cell? ⟨b, i * 3 + 2, none⟩ = some (.slice A ms[i] c) ∧ ms[i] ≤ c ∧ (∀ k, k < ms[i] → ∃ g u, A = some ⟨g, 0, none⟩ ∧ B ≤ g ∧ g < w.heap.size ∧ b ≠ g ∧ w.cell? ⟨g, k * 2 + 1, none⟩ = some u ∧ w.frozen? ⟨g, k * 2 + 1, none⟩ = false) := by
  obtain ⟨A, c, e1, e2, e3⟩ := h.2.2 i hi
  refine ⟨A, c, e1, e2, fun k hk => ?_⟩
  obtain ⟨g, xs, f1, f2, f3, f4, f5⟩ := e3 (by omega)
  exact ⟨g, _, f1, f2, f4.lt, f3, f4.get (k * 2 + 1) (by omega), f4.free _⟩
end Go.Proofs.Ytdgmpaijpjkeoaa
