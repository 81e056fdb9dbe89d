/-
  THE PROGRAM's PARSER: demand, next.
-/
import Derived.Test.YtgmokojdlbdjeaaGreatDoorPatG
namespace Go.Proofs.YtgmokojdlbdjeaaGreatDoor
open Go.RowKit
/-- The slice with address A, below the block B, reads as the texts ws. -/
def StrsIn (B : Nat) (w : World) (A : Option Addr) (ws : List ByteArray) : Prop := 0 < ws.length → ∃ b o, A = some ⟨b, o, none⟩ ∧ b < B ∧ ∀ i (h : i < ws.length), w.cell? ⟨b, o + i, none⟩ = some (.string ws[i])
/-- The parser in the block pb, below B, has the words ws before it; these lie in another block below B. -/
def PS (B : Nat) (w : World) (pb : Nat) (ws : List ByteArray) : Prop := ∃ A c, w.cell? ⟨pb, 0, none⟩ = some (.slice A ws.length c) ∧ ws.length ≤ c ∧ w.frozen? ⟨pb, 0, none⟩ = false ∧ (pb < B ∧ B ≤ w.heap.size) ∧ StrsIn B w A ws ∧ ∀ b o, A = some ⟨b, o, none⟩ → pb ≠ b
theorem PS.other {B : Nat} {w w' : World} {pb : Nat} {ws : List ByteArray} (h : PS B w pb ws) (hb : Below B w w') : PS B w' pb ws := by
  obtain ⟨A, c, h1, h2, h3, h4, h5, h6⟩ := h
  exact ⟨A, c, (hb.cell (p := ⟨pb, 0, none⟩) h4.1).trans h1, h2, (hb.frozen (p := ⟨pb, 0, none⟩) h4.1).trans h3, ⟨h4.1, Nat.le_trans h4.2 hb.size⟩, fun hp => by
    obtain ⟨b, o, rfl, hlt, hc⟩ := h5 hp
    exact ⟨b, o, rfl, hlt, fun i hi => (hb.cell (p := ⟨b, _, none⟩) hlt).trans (hc i hi)⟩, h6⟩
theorem PS.lt {B : Nat} {w : World} {pb : Nat} {ws : List ByteArray} (h : PS B w pb ws) : pb < B ∧ B ≤ w.heap.size := by
  obtain ⟨A, c, h1, h2, h3, h4, h5, h6⟩ := h
  exact h4
set_option maxRecDepth 100000 in
theorem demand_ok (w : World) : Calls Tryz.prog 120 #[.bool true] w fun e w' => e = .returned (.tuple #[]) ∧ w = w' := by
  go_enter Tryz.func120, Tryz.ntmps120
  go_wp2
  go_end0
  exact ⟨rfl, rfl⟩
set_option maxRecDepth 100000 in
set_option maxHeartbeats 1000000 in
theorem next_ok (B pb : Nat) (x : ByteArray) (ws : List ByteArray) (w : World) (hl : ws.length ≤ 1000000) (h : PS B w pb (x :: ws)) :
    Calls Tryz.prog 121 #[.pointer (some ⟨pb, 0, none⟩)] w fun e w' => e = .returned (.string x) ∧ PS B w' pb ws ∧ w.grownBy w' (some pb) := by
  obtain ⟨A, c, h1, h2, h3, h4, h5, h6⟩ := h
  obtain ⟨b, o, rfl, hlt, hc⟩ := h5 (by simp)
  have q0 := hc 0 (by simp)
  simp only [List.getElem_cons_zero, Nat.add_zero] at q0
  have hne := h6 b o rfl
  have HC := Lib.hid (fun i (hi : i < ws.length) => hc (i + 1) (by simpa using hi))
  simp only [List.length_cons] at h1 h2
  obtain ⟨n, hn⟩ : ∃ n, n = ws.length := ⟨_, rfl⟩
  rw [← hn] at h1 h2
  have HN := Lib.hid hn
  have hn6 : n ≤ 1000000 := by omega
  have hd := demand_ok
  clear hc h5 h6 hn hl
  have hgr : ∀ u, w.grownBy (w.setCell ⟨pb, 0, none⟩ u) (some pb) := fun u => ⟨rfl, rfl, rfl, by simp [World.setCell], fun q _ hne => Below.heap_setCell w ⟨pb, 0, none⟩ _ q (fun e => hne (by rw [e]))⟩
  have hfin : ∀ A2 c2, ws.length ≤ c2 → (∀ b2 o2, A2 = some ⟨b2, o2, none⟩ → b2 = b) → (0 < ws.length → A2 = some ⟨b, o + 1, none⟩) → PS B (w.setCell ⟨pb, 0, none⟩ (.slice A2 n c2)) pb ws ∧ w.grownBy (w.setCell ⟨pb, 0, none⟩ (.slice A2 n c2)) (some pb) := fun A2 c2 g1 g2 g3 => by
    refine ⟨⟨A2, c2, ?_, g1, ?_, ⟨h4.1, by simpa [World.setCell] using h4.2⟩, fun hp => ?_, fun b2 o2 e => ?_⟩, hgr _⟩
    · rw [World.cell?_setCell_same _ _ _ h1, HN.out]
    · rw [World.frozen?_setCell]; exact h3
    · refine ⟨b, o + 1, g3 hp, hlt, fun i hi => ?_⟩
      have := HC.out i hi
      rw [show o + 1 + i = o + (i + 1) by omega]
      exact (World.cell?_of_block (a := ⟨b, _, none⟩) (Below.heap_setCell w ⟨pb, 0, none⟩ _ b (fun e => hne e.symm))).trans this
    · rw [g2 b2 o2 e]; exact hne
  have HFIN := Lib.hid hfin
  clear hfin hgr
  by_cases hcap : c = 1
  · subst hcap
    obtain rfl : n = 0 := by omega
    go_enter Tryz.func121, Tryz.ntmps121
    go_wp2_with (go_at_call 120; refine (hd _).mono ?_; rintro e w' ⟨rfl, rfl⟩)
    go_ret
    exact ⟨rfl, HFIN.out (some ⟨b, o, none⟩) 0 (by have := HN.out; omega) (fun b2 o2 e => by cases e; rfl) (fun h => by have := HN.out; omega)⟩
  · go_enter Tryz.func121, Tryz.ntmps121
    go_wp2_with (go_at_call 120; refine (hd _).mono ?_; rintro e w' ⟨rfl, rfl⟩)
    go_ret
    exact ⟨rfl, HFIN.out (some ⟨b, o + 1, none⟩) (c - 1) (by have := HN.out; omega) (fun b2 o2 e => by cases e; rfl) (fun _ => rfl)⟩
end Go.Proofs.YtgmokojdlbdjeaaGreatDoor
