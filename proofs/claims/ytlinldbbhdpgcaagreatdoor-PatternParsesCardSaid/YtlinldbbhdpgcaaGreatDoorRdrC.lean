/-
  THE REFERENCE's PARSER: its reader; next, word, number.
-/
import Derived.Test.YtlinldbbhdpgcaaGreatDoorParV
import Derived.Test.YtlinldbbhdpgcaaGreatDoorPrfE
import Derived.Deep.DeepCutAuto
import Derived.Laws.AppendOwnNone
namespace Go.Proofs.YtlinldbbhdpgcaaGreatDoor
open Go.RowKit
def RBox (w : World) (rb : Nat) (wv : Value) (i : Nat) (bad : Bool) (av : Value) : Prop := w.heap[rb]? = some (.cells #[wv, .int .i64 i, .bool bad, av] 83 (0, 0))
section
variable {w w' : World} {rb : Nat} {wv av : Value} {i : Nat} {bad : Bool}
theorem RBox.cells (h : RBox w rb wv i bad av) : w.cell? ⟨rb, 0, none⟩ = some wv ∧ w.cell? ⟨rb, 1, none⟩ = some (.int .i64 i) ∧ w.cell? ⟨rb, 2, none⟩ = some (.bool bad) ∧ w.cell? ⟨rb, 3, none⟩ = some av ∧ rb < w.heap.size :=
  ⟨(cell_of_row w rb 0 _ _ (0, 0) h).trans rfl, (cell_of_row w rb 1 _ _ (0, 0) h).trans rfl, (cell_of_row w rb 2 _ _ (0, 0) h).trans rfl, (cell_of_row w rb 3 _ _ (0, 0) h).trans rfl, (Array.getElem?_eq_some_iff.1 h).1⟩
theorem RBox.frozen (h : RBox w rb wv i bad av) (k : Nat) : w.frozen? ⟨rb, k, none⟩ = false := frozen_of_row w rb k _ _ h
theorem RBox.set1 (h : RBox w rb wv i bad av) (k : Nat) : RBox (w.setCell ⟨rb, 1, none⟩ (.int .i64 k)) rb wv k bad av := by
  obtain ⟨hg, he⟩ := Array.getElem?_eq_some_iff.1 h
  unfold RBox
  simp [World.setCell, hg, Array.getElem_modify, he]
theorem RBox.set2 (h : RBox w rb wv i bad av) (b : Bool) : RBox (w.setCell ⟨rb, 2, none⟩ (.bool b)) rb wv i b av := by
  obtain ⟨hg, he⟩ := Array.getElem?_eq_some_iff.1 h
  unfold RBox
  simp [World.setCell, hg, Array.getElem_modify, he]
theorem RBox.set3 (h : RBox w rb wv i bad av) (u : Value) : RBox (w.setCell ⟨rb, 3, none⟩ u) rb wv i bad u := by
  obtain ⟨hg, he⟩ := Array.getElem?_eq_some_iff.1 h
  unfold RBox
  simp [World.setCell, hg, Array.getElem_modify, he]
theorem RBox.keepB (h : RBox w rb wv i bad av) (hb : Below w.heap.size w w') : RBox w' rb wv i bad av := (hb.block _ (Array.getElem?_eq_some_iff.1 h).1).trans h
end
/-- The words of the reader: in a block below B, other than the reader's. -/
def RdW (B : Nat) (w : World) (rb : Nat) (wv : Value) (ws : List ByteArray) : Prop := ∃ b o c, wv = .slice (some ⟨b, o, none⟩) ws.length c ∧ b < B ∧ b ≠ rb ∧ ∀ k (h : k < ws.length), w.cell? ⟨b, o + k, none⟩ = some (.string ws[k])
/-- The reader in the block rb is at the word i. -/
structure RS (B : Nat) (w : World) (rb : Nat) (wv : Value) (ws : List ByteArray) (i : Nat) (bad : Bool) (av : Value) : Prop where
  box : RBox w rb wv i bad av
  wd : RdW B w rb wv ws
  lt : rb < B ∧ B ≤ w.heap.size
  le : i ≤ ws.length
  md : Mod ws
theorem RS.step {B : Nat} {w w' : World} {rb : Nat} {wv av : Value} {ws : List ByteArray} {i j : Nat} {bad bad' : Bool} (h : RS B w rb wv ws i bad av) (hg : w.grownBy w' (some rb)) (hb : RBox w' rb wv j bad' av) (hl : j ≤ ws.length) : RS B w' rb wv ws j bad' av := by
  obtain ⟨b, o, c, h1, h2, h3, h4⟩ := h.wd
  have hlt := h.lt
  refine ⟨hb, ⟨b, o, c, h1, h2, h3, fun k hk => ?_⟩, ⟨hlt.1, Nat.le_trans hlt.2 hg.size⟩, hl, h.md⟩
  exact (World.cell?_of_block (a := ⟨b, _, none⟩) (hg.block b (by omega) (fun e => by cases e; exact h3 rfl))).trans (h4 k hk)
theorem RS.keep {B : Nat} {w w' : World} {rb : Nat} {wv av : Value} {ws : List ByteArray} {i : Nat} {bad : Bool} (h : RS B w rb wv ws i bad av) (hb : Below w.heap.size w w') : RS B w' rb wv ws i bad av := h.step (grown_of hb _) (h.box.keepB hb) h.le
theorem RS.dr {B : Nat} {w : World} {rb : Nat} {wv av : Value} {ws : List ByteArray} {i : Nat} {bad : Bool} (h : RS B w rb wv ws i bad av) (m : Nat) : RS B (w.drewN m) rb wv ws i bad av := h.keep (below_drewN (Below.refl _ _) m)
theorem grown_dr (w : World) (m : Nat) (row : Option Nat) : w.grownBy (w.drewN m) row := grown_of (below_drewN (Below.refl _ _) m) row
theorem drop_cons2 {α : Type} {l r : List α} {x : α} {i : Nat} (h : l.drop i = x :: r) : ∃ hi : i < l.length, l[i] = x ∧ l.drop (i + 1) = r := by
  have hi : i < l.length := by
    rcases Nat.lt_or_ge i l.length with h1 | h1
    · exact h1
    · rw [List.drop_eq_nil_of_le h1] at h; cases h
  rw [List.drop_eq_getElem_cons hi] at h
  cases h
  exact ⟨hi, rfl, rfl⟩
section
variable (B : Nat) (w : World) (rb : Nat) (wv av : Value) (ws : List ByteArray) (i : Nat) (bad : Bool)
set_option maxRecDepth 100000 in
set_option maxHeartbeats 1000000 in
theorem rnext_ok (h : RS B w rb wv ws i bad av) (x : ByteArray) (r : List ByteArray) (hd : ws.drop i = x :: r) :
    Calls Tryz.prog 73 #[.pointer (some ⟨rb, 0, none⟩)] w fun e w' => e = .returned (.string x) ∧ RS B w' rb wv ws (i + 1) bad av ∧ w.grownBy w' (some rb) := by
  obtain ⟨hi, hx, -⟩ := drop_cons2 hd
  obtain ⟨b, o, c, rfl, h2, h3, h4⟩ := h.wd
  have y0 := h4 i hi
  rw [hx] at y0
  obtain ⟨q0, q1, q2, q3, q4⟩ := h.box.cells
  have f1 := h.box.frozen 1
  have hm := h.md.1
  obtain ⟨n, hn⟩ : ∃ n, n = ws.length := ⟨_, rfl⟩
  rw [← hn] at hi hm q0
  have hbb : b < w.heap.size := by have := h.lt; omega
  have HF := Lib.hid (fun p q : Nat => set_grown (w.drewN p) rb 1 (.int .i64 ((i : Int) + 1)) (fun hg => (show RS B (((w.drewN p).setCell ⟨rb, 1, none⟩ (.int .i64 ((i : Int) + 1))).drewN q) rb (.slice (some ⟨b, o, none⟩) ws.length c) ws (i + 1) bad av ∧ w.grownBy (((w.drewN p).setCell ⟨rb, 1, none⟩ (.int .i64 ((i : Int) + 1))).drewN q) (some rb) from ⟨((h.dr p).step hg ((h.dr p).box.set1 (i + 1)) (by omega)).dr q, grown_then (grown_dr w p _) (grown_then hg (grown_dr _ q _))⟩)))
  rw [← hn] at HF ⊢
  clear h h4 hx hd hn
  go_enter Tryz.func73, Tryz.ntmps73
  go_wp2
  go_quiet (fail)
  go_wp2
  go_quiet (fail)
  go_wp2
  go_ret
  exact ⟨rfl, HF.out _ _⟩
set_option maxRecDepth 100000 in
set_option maxHeartbeats 1000000 in
theorem rnext_no (h : RS B w rb wv ws i bad av) (hd : ws.drop i = []) :
    Calls Tryz.prog 73 #[.pointer (some ⟨rb, 0, none⟩)] w fun e w' => e = .returned (.string ⟨#[]⟩) ∧ RS B w' rb wv ws i true av ∧ w.grownBy w' (some rb) := by
  have hi : ws.length ≤ i := by simpa using hd
  obtain ⟨b, o, c, rfl, h2, h3, h4⟩ := h.wd
  obtain ⟨q0, q1, q2, q3, q4⟩ := h.box.cells
  have f2 := h.box.frozen 2
  have hm := h.md.1
  have hle := h.le
  obtain ⟨n, hn⟩ : ∃ n, n = ws.length := ⟨_, rfl⟩
  rw [← hn] at hi hm q0 hle
  have HF := Lib.hid (fun p : Nat => set_grown (w.drewN p) rb 2 (.bool true) (fun hg => (show RS B ((w.drewN p).setCell ⟨rb, 2, none⟩ (.bool true)) rb (.slice (some ⟨b, o, none⟩) ws.length c) ws i true av ∧ w.grownBy ((w.drewN p).setCell ⟨rb, 2, none⟩ (.bool true)) (some rb) from ⟨(h.dr p).step hg ((h.dr p).box.set2 _) h.le, grown_then (grown_dr w p _) hg⟩)))
  rw [← hn] at HF ⊢
  clear h h4 hd hn
  go_enter Tryz.func73, Tryz.ntmps73
  go_wp2
  go_quiet (fail)
  go_wp2
  go_ret
  exact ⟨rfl, HF.out _⟩
/-- What next gives. -/
def OutX (B : Nat) (w : World) (rb : Nat) (wv av : Value) (ws : List ByteArray) (i : Nat) (bad : Bool) (e : Ending) (w' : World) : Prop :=
  ∃ x j b2, e = .returned (.string x) ∧ RS B w' rb wv ws j b2 av ∧ w.grownBy w' (some rb) ∧ i ≤ j ∧ x.size ≤ 10000 ∧ (b2 = false → bad = false ∧ j = i + 1 ∧ ws.drop i = x :: ws.drop j) ∧ (bad = false → b2 = true → ws.drop i = [])
theorem rnext_any (h : RS B w rb wv ws i bad av) : Calls Tryz.prog 73 #[.pointer (some ⟨rb, 0, none⟩)] w (OutX B w rb wv av ws i bad) := by
  cases hd : ws.drop i with
  | nil => exact (rnext_no B w rb wv av ws i bad h hd).mono fun e w' ⟨h1, h2, h3⟩ => ⟨_, i, true, h1, h2, h3, Nat.le_refl _, by decide, (fun x => by cases x), fun _ _ => hd⟩
  | cons x r =>
    refine (rnext_ok B w rb wv av ws i bad h x r hd).mono fun e w' ⟨h1, h2, h3⟩ => ⟨x, i + 1, bad, h1, h2, h3, by omega, ?_, fun hb => ⟨hb, rfl, by rw [hd, (drop_cons2 hd).2.2]⟩, fun h1 h2 => by rw [h1] at h2; cases h2⟩
    exact h.md.2 x (List.mem_of_mem_drop (i := i) (by rw [hd]; simp))
/-- What reading a certain word does. -/
def OutWd (B : Nat) (w : World) (rb : Nat) (wv av : Value) (ws : List ByteArray) (i : Nat) (bad : Bool) (t : ByteArray) (e : Ending) (w' : World) : Prop :=
  e = .returned (.tuple #[]) ∧ ∃ j b2, RS B w' rb wv ws j b2 av ∧ w.grownBy w' (some rb) ∧ i ≤ j ∧ (b2 = false → bad = false ∧ j = i + 1 ∧ ws.drop i = t :: ws.drop j) ∧ (bad = false → b2 = true → ∀ r, ws.drop i ≠ t :: r)
theorem bytes_eqn (x t : ByteArray) : (x.toList == t.toList) = decide (x = t) := by
  rw [Lib.toList_data, Lib.toList_data]
  by_cases h : x = t
  · rw [decide_eq_true h, h]; simp
  · rw [decide_eq_false h, beq_eq_false_iff_ne]
    intro e
    exact h (ByteArray.ext (Array.ext' e))
set_option maxRecDepth 100000 in
set_option maxHeartbeats 1000000 in
theorem rword_any (h : RS B w rb wv ws i bad av) (t : ByteArray) :
    Calls Tryz.prog 102 #[.pointer (some ⟨rb, 0, none⟩), .string t] w (OutWd B w rb wv av ws i bad t) := by
  have HN := Lib.hid (rnext_any B w rb wv av ws i bad h)
  clear h
  go_enter Tryz.func102, Tryz.ntmps102
  go_wp2_with fail
  refine HN.out.mono ?_
  rintro e w1 ⟨x, j, b2, rfl, h1, h2, h3, h4, h5, h6⟩
  clear HN
  by_cases hx : x = t
  · have d1 : (x.toList == t.toList) = true := by rw [bytes_eqn]; exact decide_eq_true hx
    have d2 : (x.toList != t.toList) = false := by rw [bne, d1]; rfl
    have HF := Lib.hid (show OutWd B w rb wv av ws i bad t (.returned (.tuple #[])) w1 from ⟨rfl, j, b2, h1, h2, h3, fun hb => ⟨(h5 hb).1, (h5 hb).2.1, by rw [← hx]; exact (h5 hb).2.2⟩, fun h0 hb r e => by rw [h6 h0 hb] at e; cases e⟩)
    clear h1 h2 h3 h4 h5 h6 hx
    go_wp2
    go_end0
    exact HF.out
  · have d1 : (x.toList == t.toList) = false := by rw [bytes_eqn]; exact decide_eq_false hx
    have d2 : (x.toList != t.toList) = true := by rw [bne, d1]; rfl
    obtain ⟨q0, q1, q2, q3, q4⟩ := h1.box.cells
    have f2 := h1.box.frozen 2
    have hno : bad = false → ∀ r, ws.drop i ≠ t :: r := fun h0 r e => by
      cases b2 with
      | true => rw [h6 h0 rfl] at e; cases e
      | false => rw [(h5 rfl).2.2] at e; cases e; exact hx rfl
    have HF := Lib.hid (set_grown w1 rb 2 (.bool true) (fun hg => (show OutWd B w rb wv av ws i bad t (.returned (.tuple #[])) (w1.setCell ⟨rb, 2, none⟩ (.bool true)) from ⟨rfl, j, true, h1.step hg (h1.box.set2 _) h1.le, grown_then h2 hg, h3, (fun hb => by cases hb), fun h0 _ => hno h0⟩)))
    clear h1 h2 h3 h4 h5 h6 hx
    go_wp2
    go_end0
    exact HF.out
/-- What reading a number gives. -/
def OutNm (B : Nat) (w : World) (rb : Nat) (wv av : Value) (ws : List ByteArray) (i : Nat) (bad : Bool) (e : Ending) (w' : World) : Prop :=
  ∃ v j b2, e = .returned (.int .i64 v) ∧ RS B w' rb wv ws j b2 av ∧ w.grownBy w' (some rb) ∧ i ≤ j ∧ (-1000000000000000 < v ∧ v < 1000000000000000) ∧ (b2 = false → bad = false ∧ numsO 1 (ws.drop i) = some ([v], ws.drop j)) ∧ (bad = false → b2 = true → numsO 1 (ws.drop i) = none)
theorem nums_one {x : ByteArray} {r : List ByteArray} {v : Int} (h : numV x = some v) : numsO 1 (x :: r) = some ([v], r) := by simp [numsO, h]
theorem nums_one_no {x : ByteArray} {r : List ByteArray} (h : numV x = none) : numsO 1 (x :: r) = none := by simp [numsO, h]
set_option maxRecDepth 100000 in
set_option maxHeartbeats 1000000 in
theorem rnum_any (h : RS B w rb wv ws i bad av) :
    Calls Tryz.prog 74 #[.pointer (some ⟨rb, 0, none⟩)] w (OutNm B w rb wv av ws i bad) := by
  have HN := Lib.hid (rnext_any B w rb wv av ws i bad h)
  clear h
  go_enter Tryz.func74, Tryz.ntmps74
  go_wp2_with fail
  refine HN.out.mono ?_
  rintro e w1 ⟨x, j, b2, rfl, h1, h2, h3, h4, h5, h6⟩
  have J1 := Lib.hid (And.intro h1 (And.intro h2 (And.intro h3 (And.intro h5 h6))))
  have hnn := number_any x (by omega) w1
  clear HN h1 h2 h3 h4 h5 h6
  go_wp2_with fail
  refine hnn.mono ?_
  rintro e w2 ⟨v, ok, rfl, v0, v1, hv1, hv2, hb⟩
  have h1 := J1.out.1.keep hb
  have h2 := grown_then J1.out.2.1 (grown_of hb (some rb))
  obtain ⟨q0, q1, q2, q3, q4⟩ := h1.box.cells
  have f2 := h1.box.frozen 2
  have hnone : numV x = none → bad = false → numsO 1 (ws.drop i) = none := fun hno hbad => by
    cases b2 with
    | true => rw [J1.out.2.2.2.2 hbad rfl]; rfl
    | false => rw [(J1.out.2.2.2.1 rfl).2.2]; exact nums_one_no hno
  have HBAD := Lib.hid (fun (hno : numV x = none) => set_grown w2 rb 2 (.bool true) (fun hg => (show OutNm B w rb wv av ws i bad (.returned (.int .i64 v)) (w2.setCell ⟨rb, 2, none⟩ (.bool true)) from ⟨v, j, true, rfl, h1.step hg (h1.box.set2 _) h1.le, grown_then h2 hg, J1.out.2.2.1, ⟨v0, v1⟩, (fun hb => by cases hb), fun hbad _ => hnone hno hbad⟩)))
  have HOK := Lib.hid (fun (hy : numV x = some v) => (show OutNm B w rb wv av ws i bad (.returned (.int .i64 v)) w2 from ⟨v, j, b2, rfl, h1, h2, J1.out.2.2.1, ⟨v0, v1⟩, fun hb => ⟨(J1.out.2.2.2.1 hb).1, by rw [(J1.out.2.2.2.1 hb).2.2]; exact nums_one hy⟩, fun hbad hb => by rw [J1.out.2.2.2.2 hbad hb]; rfl⟩))
  have hnv : ∀ y, numV x = some y → ok = true ∧ v = y ∧ -100000 ≤ y ∧ y ≤ 100000 := fun y hy => by
    obtain ⟨g1, g2, g3⟩ := numV_bd hy
    obtain ⟨g4, g5⟩ := hv2 y (by omega) (by omega) g1
    exact ⟨g4, g5, g2, g3⟩
  clear hb h1 h2 J1 hnn hnone hv2
  cases ok with
  | false =>
    have HX := Lib.hid (HBAD.out (by
      cases hx : numV x with
      | none => rfl
      | some y => exact absurd (hnv y hx).1 (by decide)))
    clear HBAD HOK hv1 hnv
    go_wp2
    go_ret
    exact HX.out
  | true =>
    have hx := hv1 rfl
    by_cases e1 : -100000 ≤ v
    · by_cases e2 : v ≤ 100000
      · have HX := Lib.hid (HOK.out (numV_of hx e1 e2))
        have hwi := pwithin_any v (-100000) 100000 true (by rw [decide_eq_true e1, decide_eq_true e2]; rfl)
        clear HBAD HOK hv1 hnv hx
        go_wp2_with (go_at_call 82; refine (hwi _).mono ?_; rintro e w' ⟨rfl, rfl⟩)
        go_ret
        exact HX.out
      · have HX := Lib.hid (HBAD.out (by
          cases hx : numV x with
          | none => rfl
          | some y => obtain ⟨-, rfl, -, g⟩ := hnv y hx; exact absurd g e2))
        have hwi := pwithin_any v (-100000) 100000 false (by rw [decide_eq_false e2, Bool.and_false])
        clear HBAD HOK hv1 hnv hx
        go_wp2_with (go_at_call 82; refine (hwi _).mono ?_; rintro e w' ⟨rfl, rfl⟩)
        go_ret
        exact HX.out
    · have HX := Lib.hid (HBAD.out (by
        cases hx : numV x with
        | none => rfl
        | some y => obtain ⟨-, rfl, g, -⟩ := hnv y hx; exact absurd g e1))
      have hwi := pwithin_any v (-100000) 100000 false (by rw [decide_eq_false e1, Bool.false_and])
      clear HBAD HOK hv1 hnv hx
      go_wp2_with (go_at_call 82; refine (hwi _).mono ?_; rintro e w' ⟨rfl, rfl⟩)
      go_ret
      exact HX.out
end
end Go.Proofs.YtlinldbbhdpgcaaGreatDoor
/-
  THE REFERENCE's PARSER: digits, rows.
-/
namespace Go.Proofs.YtlinldbbhdpgcaaGreatDoor
open Go.RowKit
section
variable (B : Nat) (w : World) (rb : Nat) (wv av : Value) (ws : List ByteArray) (i : Nat) (bad : Bool)
/-- What reading digits gives. -/
def OutDg (B : Nat) (w : World) (rb : Nat) (wv av : Value) (ws : List ByteArray) (i : Nat) (bad : Bool) (s : ByteArray) (e : Ending) (w' : World) : Prop :=
  ∃ v l, e = .returned v ∧ OwnI w' w.heap.size v l ∧ l.length ≤ s.size ∧ w.grownBy w' (some rb) ∧ ((DigT s ∧ l = digL s ∧ RS B w' rb wv ws i bad av) ∨ (¬ DigT s ∧ (l = [] ∧ v = .slice none 0 0) ∧ RS B w' rb wv ws i true av))
set_option maxRecDepth 100000 in
set_option maxHeartbeats 2000000 in
theorem rdig_any (h : RS B w rb wv ws i bad av) (s : ByteArray) (hs : s.size ≤ 1000000) :
    Calls Tryz.prog 78 #[.pointer (some ⟨rb, 0, none⟩), .string s] w (OutDg B w rb wv av ws i bad s) := by
  have HR := Lib.hid h
  have R0 := Lib.hid (show OwnI w w.heap.size (.slice none 0 0) ((digL s).take 0) ∧ Below w.heap.size w w ∧ ∀ c ∈ s.data.toList.take 0, 48 ≤ c.toNat ∧ c.toNat ≤ 57 from ⟨OwnI.nil _ _, Below.refl _ _, fun c hc => by simp at hc⟩)
  have HDL := Lib.hid (show (digL s).length = s.size from by unfold digL; rw [List.length_map]; rfl)
  clear h
  go_enter Tryz.func78, Tryz.ntmps78
  go_wp2
  go_loopw [5, 6] (fun v t wr => ∃ k : Nat, t = .int .i64 k ∧ k ≤ s.size ∧ Hid (OwnI wr w.heap.size v ((digL s).take k) ∧ Below w.heap.size w wr ∧ ∀ c ∈ s.data.toList.take k, 48 ≤ c.toNat ∧ c.toNat ≤ 57)) (fun _ t _ => s.size - (intOf t).toNat)
  case atStart => exact ⟨0, rfl, by omega, R0⟩
  case round =>
    obtain ⟨k, rfl, hk, hr⟩ := hrel
    by_cases hlt : k < s.size
    · have hmem : s[k] ∈ s.data.toList := Array.getElem_mem_toList (by simpa using hlt)
      have hb255 : s[k].toNat < 256 := s[k].toNat_lt
      have HX := Lib.hid hmem
      have hbadf : ¬ (48 ≤ s[k].toNat ∧ s[k].toNat ≤ 57) → OutDg B w rb wv av ws i bad s (.returned (.slice none 0 0)) (wr.setCell ⟨rb, 2, none⟩ (.bool true)) := fun hn => by
        have h1 := HR.out.keep hr.out.2.1
        exact set_grown wr rb 2 (.bool true) (fun hg => ⟨_, [], rfl, OwnI.nil _ _, by simp, grown_then (grown_of hr.out.2.1 _) hg, .inr ⟨fun hd => hn (hd _ HX.out), ⟨rfl, rfl⟩, h1.step hg (h1.box.set2 _) h1.le⟩⟩)
      have HBD := Lib.hid hbadf
      have hR1 := HR.out.keep hr.out.2.1
      obtain ⟨q0, q1, q2, q3, q4⟩ := hR1.box.cells
      have f2 := hR1.box.frozen 2
      clear hbadf hmem hR1
      by_cases e1 : 48 ≤ s[k].toNat
      · by_cases e2 : s[k].toNat ≤ 57
        · have HLM := Lib.hid (show ((digL s).take k).length ≤ 1000000 by rw [List.length_take]; omega)
          clear HBD
          go_wp2_with (at_builtin; refine append_i64 (.tmp 26) (.tmp 32) rfl rfl w.heap.size _ _ ((s[k].toNat : Int) - 48) wr rfl rfl hr.out.1 rfl HLM.out hr.out.2.1.size ?_)
          intro v' w6 ho6 hg6 hd6
          have R2 := Lib.hid (show OwnI w6 w.heap.size v' ((digL s).take (k + 1)) ∧ Below w.heap.size w w6 ∧ ∀ c ∈ s.data.toList.take (k + 1), 48 ≤ c.toNat ∧ c.toNat ≤ 57 from by
            have hk' : k < s.data.toList.length := hlt
            have e3 : s.data.toList[k] = s[k] := rfl
            have e4 : s.data.toList.take (k + 1) = s.data.toList.take k ++ [s[k]] := by
              rw [List.take_succ_eq_append_getElem hk', e3]
            have e5 : (digL s).take (k + 1) = (digL s).take k ++ [(s[k].toNat : Int) - 48] := by
              unfold digL
              rw [← List.map_take, e4, List.map_append, List.map_take]; rfl
            rw [e5, e4]
            refine ⟨ho6, hr.out.2.1.grown hg6 hr.out.2.1.size (fun g hg => (hr.out.1.lt' g hg).1), fun c hc => ?_⟩
            rcases List.mem_append.1 hc with hc | hc
            · exact hr.out.2.2 c hc
            · rw [List.mem_singleton.1 hc]; exact ⟨e1, e2⟩)
          clear ho6 hg6 hd6 hr
          go_wp2
          go_roundw
          case rel => exact ⟨k + 1, by go_num, by omega, R2⟩
          case measure => simp [intOf]; omega
        · have HX2 := Lib.hid (HBD.out (fun h => e2 h.2))
          clear HBD hr
          go_wp2
          go_ret
          exact HX2.out
      · have HX2 := Lib.hid (HBD.out (fun h => e1 h.1))
        clear HBD hr
        go_wp2
        go_ret
        exact HX2.out
    · obtain rfl : k = s.size := by omega
      have HE := Lib.hid (show OutDg B w rb wv av ws i bad s (.returned u5) wr from by
        obtain ⟨r1, r2, r3⟩ := hr.out
        have h1 : s.data.toList.take s.size = s.data.toList := List.take_length
        have h2 : (digL s).take s.size = digL s := by rw [← HDL.out]; exact List.take_length
        rw [h1] at r3
        rw [h2] at r1
        exact ⟨u5, digL s, rfl, r1, Nat.le_of_eq HDL.out, grown_of r2 _, .inl ⟨r3, rfl, HR.out.keep r2⟩⟩)
      clear hr
      go_wp2
      go_ret
      exact HE.out
theorem RS.low {B : Nat} {w w' : World} {rb : Nat} {wv av : Value} {ws : List ByteArray} {i : Nat} {bad : Bool} (h : RS B w rb wv ws i bad av) (hb : Below B w w') : RS B w' rb wv ws i bad av := by
  obtain ⟨b, o, c, h1, h2, h3, h4⟩ := h.wd
  have hlt := h.lt
  exact ⟨(hb.block _ hlt.1).trans h.box, ⟨b, o, c, h1, h2, h3, fun k hk => (hb.cell (p := ⟨b, _, none⟩) h2).trans (h4 k hk)⟩, ⟨hlt.1, Nat.le_trans hlt.2 hb.size⟩, h.le, h.md⟩
theorem str_off {w : World} {rb : Nat} {wv av : Value} {i : Nat} {bad : Bool} {A1 A2 : Option Addr} {l1 c1 l2 c2 : Nat} (h : RBox w rb wv i bad av) (h1 : wv = .slice A1 l1 c1) (h2 : av = .slice A2 l2 c2) {b o : Nat} {s : ByteArray} (hc : w.cell? ⟨b, o, none⟩ = some (.string s)) : b ≠ rb := by
  intro e
  subst e h1 h2
  rw [cell_of_row w b o _ _ (0, 0) h] at hc
  match o, hc with
  | 0, hc => cases hc
  | 1, hc => cases hc
  | 2, hc => cases hc
  | 3, hc => cases hc
theorem rows_of_split {x : ByteArray} {xs : List ByteArray} (h : xs.map (·.data.toList) = splitL 47 x.data.toList) : xs = rowsS x := by
  have h2 : (rowsS x).map (·.data.toList) = splitL 47 x.data.toList := splitB_one x 47
  rw [← h2] at h
  exact (List.map_inj_right (fun a b e => ByteArray.ext (Array.ext' e))).1 h
/-- What reading rows gives. -/
def OutRw (B : Nat) (w : World) (rb : Nat) (wv av : Value) (ws : List ByteArray) (i : Nat) (wd ht : Int) (e : Ending) (w' : World) : Prop :=
  ∃ v l j b2, e = .returned v ∧ OwnI w' w.heap.size v l ∧ RS B w' rb wv ws j b2 av ∧ w.grownBy w' (some rb) ∧ i ≤ j ∧ (b2 = false → rowsO wd ht (ws.drop i) = some (l, ws.drop j)) ∧ (b2 = true → rowsO wd ht (ws.drop i) = none)
set_option maxRecDepth 100000 in
set_option maxHeartbeats 2000000 in
theorem rrows_any (h : RS B w rb wv ws i false av) (hav : ∃ A l c, av = .slice A l c) (wd ht : Int) :
    Calls Tryz.prog 75 #[.pointer (some ⟨rb, 0, none⟩), .int .i64 wd, .int .i64 ht] w (OutRw B w rb wv av ws i wd ht) := by
  have HN := Lib.hid (rnext_any B w rb wv av ws i false h)
  have hBs := h.lt
  clear h
  go_enter Tryz.func75, Tryz.ntmps75
  go_wp2_with fail
  refine HN.out.mono ?_
  rintro e w1 ⟨x, j, b2, rfl, h1, h2, h3, h4, h5, h6⟩
  clear HN
  go_wp2_with fail
  refine (split_any x 47 (by omega) w1).mono ?_
  rintro e w2 ⟨A, c, xs, rfl, hxs, hsp, hb2⟩
  obtain rfl := rows_of_split hsp
  have hne := rows_ne x
  have hcnt := rows_count x
  rw [← Nat.succ_le_succ_iff, Nat.succ_eq_add_one, ← rows_len x] at hcnt
  obtain ⟨b, o, rfl, hbl, hc⟩ := hxs.2 (List.length_pos_iff.2 hne)
  have hbr : b ≠ rb := by
    obtain ⟨A2, l2, c2, hav⟩ := hav
    obtain ⟨b2, o2, c2, hwv, -⟩ := h1.wd
    exact str_off (h1.keep hb2).box hwv hav (hc 0 (List.length_pos_iff.2 hne))
  have hrow : ∀ y ∈ rowsS x, y.size ≤ 10000 := fun y hy => Nat.le_trans (rows_size x y hy) h4
  have hno : (∀ l j, rowsO wd ht (x :: ws.drop j) ≠ some (l, ws.drop j)) → rowsO wd ht (ws.drop i) = none := fun hn => by
    cases b2 with
    | true => rw [h6 (by simp) rfl]; rfl
    | false =>
      rw [(h5 rfl).2.2]
      rcases hr : rowsO wd ht (x :: ws.drop j) with _ | ⟨l, r⟩
      · rfl
      · have : r = ws.drop j := by
          simp only [rowsO] at hr
          split at hr
          · cases hr; rfl
          · cases hr
        subst this
        exact absurd hr (hn l j)
  have hgd : ¬ GridT wd ht x → rowsO wd ht (ws.drop i) = none := fun hg => hno (fun l j e => by simp only [rowsO, if_neg hg] at e; cases e)
  obtain ⟨n, hn⟩ : ∃ n, n = (rowsS x).length := ⟨_, rfl⟩
  have J2 := Lib.hid (And.intro (h1.keep hb2) (And.intro (grown_then h2 (grown_of hb2 (some rb))) h3))
  have HC := Lib.hid (And.intro hn (And.intro hc (And.intro hrow hgd)))
  have H56 := Lib.hid (And.intro h5 h6)
  have hn1 : 1 ≤ n := by rw [hn]; exact List.length_pos_iff.2 hne
  have hn2 : n ≤ 10001 := by omega
  have hnil : ∀ w3, w2.grownBy w3 (some rb) → RS B w3 rb wv ws j true av → ¬ GridT wd ht x → OutRw B w rb wv av ws i wd ht (.returned (.slice none 0 0)) w3 := fun w3 hg hr hgr => ⟨_, [], j, true, rfl, OwnI.nil _ _, hr, grown_then J2.out.2.1 hg, J2.out.2.2, (fun hb => by cases hb), fun _ => HC.out.2.2.2 hgr⟩
  have HNIL := Lib.hid hnil
  have hsz : w.heap.size ≤ w2.heap.size := J2.out.2.1.size
  rw [← hn]
  clear h1 h2 h3 h4 h5 h6 hxs hsp hb2 hne hcnt hc hrow hno hgd hn hnil
  obtain ⟨q0, q1, q2, q3, q4⟩ := J2.out.1.box.cells
  have f2 := J2.out.1.box.frozen 2
  by_cases e1 : wd < 1
  · have HF := Lib.hid (set_grown w2 rb 2 (.bool true) (fun hg => HNIL.out _ hg (J2.out.1.step hg (J2.out.1.box.set2 _) J2.out.1.le) (fun hg => by
      have : 0 < (rowsS x).length := by rw [← HC.out.1]; omega
      have := (hg.2 _ (List.getElem_mem this)).2.1
      omega)))
    clear HNIL J2 HC H56
    go_wp2
    go_ret
    exact HF.out
  · by_cases e2 : (n : Int) = ht
    · have d2 : ((n : Int) == ht) = true := beq_iff_eq.2 e2
      have d3 : ((n : Int) != ht) = false := by rw [bne, d2]; rfl
      have HT := Lib.hid e2
      have R0 := Lib.hid (show ∃ l bd, OwnI w2 w2.heap.size (.slice none 0 0) l ∧ RS B w2 rb wv ws j bd av ∧ w.grownBy w2 (some rb) ∧ (∀ y ∈ (rowsS x).take 0, (y.size : Int) = wd) ∧ l.length ≤ 0 * 10000 ∧ (bd = false → b2 = false ∧ (∀ y ∈ (rowsS x).take 0, DigT y) ∧ l = ((rowsS x).take 0).flatMap digL) ∧ (bd = true → b2 = true ∨ ∃ y ∈ (rowsS x).take 0, ¬ DigT y) ∧ w2.grownBy w2 (some rb) from
        ⟨[], b2, OwnI.nil _ _, J2.out.1, J2.out.2.1, by simp, by simp, fun hb => ⟨hb, by simp, rfl⟩, fun hb => .inl hb, grown_of (Below.refl _ _) _⟩)
      clear e2 q0 q1 q2 q3 q4 f2
      go_wp2
      go_loopw [8, 9] (fun v t wr => ∃ k : Nat, t = .int .i64 k ∧ k ≤ n ∧ Hid (∃ l bd, OwnI wr w2.heap.size v l ∧ RS B wr rb wv ws j bd av ∧ w.grownBy wr (some rb) ∧ (∀ y ∈ (rowsS x).take k, (y.size : Int) = wd) ∧ l.length ≤ k * 10000 ∧ (bd = false → b2 = false ∧ (∀ y ∈ (rowsS x).take k, DigT y) ∧ l = ((rowsS x).take k).flatMap digL) ∧ (bd = true → b2 = true ∨ ∃ y ∈ (rowsS x).take k, ¬ DigT y) ∧ w2.grownBy wr (some rb))) (fun _ t _ => n - (intOf t).toNat)
      case atStart => exact ⟨0, rfl, by omega, R0⟩
      case round =>
        obtain ⟨k, rfl, hk, hr⟩ := hrel
        clear R0
        by_cases hlt : k < n
        · obtain ⟨l, bd, r1, r2, r3, r4, r5, r6, r7, r8⟩ := hr.out
          have hkl : k < (rowsS x).length := by have := HC.out.1; omega
          have q0 : wr.cell? ⟨b, o + k, none⟩ = some (.string (rowsS x)[k]) := (World.cell?_of_block (a := ⟨b, o + k, none⟩) (r8.block b hbl (fun e => by cases e; exact hbr rfl))).trans (HC.out.2.1 k hkl)
          obtain ⟨y, hy⟩ : ∃ y, y = (rowsS x)[k] := ⟨_, rfl⟩
          rw [← hy] at q0
          have hym : y ∈ rowsS x := by rw [hy]; exact List.getElem_mem hkl
          have hys := HC.out.2.2.1 y hym
          have htk : (rowsS x).take (k + 1) = (rowsS x).take k ++ [y] := by rw [List.take_succ_eq_append_getElem hkl, hy]
          have hbl2 : b < wr.heap.size := Nat.lt_of_lt_of_le hbl r8.size
          have HY := Lib.hid (And.intro hym htk)
          have HR := Lib.hid (And.intro r1 (And.intro r2 (And.intro r3 (And.intro r4 (And.intro r5 (And.intro r6 (And.intro r7 r8)))))))
          clear hr r1 r2 r3 r4 r5 r6 r7 r8 hy hym htk hkl
          by_cases e3 : (y.size : Int) = wd
          · have d4 : ((y.size : Int) == wd) = true := beq_iff_eq.2 e3
            have d5 : ((y.size : Int) != wd) = false := by rw [bne, d4]; rfl
            have hdg := rdig_any B wr rb wv av ws j bd HR.out.2.1 y (by omega)
            have HE3 := Lib.hid (And.intro e3 e1)
            clear e3
            go_wp2_with fail
            refine hdg.mono ?_
            rintro e w4 ⟨v2, l2, rfl, g1, g2, g3, g4⟩
            have ho4 : OwnI w4 w2.heap.size u8 l := OwnI.pkept HR.out.1 g3 (by omega)
            have hs4 : w2.heap.size ≤ w4.heap.size := Nat.le_trans HR.out.2.2.2.2.2.2.2.size g3.size
            have hl4 := HR.out.2.2.2.2.1
            rcases g4 with ⟨g4, rfl, g5⟩ | ⟨g4, ⟨rfl, rfl⟩, g5⟩
            · obtain ⟨A4, c4, rfl, hL4⟩ := g1.isL
              have hlv : (digL y).length = y.size := by unfold digL; rw [List.length_map]; rfl
              have hpos : 0 < (digL y).length := by have := HE3.out.1; have := HE3.out.2; omega
              have hcap : l.length + (digL y).length ≤ 1000000000 := by omega
              have J4 := Lib.hid (And.intro ho4 (And.intro hL4 (And.intro hpos (And.intro hcap (And.intro g4 (And.intro g5 (And.intro g3 hlv)))))))
              clear ho4 hL4 hpos hcap g1 g2 g3 g4 g5 hlv q0 d4 d5
              go_wp2_with (at_builtin; refine append_ints (.tmp 40) (.tmp 46) rfl rfl w2.heap.size _ l (digL y) A4 c4 rfl J4.out.1 rfl J4.out.2.1 J4.out.2.2.1 J4.out.2.2.2.1 hs4 ?_)
              intro v' w6 ho6 hg6 hd6
              have hb6 : Below w2.heap.size w4 w6 := (Below.refl _ _).grown hg6 hs4 (fun g e => (J4.out.1.lt' g e).1)
              have R2 := Lib.hid (show ∃ l bd, OwnI w6 w2.heap.size v' l ∧ RS B w6 rb wv ws j bd av ∧ w.grownBy w6 (some rb) ∧ (∀ y ∈ (rowsS x).take (k + 1), (y.size : Int) = wd) ∧ l.length ≤ (k + 1) * 10000 ∧ (bd = false → b2 = false ∧ (∀ y ∈ (rowsS x).take (k + 1), DigT y) ∧ l = ((rowsS x).take (k + 1)).flatMap digL) ∧ (bd = true → b2 = true ∨ ∃ y ∈ (rowsS x).take (k + 1), ¬ DigT y) ∧ w2.grownBy w6 (some rb) from by
                obtain ⟨r1, r2, r3, r4, r5, r6, r7, r8⟩ := HR.out
                obtain ⟨-, -, -, -, g4, g5, g3, hlv⟩ := J4.out
                rw [HY.out.2]
                refine ⟨_, bd, ho6, g5.low (hb6.mono (by omega)), grown_low (grown_then r3 g3) (hb6.mono (by omega)), fun z hz => ?_, ?_, fun hb => ?_, fun hb => ?_, grown_low (grown_then r8 g3) hb6⟩
                · rcases List.mem_append.1 hz with hz | hz
                  · exact r4 z hz
                  · rw [List.mem_singleton.1 hz]; exact HE3.out.1
                · rw [List.length_append, hlv]; omega
                · obtain ⟨s1, s2, s3⟩ := r6 hb
                  refine ⟨s1, fun z hz => ?_, ?_⟩
                  · rcases List.mem_append.1 hz with hz | hz
                    · exact s2 z hz
                    · rw [List.mem_singleton.1 hz]; exact g4
                  · rw [List.flatMap_append, ← s3]; simp
                · rcases r7 hb with s | ⟨z, s1, s2⟩
                  · exact .inl s
                  · exact .inr ⟨z, List.mem_append_left _ s1, s2⟩)
              clear ho6 hg6 hd6 hb6 J4 HR HY HE3 hl4
              go_wp2
              go_roundw
              case rel => exact ⟨k + 1, by go_num, by omega, R2⟩
              case measure => simp [intOf]; omega
            · have R2 := Lib.hid (show ∃ l bd, OwnI w4 w2.heap.size u8 l ∧ RS B w4 rb wv ws j bd av ∧ w.grownBy w4 (some rb) ∧ (∀ y ∈ (rowsS x).take (k + 1), (y.size : Int) = wd) ∧ l.length ≤ (k + 1) * 10000 ∧ (bd = false → b2 = false ∧ (∀ y ∈ (rowsS x).take (k + 1), DigT y) ∧ l = ((rowsS x).take (k + 1)).flatMap digL) ∧ (bd = true → b2 = true ∨ ∃ y ∈ (rowsS x).take (k + 1), ¬ DigT y) ∧ w2.grownBy w4 (some rb) from by
                obtain ⟨r1, r2, r3, r4, r5, r6, r7, r8⟩ := HR.out
                rw [HY.out.2]
                refine ⟨_, true, ho4, g5, grown_then r3 g3, fun z hz => ?_, by omega, fun hb => (by cases hb), fun hb => .inr ⟨y, List.mem_append_right _ (by simp), g4⟩, grown_then r8 g3⟩
                rcases List.mem_append.1 hz with hz | hz
                · exact r4 z hz
                · rw [List.mem_singleton.1 hz]; exact HE3.out.1)
              obtain ⟨i0, hi, -⟩ := info_parts intInfo
              have HO4 := Lib.hid (show w4.ownsRow w2.heap.size 3 1 u8 l.length (l.map (Value.int .i64)) from ho4)
              clear g1 g2 g3 g4 g5 q0 d4 d5 ho4 HR HY HE3 hl4
              go_wp2_with (at_builtin; refine wpList_append_own_none rfl (.tmp 40) (.tmp 46) 22 rfl w2.heap.size 3 i0 1 Tryz.underlying22 hi u8 l.length _ rfl HO4.out rfl ?_)
              go_roundw
              case rel => exact ⟨k + 1, by go_num, by omega, R2⟩
              case measure => simp [intOf]; omega
          · have d4 : ((y.size : Int) == wd) = false := beq_eq_false_iff_ne.2 e3
            have d5 : ((y.size : Int) != wd) = true := by rw [bne, d4]; rfl
            obtain ⟨c0, c1, c2, c3, c4⟩ := HR.out.2.1.box.cells
            have f2 := HR.out.2.1.box.frozen 2
            have HF := Lib.hid (set_grown wr rb 2 (.bool true) (fun hg => HNIL.out _ (grown_then HR.out.2.2.2.2.2.2.2 hg) (HR.out.2.1.step hg (HR.out.2.1.box.set2 _) HR.out.2.1.le) (fun hg => e3 (hg.2 y HY.out.1).1)))
            clear e3 HNIL J2 HC H56 HR HY
            go_wp2
            go_ret
            exact HF.out
        · obtain rfl : k = n := by omega
          have HF := Lib.hid (show OutRw B w rb wv av ws i wd ht (.returned u8) wr by
            obtain ⟨l, bd, r1, r2, r3, r4, r5, r6, r7, r8⟩ := hr.out
            have e0 : (rowsS x).take k = rowsS x := by rw [HC.out.1]; exact List.take_length
            rw [e0] at r4 r6 r7
            refine ⟨u8, l, j, bd, rfl, r1.down hsz, r2, r3, J2.out.2.2, fun hb => ?_, fun hb => ?_⟩
            · obtain ⟨s1, s2, s3⟩ := r6 hb
              subst s1
              rw [(H56.out.1 rfl).2.2]
              simp only [rowsO]
              rw [if_pos ⟨by rw [← HC.out.1]; exact HT.out, fun y hy => ⟨r4 y hy, by omega, s2 y hy⟩⟩, s3]
              rfl
            · rcases r7 hb with s | ⟨z, s1, s2⟩
              · rw [H56.out.2 (by simp) s]; rfl
              · exact HC.out.2.2.2 (fun hg => s2 (hg.2 z s1).2.2))
          clear hr HC H56 J2 HNIL
          go_wp2
          go_ret
          exact HF.out
    · have d2 : ((n : Int) == ht) = false := beq_eq_false_iff_ne.2 e2
      have d3 : ((n : Int) != ht) = true := by rw [bne, d2]; rfl
      have HF := Lib.hid (set_grown w2 rb 2 (.bool true) (fun hg => HNIL.out _ hg (J2.out.1.step hg (J2.out.1.box.set2 _) J2.out.1.le) (fun hg => e2 (by rw [HC.out.1]; exact hg.1))))
      clear e2 HNIL J2 HC H56
      go_wp2
      go_ret
      exact HF.out
end
end Go.Proofs.YtlinldbbhdpgcaaGreatDoor
/-
  THE REFERENCE's PARSER: nodes in memory.
-/
namespace Go.Proofs.YtlinldbbhdpgcaaGreatDoor
open Go.RowKit
def NBox (w : World) (nb : Nat) (s : ByteArray) (nv dv pv : Value) (k : Nat) : Prop := w.heap[nb]? = some (.cells #[.string s, nv, dv, pv, .int .i64 k] 87 (0, 0))
section
variable {w w' : World} {nb : Nat} {s : ByteArray} {nv dv pv : Value} {k : Nat}
theorem NBox.cells (h : NBox w nb s nv dv pv k) : w.cell? ⟨nb, 0, none⟩ = some (.string s) ∧ w.cell? ⟨nb, 1, none⟩ = some nv ∧ w.cell? ⟨nb, 2, none⟩ = some dv ∧ w.cell? ⟨nb, 3, none⟩ = some pv ∧ w.cell? ⟨nb, 4, none⟩ = some (.int .i64 k) ∧ nb < w.heap.size :=
  ⟨(cell_of_row w nb 0 _ _ (0, 0) h).trans rfl, (cell_of_row w nb 1 _ _ (0, 0) h).trans rfl, (cell_of_row w nb 2 _ _ (0, 0) h).trans rfl, (cell_of_row w nb 3 _ _ (0, 0) h).trans rfl, (cell_of_row w nb 4 _ _ (0, 0) h).trans rfl, (Array.getElem?_eq_some_iff.1 h).1⟩
theorem NBox.frozen (h : NBox w nb s nv dv pv k) (i : Nat) : w.frozen? ⟨nb, i, none⟩ = false := frozen_of_row w nb i _ _ h
theorem NBox.set1 (h : NBox w nb s nv dv pv k) (u : Value) : NBox (w.setCell ⟨nb, 1, none⟩ u) nb s u dv pv k := by
  obtain ⟨hg, he⟩ := Array.getElem?_eq_some_iff.1 h
  unfold NBox
  simp [World.setCell, hg, Array.getElem_modify, he]
theorem NBox.set2 (h : NBox w nb s nv dv pv k) (u : Value) : NBox (w.setCell ⟨nb, 2, none⟩ u) nb s nv u pv k := by
  obtain ⟨hg, he⟩ := Array.getElem?_eq_some_iff.1 h
  unfold NBox
  simp [World.setCell, hg, Array.getElem_modify, he]
theorem NBox.set3 (h : NBox w nb s nv dv pv k) (u : Value) : NBox (w.setCell ⟨nb, 3, none⟩ u) nb s nv dv u k := by
  obtain ⟨hg, he⟩ := Array.getElem?_eq_some_iff.1 h
  unfold NBox
  simp [World.setCell, hg, Array.getElem_modify, he]
theorem NBox.set4 (h : NBox w nb s nv dv pv k) (j : Nat) : NBox (w.setCell ⟨nb, 4, none⟩ (.int .i64 j)) nb s nv dv pv j := by
  obtain ⟨hg, he⟩ := Array.getElem?_eq_some_iff.1 h
  unfold NBox
  simp [World.setCell, hg, Array.getElem_modify, he]
theorem NBox.lt (h : NBox w nb s nv dv pv k) : nb < w.heap.size := (Array.getElem?_eq_some_iff.1 h).1
theorem NBox.new (w : World) (s : ByteArray) (nv dv pv : Value) (k : Nat) : NBox (w.alloc (.cells #[.string s, nv, dv, pv, .int .i64 k] 87)) w.heap.size s nv dv pv k := heap_alloc_new w _
end
/-- The world w' is w, but for new memory and the blocks X. -/
structure Fr (w w' : World) (X : Nat → Prop) : Prop where
  os : w'.os = w.os
  tape : w'.tape = w.tape
  output : w'.output = w.output
  size : w.heap.size ≤ w'.heap.size
  block : ∀ b, b < w.heap.size → ¬ X b → w'.heap[b]? = w.heap[b]?
theorem Fr.trans {w w1 w2 : World} {X Y : Nat → Prop} (h : Fr w w1 X) (k : Fr w1 w2 Y) (hy : ∀ b, b < w.heap.size → Y b → X b) : Fr w w2 X :=
  ⟨k.os.trans h.os, k.tape.trans h.tape, k.output.trans h.output, Nat.le_trans h.size k.size, fun b hb hx => (k.block b (Nat.lt_of_lt_of_le hb h.size) (fun e => hx (hy b hb e))).trans (h.block b hb hx)⟩
theorem Fr.of_grown {w w' : World} {row : Option Nat} {X : Nat → Prop} (h : w.grownBy w' row) (hx : ∀ b, row = some b → b < w.heap.size → X b) : Fr w w' X :=
  ⟨h.os, h.tape, h.output, h.size, fun b hb hn => h.block b hb (fun e => hn (hx b e.symm hb))⟩
theorem Fr.of_below {w w' : World} {X : Nat → Prop} (h : Below w.heap.size w w') : Fr w w' X := ⟨h.os, h.tape, h.output, h.size, fun b hb _ => h.block b hb⟩
theorem Fr.below {w w' : World} {X : Nat → Prop} {B : Nat} (h : Fr w w' X) (hB : B ≤ w.heap.size) (hx : ∀ b, X b → B ≤ b) : Below B w w' :=
  ⟨h.os, h.tape, h.output, h.size, fun b hb => h.block b (by omega) (fun e => by have := hx b e; omega)⟩
theorem own_by {w w' : World} {B E sz k : Nat} {v : Value} {cs : List Value} (h : w.ownsRow B E sz v k cs) (hk : ∀ g, v.ownBlock = some g → w'.heap[g]? = w.heap[g]?) : w'.ownsRow B E sz v k cs := by
  refine ⟨h.1, ?_⟩
  rcases h.2 with hn | ⟨g, cap, cur, hv, hb, hg, rest⟩
  · exact .inl hn
  · exact .inr ⟨g, cap, cur, hv, hb, (hk g (by rw [hv]; rfl)).trans hg, rest⟩
theorem RS.fr {B : Nat} {w w' : World} {X : Nat → Prop} {rb : Nat} {wv av av' : Value} {ws : List ByteArray} {i j : Nat} {bad bad' : Bool} (h : RS B w rb wv ws i bad av) (hf : Fr w w' X) (hX : ∀ b, b < B → b ≠ rb → ¬ X b) (hb : RBox w' rb wv j bad' av') (hl : j ≤ ws.length) : RS B w' rb wv ws j bad' av' := by
  obtain ⟨b, o, c, h1, h2, h3, h4⟩ := h.wd
  have hlt := h.lt
  refine ⟨hb, ⟨b, o, c, h1, h2, h3, fun k hk => ?_⟩, ⟨hlt.1, Nat.le_trans hlt.2 hf.size⟩, hl, h.md⟩
  exact (World.cell?_of_block (a := ⟨b, _, none⟩) (hf.block b (by omega) (hX b h2 h3))).trans (h4 k hk)
abbrev NodeV : Type := NodeD × Value × Value × Value
def ncells (p : NodeV) : List Value := [.string p.1.s, p.2.1, p.2.2.1, p.2.2.2, .int .i64 p.1.k]
/-- The list av of nodes, in memory from block B on; what they hold lies in the blocks N. -/
structure NsO (B : Nat) (w : World) (av : Value) (N : Nat → Prop) (L : List NodeV) : Prop where
  own : w.ownsRow B 87 5 av L.length (L.flatMap ncells)
  rd : ∀ p ∈ L, RdL w (fun b => N b ∧ av.ownBlock ≠ some b) p.2.1 p.1.n ∧ RdL w (fun b => N b ∧ av.ownBlock ≠ some b) p.2.2.1 p.1.d ∧ RdL w (fun b => N b ∧ av.ownBlock ≠ some b) p.2.2.2 p.1.p
theorem RdL.bd {w : World} {N : Nat → Prop} {v : Value} {n : List Int} (h : RdL w N v n) : RdL w (fun b => N b ∧ b < w.heap.size) v n := by
  obtain ⟨A, c, h1, h2⟩ := h
  refine ⟨A, c, h1, fun hp => ?_⟩
  obtain ⟨b, o, rfl, hb, hn, hc⟩ := h2 hp
  exact ⟨b, o, rfl, hb, ⟨hn, hb⟩, hc⟩
theorem RdL.to {w : World} {N N' : Nat → Prop} {v : Value} {n : List Int} (h : RdL w N v n) (hN : ∀ b, b < w.heap.size → N b → N' b) : RdL w N' v n := h.kept (Nat.le_refl _) (fun _ _ _ => rfl) (fun b h1 h2 => hN b h2 h1)
theorem NsO.to {B : Nat} {w : World} {av : Value} {N N' : Nat → Prop} {L : List NodeV} (h : NsO B w av N L) (hN : ∀ b, b < w.heap.size → N b → N' b) : NsO B w av N' L :=
  ⟨h.own, fun p hp => ⟨(h.rd p hp).1.to (fun b hb k => ⟨hN b hb k.1, k.2⟩), (h.rd p hp).2.1.to (fun b hb k => ⟨hN b hb k.1, k.2⟩), (h.rd p hp).2.2.to (fun b hb k => ⟨hN b hb k.1, k.2⟩)⟩⟩
theorem NsO.fr {B : Nat} {w w' : World} {av : Value} {N X : Nat → Prop} {L : List NodeV} (h : NsO B w av N L) (hf : Fr w w' X) (h1 : ∀ b, X b → ¬ N b) (h2 : ∀ g, av.ownBlock = some g → ¬ X g) : NsO B w' av N L := by
  have hk : ∀ b, (N b ∧ av.ownBlock ≠ some b) → b < w.heap.size → w'.heap[b]? = w.heap[b]? := fun b hb hlt => hf.block b hlt (fun e => h1 b e hb.1)
  exact ⟨own_by h.own (fun g e => hf.block g (World.ownsRow.lt h.own g e).2 (h2 g e)), fun p hp => ⟨(h.rd p hp).1.kept hf.size hk (fun b hb _ => hb), (h.rd p hp).2.1.kept hf.size hk (fun b hb _ => hb), (h.rd p hp).2.2.kept hf.size hk (fun b hb _ => hb)⟩⟩
theorem NsO.get {B : Nat} {w : World} {av : Value} {N : Nat → Prop} {L : List NodeV} (h : NsO B w av N L) (i : Nat) (hi : i < L.length) : ∃ g c, av = .slice (some ⟨g, 0, none⟩) L.length c ∧ g < w.heap.size ∧ B ≤ g ∧
    w.cell? ⟨g, i * 5, none⟩ = some (.string L[i].1.s) ∧ w.cell? ⟨g, i * 5 + 1, none⟩ = some L[i].2.1 ∧ w.cell? ⟨g, i * 5 + 2, none⟩ = some L[i].2.2.1 ∧ w.cell? ⟨g, i * 5 + 3, none⟩ = some L[i].2.2.2 ∧ w.cell? ⟨g, i * 5 + 4, none⟩ = some (.int .i64 L[i].1.k) := by
  obtain ⟨g, c, rfl⟩ := own_some h.own (by omega)
  obtain ⟨hr, -, hB⟩ := Row.of_own h.own
  have hl : (L.flatMap ncells).length = L.length * 5 := flat_len4 ncells 5 L (fun _ _ => rfl)
  have hc : ∀ j, j < 5 → w.cell? ⟨g, i * 5 + j, none⟩ = (ncells L[i])[j]? := fun j hj => by
    rw [← flat_get ncells 5 L (fun _ _ => rfl) i j hi hj, hr.get (i * 5 + j) (by omega), List.getElem?_eq_getElem]
  exact ⟨g, c, rfl, hr.lt, hB, hc 0 (by omega), hc 1 (by omega), hc 2 (by omega), hc 3 (by omega), hc 4 (by omega)⟩
/-- The last node of an expression has its depth. -/
theorem flatN_last : ∀ (x : ExprD) (b : Nat), ∃ nd, (flatN b x)[sizeE x - 1]? = some nd ∧ nd.k = depthE x
  | .leaf s n d, b => ⟨_, rfl, rfl⟩
  | .one s n d e, b => ⟨_, by simp only [flatN, sizeE]; rw [List.getElem?_append_right (by rw [flatN_len]; omega), flatN_len]; simp; rfl, rfl⟩
  | .two s n d e1 e2, b => ⟨_, by simp only [flatN, sizeE]; rw [List.getElem?_append_right (by rw [flatN_len]; omega), List.getElem?_append_right (by rw [flatN_len, flatN_len]; omega), flatN_len, flatN_len, show sizeE e1 + sizeE e2 + 1 - 1 - sizeE e1 - sizeE e2 = 0 by omega]; rfl, rfl⟩
/-- What reading an expression gives; L are the nodes before. -/
def OutEx (k B : Nat) (w : World) (rb : Nat) (wv av : Value) (ws : List ByteArray) (i : Nat) (N : Nat → Prop) (L : List NodeV) (e : Ending) (w' : World) : Prop :=
  ∃ (q : Int) (j : Nat) (b2 : Bool) (av' : Value) (m : Nat), e = .returned (.int .i64 q) ∧ RS B w' rb wv ws j b2 av' ∧ (∃ cs, w'.ownsRow B 87 5 av' m cs) ∧ i + m ≤ j + L.length ∧ Fr w w' (fun b => b = rb ∨ av.ownBlock = some b) ∧ (av'.ownBlock = av.ownBlock ∨ ∃ g, av'.ownBlock = some g ∧ w.heap.size ≤ g) ∧
  (b2 = true → refE k (ws.drop i) = none) ∧
  (b2 = false → ∃ x L1, refE k (ws.drop i) = some (x, ws.drop j) ∧ L1.map Prod.fst = flatN L.length x ∧ NsO B w' av' (fun b => N b ∨ w.heap.size ≤ b) (L ++ L1) ∧ q = ((L.length + sizeE x - 1 : Nat) : Int) ∧ depthE x ≤ 12)
/-- What reading an expression in parentheses into the node in the box nb gives. -/
def OutIn (k B : Nat) (w : World) (rb : Nat) (wv av : Value) (ws : List ByteArray) (i : Nat) (bad : Bool) (N : Nat → Prop) (L : List NodeV) (nb : Nat) (s : ByteArray) (nv dv pv : Value) (ps : List Int) (dk : Nat) (e : Ending) (w' : World) : Prop :=
  e = .returned (.tuple #[]) ∧ ∃ (j : Nat) (b2 : Bool) (av' : Value) (m : Nat) (pv' : Value) (dk' : Nat), RS B w' rb wv ws j b2 av' ∧ (∃ cs, w'.ownsRow B 87 5 av' m cs) ∧ i + m ≤ j + L.length ∧ Fr w w' (fun b => b = rb ∨ av.ownBlock = some b ∨ b = nb ∨ pv.ownBlock = some b) ∧ (av'.ownBlock = av.ownBlock ∨ ∃ g, av'.ownBlock = some g ∧ w.heap.size ≤ g) ∧ (pv'.ownBlock = pv.ownBlock ∨ ∃ g, pv'.ownBlock = some g ∧ w.heap.size ≤ g) ∧ NBox w' nb s nv dv pv' dk' ∧ (∃ A l c, pv' = .slice A l c) ∧ dk' ≤ max dk 13 ∧
  (bad = false → b2 = true → paren (refE k) (ws.drop i) = none) ∧
  (b2 = false → bad = false ∧ ∃ x L1 N', paren (refE k) (ws.drop i) = some (x, ws.drop j) ∧ L1.map Prod.fst = flatN L.length x ∧ NsO B w' av' N' (L ++ L1) ∧ (∀ b, N' b → N b ∨ w.heap.size ≤ b) ∧ ¬ N' nb ∧ (∀ g, pv'.ownBlock = some g → ¬ N' g ∧ av'.ownBlock ≠ some g) ∧ OwnI w' (nb + 1) pv' (ps ++ [((L.length + sizeE x - 1 : Nat) : Int)]) ∧ dk' = max dk (depthE x + 1))
end Go.Proofs.YtlinldbbhdpgcaaGreatDoor
