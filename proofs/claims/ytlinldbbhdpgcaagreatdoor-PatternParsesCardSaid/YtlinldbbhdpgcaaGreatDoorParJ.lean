/-
  THE PROGRAM's PARSER: demand, next.
-/
import Derived.Test.YtlinldbbhdpgcaaGreatDoorPatG
import Derived.Test.YtlinldbbhdpgcaaGreatDoorLibA
import Derived.Recover
import Derived.Deep.MidRow
import Derived.Lib.SplitLaws
import Derived.Test.YtlinldbbhdpgcaaGreatDoorOwn
import Derived.Deep.CutBlock
import Derived.Deep.DeepCutAuto
import Derived.Test.YtlinldbbhdpgcaaGreatDoorRegP
import Derived.Defers
import Derived.RegionTactic
import Derived.ChangeAlike
import Derived.Test.YtlinldbbhdpgcaaGreatDoorPatL
namespace Go.Proofs.YtlinldbbhdpgcaaGreatDoor
open Go.RowKit
/-- The slice with address A, below the block B, reads as the texts ws. -/
def StrsIn (B : Nat) (w : World) (A : Option Addr) (ws : List ByteArray) : Prop := 0 < ws.length → ∃ b o, A = some ⟨b, o, none⟩ ∧ b < B ∧ ∀ i (h : i < ws.length), w.cell? ⟨b, o + i, none⟩ = some (.string ws[i])
/-- The parser in the block pb, below B, has the words ws before it; these lie in another block below B. -/
def PS (B : Nat) (w : World) (pb : Nat) (ws : List ByteArray) : Prop := ∃ A c, w.cell? ⟨pb, 0, none⟩ = some (.slice A ws.length c) ∧ ws.length ≤ c ∧ w.frozen? ⟨pb, 0, none⟩ = false ∧ (pb < B ∧ B ≤ w.heap.size) ∧ StrsIn B w A ws ∧ ∀ b o, A = some ⟨b, o, none⟩ → pb ≠ b
theorem PS.other {B : Nat} {w w' : World} {pb : Nat} {ws : List ByteArray} (h : PS B w pb ws) (hb : Below B w w') : PS B w' pb ws := by
  obtain ⟨A, c, h1, h2, h3, h4, h5, h6⟩ := h
  exact ⟨A, c, (hb.cell (p := ⟨pb, 0, none⟩) h4.1).trans h1, h2, (hb.frozen (p := ⟨pb, 0, none⟩) h4.1).trans h3, ⟨h4.1, Nat.le_trans h4.2 hb.size⟩, fun hp => by
    obtain ⟨b, o, rfl, hlt, hc⟩ := h5 hp
    exact ⟨b, o, rfl, hlt, fun i hi => (hb.cell (p := ⟨b, _, none⟩) hlt).trans (hc i hi)⟩, h6⟩
theorem PS.lt {B : Nat} {w : World} {pb : Nat} {ws : List ByteArray} (h : PS B w pb ws) : pb < B ∧ B ≤ w.heap.size := by
  obtain ⟨A, c, h1, h2, h3, h4, h5, h6⟩ := h
  exact h4
set_option maxRecDepth 100000 in
theorem demand_ok (w : World) : Calls Tryz.prog 90 #[.bool true] w fun e w' => e = .returned (.tuple #[]) ∧ w = w' := by
  go_enter Tryz.func90, Tryz.ntmps90
  go_wp2
  go_end0
  exact ⟨rfl, rfl⟩
set_option maxRecDepth 100000 in
set_option maxHeartbeats 1000000 in
theorem next_ok (B pb : Nat) (x : ByteArray) (ws : List ByteArray) (w : World) (hl : ws.length ≤ 1000000) (h : PS B w pb (x :: ws)) :
    Calls Tryz.prog 91 #[.pointer (some ⟨pb, 0, none⟩)] w fun e w' => e = .returned (.string x) ∧ PS B w' pb ws ∧ w.grownBy w' (some pb) := by
  obtain ⟨A, c, h1, h2, h3, h4, h5, h6⟩ := h
  obtain ⟨b, o, rfl, hlt, hc⟩ := h5 (by simp)
  have q0 := hc 0 (by simp)
  simp only [List.getElem_cons_zero, Nat.add_zero] at q0
  have hne := h6 b o rfl
  have HC := Lib.hid (fun i (hi : i < ws.length) => hc (i + 1) (by simpa using hi))
  simp only [List.length_cons] at h1 h2
  obtain ⟨n, hn⟩ : ∃ n, n = ws.length := ⟨_, rfl⟩
  rw [← hn] at h1 h2
  have HN := Lib.hid hn
  have hn6 : n ≤ 1000000 := by omega
  have hd := demand_ok
  clear hc h5 h6 hn hl
  have hgr : ∀ u, w.grownBy (w.setCell ⟨pb, 0, none⟩ u) (some pb) := fun u => ⟨rfl, rfl, rfl, by simp [World.setCell], fun q _ hne => Below.heap_setCell w ⟨pb, 0, none⟩ _ q (fun e => hne (by rw [e]))⟩
  have hfin : ∀ A2 c2, ws.length ≤ c2 → (∀ b2 o2, A2 = some ⟨b2, o2, none⟩ → b2 = b) → (0 < ws.length → A2 = some ⟨b, o + 1, none⟩) → PS B (w.setCell ⟨pb, 0, none⟩ (.slice A2 n c2)) pb ws ∧ w.grownBy (w.setCell ⟨pb, 0, none⟩ (.slice A2 n c2)) (some pb) := fun A2 c2 g1 g2 g3 => by
    refine ⟨⟨A2, c2, ?_, g1, ?_, ⟨h4.1, by simpa [World.setCell] using h4.2⟩, fun hp => ?_, fun b2 o2 e => ?_⟩, hgr _⟩
    · rw [World.cell?_setCell_same _ _ _ h1, HN.out]
    · rw [World.frozen?_setCell]; exact h3
    · refine ⟨b, o + 1, g3 hp, hlt, fun i hi => ?_⟩
      have := HC.out i hi
      rw [show o + 1 + i = o + (i + 1) by omega]
      exact (World.cell?_of_block (a := ⟨b, _, none⟩) (Below.heap_setCell w ⟨pb, 0, none⟩ _ b (fun e => hne e.symm))).trans this
    · rw [g2 b2 o2 e]; exact hne
  have HFIN := Lib.hid hfin
  clear hfin hgr
  by_cases hcap : c = 1
  · subst hcap
    obtain rfl : n = 0 := by omega
    go_enter Tryz.func91, Tryz.ntmps91
    go_wp2_with (go_at_call 90; refine (hd _).mono ?_; rintro e w' ⟨rfl, rfl⟩)
    go_ret
    exact ⟨rfl, HFIN.out (some ⟨b, o, none⟩) 0 (by have := HN.out; omega) (fun b2 o2 e => by cases e; rfl) (fun h => by have := HN.out; omega)⟩
  · go_enter Tryz.func91, Tryz.ntmps91
    go_wp2_with (go_at_call 90; refine (hd _).mono ?_; rintro e w' ⟨rfl, rfl⟩)
    go_ret
    exact ⟨rfl, HFIN.out (some ⟨b, o + 1, none⟩) (c - 1) (by have := HN.out; omega) (fun b2 o2 e => by cases e; rfl) (fun _ => rfl)⟩
end Go.Proofs.YtlinldbbhdpgcaaGreatDoor
/-
  THE PROGRAM's PARSER: a demand that fails; numbers, digits, rows.
-/
namespace Go.Proofs.YtlinldbbhdpgcaaGreatDoor
open Go.RowKit
/-- What the parser panics with. -/
def MalP : List PanicEntry := [{ v := .iface 92 (.agg #[]), recovered := false }]
set_option maxRecDepth 100000 in
theorem demand_no (w : World) : Calls Tryz.prog 90 #[.bool false] w fun e w' => e = .panicked MalP ∧ w = w' := by
  go_enter Tryz.func90, Tryz.ntmps90
  go_wp2
  exact ⟨rfl, rfl, rfl⟩
/-- A text of digits, and what they are. -/
def DigT (s : ByteArray) : Prop := ∀ c ∈ s.data.toList, 48 ≤ c.toNat ∧ c.toNat ≤ 57
def digL (s : ByteArray) : List Int := s.data.toList.map fun c => (c.toNat : Int) - 48
set_option maxRecDepth 100000 in
set_option maxHeartbeats 1000000 in
theorem digits_any (s : ByteArray) (hs : s.size ≤ 1000000) (w : World) :
    Calls Tryz.prog 94 #[.string s] w fun e w' => ((∃ v, e = .returned v ∧ DigT s ∧ OwnI w' w.heap.size v (digL s)) ∨ e = .panicked MalP ∧ ¬ DigT s) ∧ Below w.heap.size w w' := by
  have hcv := fun W : World => Go.Lib.run_convert_string_bytes (P := Tryz.prog) W 9 41 5 s Tryz.underlying9 Tryz.underlying41 Tryz.underlying5
  go_enter Tryz.func94, Tryz.ntmps94
  go_wp2
  obtain ⟨W, hW⟩ : ∃ W, W = Go.Lib.bytesWorld w 5 s := ⟨_, rfl⟩
  have hb0 := Lib.hid (show Below w.heap.size w W by rw [hW]; exact Go.Lib.bytesWorld_below w _ s)
  have hg : w.heap.size < W.heap.size := by rw [hW, Go.Lib.bytesWorld_size]; omega
  have HC := Lib.hid (show ∀ j, j < s.size → W.cell? ⟨w.heap.size, j, none⟩ = some (.int .u8 (s.data.toList.getD j 0).toNat) from fun j hj => by rw [hW]; exact Go.Lib.bytesWorld_cell w _ s j hj)
  rw [← hW]
  obtain ⟨n, hn⟩ : ∃ n, n = s.size := ⟨_, rfl⟩
  have HN := Lib.hid (show n = s.data.toList.length from hn)
  rw [← hn] at hs HC ⊢
  obtain ⟨cp, hcp⟩ : ∃ cp, cp = grownCap w n 0 5 := ⟨_, rfl⟩
  obtain ⟨g, hgg⟩ : ∃ g, g = w.heap.size := ⟨_, rfl⟩
  rw [← hcp]
  rw [← hgg] at HC hg ⊢
  have R0 := Lib.hid (show OwnI W W.heap.size (.slice none 0 0) ((digL s).take 0) ∧ Below W.heap.size W W ∧ ∀ c ∈ s.data.toList.take 0, 48 ≤ c.toNat ∧ c.toNat ≤ 57 from ⟨OwnI.nil _ _, Below.refl _ _, fun c hc => by simp at hc⟩)
  have HG := Lib.hid (show w.heap.size ≤ W.heap.size by omega)
  clear hcv hW hn hcp hgg
  go_loopw [3, 9] (fun v t wr => ∃ k : Nat, t = .int .i64 k ∧ k ≤ n ∧ Hid (OwnI wr W.heap.size v ((digL s).take k) ∧ Below W.heap.size W wr ∧ ∀ c ∈ s.data.toList.take k, 48 ≤ c.toNat ∧ c.toNat ≤ 57)) (fun _ t _ => n - (intOf t).toNat)
  case atStart => exact ⟨0, rfl, by omega, R0⟩
  case round =>
    obtain ⟨k, rfl, hk, hr⟩ := hrel
    by_cases hlt : k < n
    · have q0 := (hr.out.2.1.cell (p := ⟨g, k, none⟩) hg).trans (HC.out k hlt)
      obtain ⟨x, hx⟩ : ∃ x : Int, x = ((s.data.toList.getD k 0).toNat : Int) := ⟨_, rfl⟩
      rw [← hx] at q0
      have hx0 : 0 ≤ x := by omega
      have hmem : s.data.toList.getD k 0 ∈ s.data.toList := by
        have hk' : k < s.data.toList.length := by have := HN.out; omega
        rw [List.getD, List.getElem?_eq_getElem hk']
        exact List.getElem_mem hk'
      have hok := demand_ok
      have hno := demand_no
      by_cases h1 : 48 ≤ x
      · by_cases h2 : x ≤ 57
        · have HMX := Lib.hid (And.intro hx hmem)
          have HLM := Lib.hid (show ((digL s).take k).length ≤ 1000000 by rw [List.length_take]; omega)
          clear hx hmem hno
          go_wp2_with (first | (go_at_call 90; refine (hok _).mono ?_; rintro e w' ⟨rfl, rfl⟩) | (at_builtin; refine append_i64 (.tmp 20) (.tmp 24) rfl rfl W.heap.size _ _ (x - 48) wr rfl rfl hr.out.1 rfl HLM.out hr.out.2.1.size ?_))
          intro v' w6 ho6 hg6 hd6
          have R2 := Lib.hid (show OwnI w6 W.heap.size v' ((digL s).take (k + 1)) ∧ Below W.heap.size W w6 ∧ ∀ c ∈ s.data.toList.take (k + 1), 48 ≤ c.toNat ∧ c.toNat ≤ 57 from by
            have hk' : k < s.data.toList.length := by have := HN.out; omega
            have e1 : s.data.toList.take (k + 1) = s.data.toList.take k ++ [s.data.toList.getD k 0] := by
              rw [List.take_succ_eq_append_getElem hk', List.getD, List.getElem?_eq_getElem hk']; rfl
            have e2 : (digL s).take (k + 1) = (digL s).take k ++ [x - 48] := by
              unfold digL
              rw [← List.map_take, e1, List.map_append, List.map_take, HMX.out.1]; rfl
            rw [e2, e1]
            refine ⟨ho6, hr.out.2.1.grown hg6 hr.out.2.1.size (fun g hg => (hr.out.1.lt' g hg).1), fun c hc => ?_⟩
            rcases List.mem_append.1 hc with hc | hc
            · exact hr.out.2.2 c hc
            · rw [List.mem_singleton.1 hc]; have := HMX.out.1; omega)
          clear ho6 hg6 hd6 hr HMX
          go_wp2
          go_roundw
          case rel => exact ⟨k + 1, by go_num, by omega, R2⟩
          case measure => simp [intOf]; omega
        · have HB := Lib.hid (show ¬ DigT s from fun h => by have := (h _ hmem).2; omega)
          have HE := Lib.hid (show Below w.heap.size w wr from hb0.out.trans (hr.out.2.1.mono HG.out))
          clear hr hx hmem HN hok
          go_wp2_with (go_at_call 90; refine (hno _).mono ?_; rintro e w' ⟨rfl, rfl⟩)
          exact ⟨rfl, .inr ⟨rfl, HB.out⟩, HE.out⟩
      · have HB := Lib.hid (show ¬ DigT s from fun h => by have := (h _ hmem).1; omega)
        have HE := Lib.hid (show Below w.heap.size w wr from hb0.out.trans (hr.out.2.1.mono HG.out))
        clear hr hx hmem HN hok
        go_wp2_with (go_at_call 90; refine (hno _).mono ?_; rintro e w' ⟨rfl, rfl⟩)
        exact ⟨rfl, .inr ⟨rfl, HB.out⟩, HE.out⟩
    · obtain rfl : k = n := by omega
      have HE := Lib.hid (show DigT s ∧ OwnI wr w.heap.size u3 (digL s) ∧ Below w.heap.size w wr from by
        have h1 : s.data.toList.take k = s.data.toList := by rw [HN.out]; exact List.take_length
        have h2 : (digL s).take k = digL s := by
          have : (digL s).length = s.data.toList.length := List.length_map ..
          rw [HN.out, ← this]; exact List.take_length
        obtain ⟨r1, r2, r3⟩ := hr.out
        rw [h1] at r3
        rw [h2] at r1
        exact ⟨r3, r1.down HG.out, hb0.out.trans (r2.mono HG.out)⟩)
      clear hr HN HC
      go_wp2
      go_ret
      exact ⟨.inl ⟨_, rfl, HE.out.1, HE.out.2.1⟩, HE.out.2.2⟩
end Go.Proofs.YtlinldbbhdpgcaaGreatDoor
/-
  THE PROGRAM's PARSER: numbers.
-/
namespace Go.Proofs.YtlinldbbhdpgcaaGreatDoor
open Go.RowKit
/-- The number that a word is, if it is one. -/
def numV (s : ByteArray) : Option Int := match Lib.atoiAll s.data.toList with
  | .ok n => if Lib.itoa n = s.data.toList ∧ farC n = false then some n else none
  | _ => none
/-- So many numbers, and the words behind them. -/
def numsO : Nat → List ByteArray → Option (List Int × List ByteArray)
  | 0, ws => some ([], ws)
  | _ + 1, [] => none
  | k + 1, s :: ws => match numV s with
    | none => none
    | some n => match numsO k ws with
      | none => none
      | some (l, r) => some (n :: l, r)
/-- The world in which the library's variables hold what they do; the parser is younger. -/
structure PW (pb : Nat) (w : World) : Prop where
  ex : ∃ W0, LibOK W0 ∧ Below W0.heap.size W0 w ∧ W0.heap.size ≤ pb
theorem PW.lib {pb : Nat} {w : World} (h : PW pb w) : LibOK w := by
  obtain ⟨W0, h1, h2, -⟩ := h.ex
  exact h1.below h2
theorem PW.grown {pb : Nat} {w w' : World} (h : PW pb w) (hg : w.grownBy w' (some pb)) : PW pb w' := by
  obtain ⟨W0, h1, h2, h3⟩ := h.ex
  exact ⟨⟨W0, h1, h2.grown hg h2.size (fun g e => by cases e; exact h3), h3⟩⟩
theorem PW.below {pb B : Nat} {w w' : World} (h : PW pb w) (hb : Below B w w') (hB : pb < B) : PW pb w' := by
  obtain ⟨W0, h1, h2, h3⟩ := h.ex
  exact ⟨⟨W0, h1, h2.trans (hb.mono (by omega)), h3⟩⟩
set_option maxRecDepth 100000 in
theorem next_no (B pb : Nat) (w : World) (h : PS B w pb []) :
    Calls Tryz.prog 91 #[.pointer (some ⟨pb, 0, none⟩)] w fun e w' => e = .panicked MalP ∧ w = w' := by
  obtain ⟨A, c, h1, -⟩ := h
  simp only [List.length_nil] at h1
  have hno := demand_no
  go_enter Tryz.func91, Tryz.ntmps91
  go_wp2_with (go_at_call 90; refine (hno _).mono ?_; rintro e w' ⟨rfl, rfl⟩)
  exact ⟨rfl, rfl, rfl⟩
theorem grown_then {w w1 w2 : World} {row : Option Nat} (h : w.grownBy w1 row) (k : w1.grownBy w2 row) : w.grownBy w2 row :=
  ⟨k.os.trans h.os, k.tape.trans h.tape, k.output.trans h.output, Nat.le_trans h.size k.size, fun i hi hne => (k.block i (Nat.lt_of_lt_of_le hi h.size) hne).trans (h.block i hi hne)⟩
theorem grown_low {w w1 w2 : World} {row : Option Nat} (h : w.grownBy w1 row) (k : Below w.heap.size w1 w2) : w.grownBy w2 row :=
  ⟨k.os.trans h.os, k.tape.trans h.tape, k.output.trans h.output, Nat.le_trans h.size k.size, fun i hi hne => (k.block i hi).trans (h.block i hi hne)⟩
theorem grown_of {w w' : World} (h : Below w.heap.size w w') (row : Option Nat) : w.grownBy w' row := ⟨h.os, h.tape, h.output, h.size, fun k hk _ => h.block k hk⟩
/-- The words are of a length that Go can lay. -/
def Mod (ws : List ByteArray) : Prop := ws.length ≤ 1000000 ∧ ∀ s ∈ ws, s.size ≤ 10000
theorem Mod.tail {s : ByteArray} {ws : List ByteArray} (h : Mod (s :: ws)) : Mod ws := ⟨by have := h.1; simp at this; omega, fun x hx => h.2 x (by simp [hx])⟩
/-- What reading some of the words gives: the value and the words behind it, or the panic. -/
def Outs (B : Nat) (w : World) (pb : Nat) (o : Option (List Int × List ByteArray)) (e : Ending) (w' : World) : Prop := (match o with
  | some (l, r) => ∃ v, e = .returned v ∧ OwnI w' w.heap.size v l ∧ PS B w' pb r
  | none => e = .panicked MalP) ∧ w.grownBy w' (some pb)
theorem same_str (a : List UInt8) (s : ByteArray) : ((⟨a.toArray⟩ : ByteArray).toList == s.toList) = (a == s.data.toList) := by
  rw [Lib.toList_data, Lib.toList_data]
set_option maxRecDepth 100000 in
set_option maxHeartbeats 2000000 in
theorem numbers_any (B pb c : Nat) (hc : c ≤ 100) (ws : List ByteArray) (hm : Mod ws) (w : World) (h : PS B w pb ws) (hw : PW pb w) :
    Calls Tryz.prog 92 #[.pointer (some ⟨pb, 0, none⟩), .int .i64 (c : Int)] w (Outs B w pb (numsO c ws)) := by
  have hpb := h.lt
  obtain ⟨O, hO⟩ : ∃ O, O = numsO c ws := ⟨_, rfl⟩
  rw [← hO]
  have R0 := Lib.hid (show ∃ l r, OwnI w w.heap.size (.slice none 0 0) l ∧ l.length = 0 ∧ PS B w pb r ∧ Mod r ∧ PW pb w ∧ w.grownBy w (some pb) ∧ O = (numsO (c - 0) r).map (fun p => (l ++ p.1, p.2)) from
    ⟨[], ws, OwnI.nil _ _, rfl, h, hm, hw, grown_of (Below.refl _ _) _, by rw [hO]; simp⟩)
  have hok := demand_ok
  have hno := demand_no
  clear hO h hw hm
  go_enter Tryz.func92, Tryz.ntmps92
  go_wp2
  go_loopw [5, 10] (fun v t wr => ∃ k : Nat, t = .int .i64 k ∧ k ≤ c ∧ Hid (∃ l r, OwnI wr w.heap.size v l ∧ l.length = k ∧ PS B wr pb r ∧ Mod r ∧ PW pb wr ∧ w.grownBy wr (some pb) ∧ O = (numsO (c - k) r).map (fun p => (l ++ p.1, p.2)))) (fun _ t _ => c - (intOf t).toNat)
  case atStart => exact ⟨0, rfl, by omega, R0⟩
  case round =>
    obtain ⟨k, rfl, hk, hr⟩ := hrel
    by_cases hlt : k < c
    · obtain ⟨l, r, r1, r2, r3, r4, r5, r6, r7⟩ := hr.out
      cases r with
      | nil =>
        have HO := Lib.hid (show O = none by
          rw [r7, show c - k = (c - k - 1) + 1 by omega]; rfl)
        have HG := Lib.hid r6
        have hnx := next_no B pb wr r3
        clear hr r1 r2 r3 r4 r5 r6 r7 hok hno
        go_wp2_with (go_at_call 91; refine hnx.mono ?_; rintro e w' ⟨rfl, rfl⟩)
        exact ⟨rfl, by rw [HO.out], HG.out⟩
      | cons s r =>
        have hnx := next_ok B pb s r wr (by have := r4.1; simp at this; omega) r3
        have HS := Lib.hid (And.intro r1 (And.intro r2 (And.intro r4 (And.intro r5 (And.intro r6 r7)))))
        clear hr r1 r2 r3 r4 r5 r6 r7
        go_wp2_with fail
        refine hnx.mono ?_
        rintro e w1 ⟨rfl, q1, q2⟩
        obtain ⟨r1, r2, r4, r5, r6, r7⟩ := HS.out
        have hown := r1.grown q2 (by
          by_cases hv : Value.ownBlock u5 = some pb
          · exact absurd (r1.lt' _ hv).1 (by omega)
          · exact .inr hv)
        have hat := atoi_any s (Nat.le_trans (r4.2 s (by simp)) (by decide)) w1 (r5.grown q2).lib
        have J1 := Lib.hid (show OwnI w1 w.heap.size u5 l ∧ PS B w1 pb r ∧ Mod r ∧ PW pb w1 ∧ w.grownBy w1 (some pb) from ⟨hown, q1, r4.tail, r5.grown q2, grown_then r6 q2⟩)
        have HL := Lib.hid (And.intro r2 r7)
        clear hown q1 r4 r5 q2 r6 r1 r2 r7 HS hnx
        go_wp2_with fail
        refine hat.mono ?_
        rintro e w2 ⟨v, er, rfl, v0, v1, hres, hb2⟩
        have J2 := Lib.hid (show OwnI w2 w.heap.size u5 l ∧ PS B w2 pb r ∧ Mod r ∧ PW pb w2 ∧ w.grownBy w2 (some pb) from ⟨J1.out.1.keep hb2, J1.out.2.1.other (hb2.mono (J1.out.2.1.lt.2)), J1.out.2.2.1, J1.out.2.2.2.1.grown (grown_of hb2 _), grown_then J1.out.2.2.2.2 (grown_of hb2 _)⟩)
        clear hat hb2 J1
        rcases hres with ⟨rfl, ha⟩ | ⟨⟨N, rfl⟩, ha⟩
        · by_cases hi : Lib.itoa v = s.data.toList
          · have d1 : (Lib.itoa v == s.toList) = true := by rw [Lib.toList_data, beq_iff_eq]; exact hi
            obtain ⟨f, hf⟩ : ∃ f, f = farC v := ⟨_, rfl⟩
            have HA := Lib.hid (And.intro ha (And.intro hi hf))
            clear ha hi hf
            go_wp2_with fail
            refine (itoa_any v v0 v1 w2 J2.out.2.2.2.1.lib).mono ?_
            rintro e w3 ⟨rfl, hb3⟩
            have J3 := Lib.hid (show OwnI w3 w.heap.size u5 l ∧ PS B w3 pb r ∧ Mod r ∧ PW pb w3 ∧ w.grownBy w3 (some pb) from ⟨J2.out.1.keep hb3, J2.out.2.1.other (hb3.mono (J2.out.2.1.lt.2)), J2.out.2.2.1, J2.out.2.2.2.1.grown (grown_of hb3 _), grown_then J2.out.2.2.2.2 (grown_of hb3 _)⟩)
            clear hb3 J2
            go_wp2_with fail
            have hL : IsL (w3.alloc (.cells #[.int .i64 v] 3)) (some ⟨w3.heap.size, 0, none⟩) 1 [v] := (RowI.isL (w := w3.alloc (.cells #[.int .i64 v] 3)) (g := w3.heap.size) (zs := [v]) (Row.new w3 #[.int .i64 v] 3))
            refine (near_any _ 1 1 [v] (by simp) _ hL).mono ?_
            rintro e w5 ⟨rfl, hb5⟩
            have hb6 : Below w3.heap.size w3 w5 := ((Below.refl w3.heap.size w3).alloc (Nat.le_refl _) _).trans (hb5.mono (by simp))
            have J4 := Lib.hid (show OwnI w5 w.heap.size u5 l ∧ PS B w5 pb r ∧ Mod r ∧ PW pb w5 ∧ w.grownBy w5 (some pb) from ⟨J3.out.1.keep hb6, J3.out.2.1.other (hb6.mono (J3.out.2.1.lt.2)), J3.out.2.2.1, J3.out.2.2.2.1.grown (grown_of hb6 _), grown_then J3.out.2.2.2.2 (grown_of hb6 _)⟩)
            rw [show (!([v] : List Int).any farC) = !f by rw [HA.out.2.2]; simp]
            clear hL hb5 hb6 J3
            cases f with
            | true =>
              have HO := Lib.hid (show O = none by
                rw [HL.out.2, show c - k = (c - k - 1) + 1 by omega]
                simp [numsO, numV, HA.out.1, HA.out.2.1, ← HA.out.2.2])
              have HG := Lib.hid J4.out.2.2.2.2
              clear J4 HL HA
              go_wp2_with (go_at_call 90; refine (hno _).mono ?_; rintro e w' ⟨rfl, rfl⟩)
              exact ⟨rfl, by rw [HO.out], HG.out⟩
            | false =>
              have HO := Lib.hid (show O = (numsO (c - (k + 1)) r).map (fun p => ((l ++ [v]) ++ p.1, p.2)) by
                rw [HL.out.2, show c - k = (c - (k + 1)) + 1 by omega]
                simp only [numsO, numV, HA.out.1, HA.out.2.1, ← HA.out.2.2, true_and, if_true]
                cases numsO (c - (k + 1)) r with
                | none => rfl
                | some p => simp)
              have HM := Lib.hid (show (l ++ [v]).length = k + 1 by simp [HL.out.1])
              have HLM := Lib.hid (show l.length ≤ 1000000 by rw [HL.out.1]; omega)
              clear HL HA
              go_wp2_with (first | (go_at_call 90; refine (hok _).mono ?_; rintro e w' ⟨rfl, rfl⟩) | (at_builtin; refine append_i64 (.tmp 33) (.tmp 35) rfl rfl w.heap.size _ _ v w5 rfl rfl J4.out.1 rfl HLM.out J4.out.2.2.2.2.size ?_))
              intro v' w6 ho6 hg6 hd6
              have hb7 : Below w.heap.size w5 w6 := (Below.refl w.heap.size w5).grown hg6 J4.out.2.2.2.2.size (fun g e => (J4.out.1.lt' g e).1)
              have R2 := Lib.hid (show ∃ l r, OwnI w6 w.heap.size v' l ∧ l.length = k + 1 ∧ PS B w6 pb r ∧ Mod r ∧ PW pb w6 ∧ w.grownBy w6 (some pb) ∧ O = (numsO (c - (k + 1)) r).map (fun p => (l ++ p.1, p.2)) from
                ⟨_, r, ho6, HM.out, J4.out.2.1.other (hb7.mono hpb.2), J4.out.2.2.1, J4.out.2.2.2.1.below hb7 (by omega), grown_low J4.out.2.2.2.2 hb7, HO.out⟩)
              clear ho6 hg6 hd6 hb7 J4 HO HM
              go_wp2
              go_roundw
              case rel => exact ⟨k + 1, by go_num, by omega, R2⟩
              case measure => simp [intOf]; omega
          · have d1 : (Lib.itoa v == s.toList) = false := by rw [Lib.toList_data, beq_eq_false_iff_ne]; exact hi
            have HO := Lib.hid (show O = none by
              rw [HL.out.2, show c - k = (c - k - 1) + 1 by omega]
              simp [numsO, numV, ha, hi])
            clear ha hi
            go_wp2_with fail
            refine (itoa_any v v0 v1 w2 J2.out.2.2.2.1.lib).mono ?_
            rintro e w3 ⟨rfl, hb3⟩
            have HG := Lib.hid (grown_then J2.out.2.2.2.2 (grown_of hb3 _))
            clear hb3 J2 HL
            go_wp2_with (go_at_call 90; refine (hno _).mono ?_; rintro e w' ⟨rfl, rfl⟩)
            exact ⟨rfl, by rw [HO.out], HG.out⟩
        · have HO := Lib.hid (show O = none by
            rw [HL.out.2, show c - k = (c - k - 1) + 1 by omega]
            have : numV s = none := by
              unfold numV
              split
              · rename_i n hn; exact absurd hn (ha n)
              · rfl
            simp [numsO, this])
          have HG := Lib.hid J2.out.2.2.2.2
          clear ha J2 HL
          go_wp2_with (go_at_call 90; refine (hno _).mono ?_; rintro e w' ⟨rfl, rfl⟩)
          exact ⟨rfl, by rw [HO.out], HG.out⟩
    · obtain rfl : k = c := by omega
      obtain ⟨l, r, r1, r2, r3, r4, r5, r6, r7⟩ := hr.out
      have HO := Lib.hid (show O = some (l, r) by rw [r7, Nat.sub_self]; simp [numsO])
      have HG := Lib.hid (And.intro r1 (And.intro r3 r6))
      clear r1 r2 r3 r4 r5 r6 r7 hr
      go_wp2
      go_ret
      exact ⟨by rw [HO.out]; exact ⟨_, rfl, HG.out.1, HG.out.2.1⟩, HG.out.2.2⟩
end Go.Proofs.YtlinldbbhdpgcaaGreatDoor
/-
  THE PROGRAM's PARSER: rows.
-/
namespace Go.Proofs.YtlinldbbhdpgcaaGreatDoor
open Go.RowKit
/-- append(s, ks...) of integers. -/
theorem append_ints {w : World} {ops : Array Oper} {rest : List Oper} {o : Oper} {a : Act} {Q : Exit → Act → World → Prop} (s x : Operand)
    (ho : o.op = .call { callee := .builtin .append, args := #[s, x], argTypes := #[22, 22] }) (hgd : o.guard = none)
    (B : Nat) (v : Value) (zs ks : List Int) (A : Option Addr) (c : Nat) (hs : a.eval s = v) (hown : OwnI w B v zs) (hx : a.eval x = .slice A ks.length c) (hk : IsL w A ks.length ks)
    (hpos : 0 < ks.length) (hn : zs.length + ks.length ≤ 1000000000) (hB : B ≤ w.heap.size)
    (h : ∀ v' w', OwnI w' B v' (zs ++ ks) → w.grownBy w' v.ownBlock → (v'.ownBlock = v.ownBlock ∨ v'.ownBlock = some w.heap.size) → wpList Tryz.prog ops Q rest (a.put o.dst v') w') : wpList Tryz.prog ops Q (o :: rest) a w := by
  obtain ⟨i0, hi, hz0, hz1, hz2⟩ := info_parts intInfo
  obtain ⟨b, of, rfl, hlt, hc⟩ := hk.2 hpos
  refine wpList_append_lies (P := Tryz.prog) (w := w) hgd s x 22 ho B 3 i0 (.int .i64 0) 1 8 Tryz.underlying22 hi hz0 hz1 hz2 rfl (by decide) v zs.length _ hs hown ⟨b, of, none⟩ ks.length c (ks.map (Value.int .i64)) hx (by simp)
    (fun j u hu => by
      obtain ⟨hj, rfl⟩ := List.getElem?_eq_some_iff.1 hu
      rw [List.length_map] at hj
      rw [Addr.add_mid, hc j hj]
      simp [hj]) (fun u hu => by obtain ⟨y, -, rfl⟩ := List.mem_map.1 hu; rfl) hpos (by unfold maxLen; omega) (by omega) hB w.heap.size rfl ?_
  intro g cap w' h1 h2 h3 h4
  refine h _ w' ?_ h2 ?_
  · unfold OwnI
    rw [List.length_append, List.map_append]
    exact h1
  · rcases h3 with h3 | h3
    · exact .inl h3.symm
    · subst h3; exact .inr rfl
/-- The rows of a word. -/
def rowsS (s : ByteArray) : List ByteArray := Lib.splitB ⟨#[47]⟩ 0 (Lib.countB s ⟨#[47]⟩) s
theorem rows_len (s : ByteArray) : (rowsS s).length = Lib.countB s ⟨#[47]⟩ + 1 := Lib.splitB_all ⟨#[47]⟩ (by decide) 0 _ s rfl
theorem rows_count (s : ByteArray) : Lib.countB s ⟨#[47]⟩ ≤ s.size := Lib.countB_le ⟨#[47]⟩ (by decide) _ s (Nat.le_refl _)
theorem split_size (sep : ByteArray) : ∀ (k : Nat) (s x : ByteArray), x ∈ Lib.splitB sep 0 k s → x.size ≤ s.size
  | 0, s, x, h => by rw [Lib.splitB_zero] at h; rw [List.mem_singleton.1 h]; exact Nat.le_refl _
  | k + 1, s, x, h => by
    unfold Lib.splitB at h
    split at h
    · rw [List.mem_singleton.1 h]; exact Nat.le_refl _
    · rcases List.mem_cons.1 h with h | h
      · rw [h, ByteArray.size_extract]; omega
      · have := split_size sep k _ x h
        rw [ByteArray.size_extract] at this; omega
theorem rows_size (s x : ByteArray) (h : x ∈ rowsS s) : x.size ≤ s.size := split_size _ _ s x h
/-- A word that is a grid of digits. -/
def GridT (width height : Int) (s : ByteArray) : Prop := ((rowsS s).length : Int) = height ∧ ∀ x ∈ rowsS s, (x.size : Int) = width ∧ 0 < width ∧ DigT x
def gridL (s : ByteArray) : List Int := (rowsS s).flatMap digL
instance (s : ByteArray) : Decidable (DigT s) := by unfold DigT; infer_instance
instance (W H : Int) (s : ByteArray) : Decidable (GridT W H s) := by unfold GridT; infer_instance
/-- Rows of digits, and the words behind them. -/
def rowsO (W H : Int) : List ByteArray → Option (List Int × List ByteArray)
  | [] => none
  | s :: r => if GridT W H s then some (gridL s, r) else none
set_option maxRecDepth 100000 in
set_option maxHeartbeats 2000000 in
theorem rows_any (B pb : Nat) (wd ht : Int) (ws : List ByteArray) (hm : Mod ws) (w : World) (h : PS B w pb ws) (hw : PW pb w) :
    Calls Tryz.prog 93 #[.pointer (some ⟨pb, 0, none⟩), .int .i64 wd, .int .i64 ht] w (Outs B w pb (rowsO wd ht ws)) := by
  have hpb := h.lt
  obtain ⟨O, hO⟩ : ∃ O, O = rowsO wd ht ws := ⟨_, rfl⟩
  rw [← hO]
  have hok := demand_ok
  have hno := demand_no
  cases ws with
  | nil =>
    have HO := Lib.hid (show O = none from hO)
    have hnx := next_no B pb w h
    clear hok hno hO h hw hm
    go_enter Tryz.func93, Tryz.ntmps93
    go_wp2_with (go_at_call 91; refine hnx.mono ?_; rintro e w' ⟨rfl, rfl⟩)
    exact ⟨rfl, by rw [HO.out], grown_of (Below.refl _ _) _⟩
  | cons s r =>
    have hnx := next_ok B pb s r w (by have := hm.1; simp at this; omega) h
    have HM := Lib.hid (And.intro (hm.2 s (by simp)) (And.intro hw hO))
    clear h hw hm hO
    go_enter Tryz.func93, Tryz.ntmps93
    go_wp2_with fail
    refine hnx.mono ?_
    rintro e w1 ⟨rfl, q1, q2⟩
    have hw1 := HM.out.2.1.grown q2
    obtain ⟨m, hmx⟩ := hw1.lib.mx
    have hsp := Tryz.strings_Split s ⟨#[47]⟩ m w1 (by have := HM.out.1; omega) hmx (by decide)
    have HQ := Lib.hid (And.intro q1 (And.intro q2 hw1))
    clear hnx q1 q2 hw1 hmx
    go_wp2_with fail
    refine hsp.mono ?_
    rintro e w2 ⟨rfl, hw2⟩
    clear hsp
    obtain ⟨n, hn⟩ : ∃ n, n = Lib.countB s ⟨#[47]⟩ + 1 := ⟨_, rfl⟩
    have hrl : n = (rowsS s).length := by rw [rows_len, hn]
    have hb2 : Below w1.heap.size w1 w2 := by rw [hw2]; exact (Below.refl _ _).alloc (Nat.le_refl _) _
    have hg : w1.heap.size < w2.heap.size := by rw [hw2]; simp
    have hc : ∀ i (h : i < n), w2.cell? ⟨w1.heap.size, i, none⟩ = some (.string ((rowsS s).getD i ⟨#[]⟩)) := fun i h => by
      rw [hw2, cell_of_row _ _ i _ _ _ (heap_alloc_new w1 _)]
      show ((rowsS s).map Value.string).toArray[i]? = _
      have : i < (rowsS s).length := by omega
      simp [this]
    have hn6 : n ≤ 10001 := by have := rows_count s; have := HM.out.1; omega
    rw [← hn]
    have J0 := Lib.hid (show PS B w2 pb r ∧ PW pb w2 ∧ w.grownBy w2 (some pb) from ⟨HQ.out.1.other (hb2.mono HQ.out.1.lt.2), HQ.out.2.2.grown (grown_of hb2 _), grown_then HQ.out.2.1 (grown_of hb2 _)⟩)
    obtain ⟨g, hgg⟩ : ∃ g, g = w1.heap.size := ⟨_, rfl⟩
    rw [← hgg] at hg hc ⊢
    have hgw : w.heap.size ≤ g := by rw [hgg]; exact HQ.out.2.1.size
    have HC := Lib.hid (And.intro hrl hc)
    clear hb2 hw2 hn hgg HQ hrl hc
    by_cases h1 : (n : Int) = ht
    · have d1 : ((n : Int) == ht) = true := beq_iff_eq.2 h1
      have R0 := Lib.hid (show ∃ l, OwnI w2 w2.heap.size (.slice none 0 0) l ∧ l = ((rowsS s).take 0).flatMap digL ∧ l.length ≤ 0 * 10000 ∧ (∀ x ∈ (rowsS s).take 0, (x.size : Int) = wd ∧ 0 < wd ∧ DigT x) ∧ Below w2.heap.size w2 w2 from
        ⟨[], OwnI.nil _ _, rfl, by simp, fun x hx => by simp at hx, Below.refl _ _⟩)
      have HT := Lib.hid h1
      clear h1
      go_wp2_with (go_at_call 90; refine (hok _).mono ?_; rintro e w' ⟨rfl, rfl⟩)
      go_loopw [8, 21] (fun v t wr => ∃ k : Nat, t = .int .i64 k ∧ k ≤ n ∧ Hid (∃ l, OwnI wr w2.heap.size v l ∧ l = ((rowsS s).take k).flatMap digL ∧ l.length ≤ k * 10000 ∧ (∀ x ∈ (rowsS s).take k, (x.size : Int) = wd ∧ 0 < wd ∧ DigT x) ∧ Below w2.heap.size w2 wr)) (fun _ t _ => n - (intOf t).toNat)
      case atStart => exact ⟨0, rfl, by omega, R0⟩
      case round =>
        obtain ⟨k, rfl, hk, hr⟩ := hrel
        by_cases hlt : k < n
        · obtain ⟨l, r1, r2, r3, r4, r5⟩ := hr.out
          have q0 := (r5.cell (p := ⟨g, k, none⟩) hg).trans (HC.out.2 k hlt)
          obtain ⟨x, hx⟩ : ∃ x, x = (rowsS s).getD k ⟨#[]⟩ := ⟨_, rfl⟩
          rw [← hx] at q0
          have hkl : k < (rowsS s).length := by have := HC.out.1; omega
          have hxm : x ∈ rowsS s := by rw [hx, List.getD, List.getElem?_eq_getElem hkl]; exact List.getElem_mem hkl
          have hxs : x.size ≤ 10000 := Nat.le_trans (rows_size s x hxm) HM.out.1
          have hfail : ¬ ((x.size : Int) = wd ∧ 0 < wd ∧ DigT x) → O = none := fun hn => by
            rw [HM.out.2.2]
            show (if GridT wd ht s then some (gridL s, r) else none) = none
            rw [if_neg (fun h => hn (h.2 x hxm))]
          have HF := Lib.hid hfail
          have HX := Lib.hid (And.intro hx hxm)
          have HG := Lib.hid (show w.grownBy wr (some pb) from grown_low J0.out.2.2 (r5.mono (by omega)))
          clear hx hxm hfail hkl
          by_cases e1 : (x.size : Int) = wd
          · have t1 : ((x.size : Int) == wd) = true := beq_iff_eq.2 e1
            have E1 := Lib.hid e1
            clear e1
            by_cases e2 : 0 < wd
            · have HR := Lib.hid (And.intro r1 (And.intro r2 (And.intro r3 (And.intro r4 r5))))
              clear hr r1 r2 r3 r4 r5
              go_wp2_with (go_at_call 90; refine (hok _).mono ?_; rintro e w' ⟨rfl, rfl⟩)
              refine (digits_any x (by omega) _).mono ?_
              rintro e w4 ⟨hres, hb4⟩
              rcases hres with ⟨v, rfl, hd, hv⟩ | ⟨rfl, hd⟩
              · obtain ⟨A, c, rfl, hL⟩ := hv.isL
                have hlv : (digL x).length = x.size := by unfold digL; rw [List.length_map]; rfl
                have R4 := Lib.hid (show OwnI w4 w2.heap.size u8 l ∧ Below w2.heap.size w2 w4 from ⟨HR.out.1.keep hb4, HR.out.2.2.2.2.trans (hb4.mono HR.out.2.2.2.2.size)⟩)
                have HP := Lib.hid (show 0 < (digL x).length ∧ l.length + (digL x).length ≤ 1000000000 from ⟨by have := E1.out; omega, by have := HR.out.2.2.1; omega⟩)
                have HD := Lib.hid (And.intro hd (And.intro hL hlv))
                clear hd hL hlv hv hb4
                go_wp2_with (at_builtin; refine append_ints (.tmp 34) (.tmp 36) rfl rfl w2.heap.size _ l (digL x) A c rfl R4.out.1 rfl HD.out.2.1 HP.out.1 HP.out.2 R4.out.2.size ?_)
                intro v' w6 ho6 hg6 hd6
                have R2 := Lib.hid (show ∃ l, OwnI w6 w2.heap.size v' l ∧ l = ((rowsS s).take (k + 1)).flatMap digL ∧ l.length ≤ (k + 1) * 10000 ∧ (∀ x ∈ (rowsS s).take (k + 1), (x.size : Int) = wd ∧ 0 < wd ∧ DigT x) ∧ Below w2.heap.size w2 w6 from by
                  have hkl : k < (rowsS s).length := by have := HC.out.1; omega
                  have et : (rowsS s).take (k + 1) = (rowsS s).take k ++ [x] := by
                    rw [List.take_succ_eq_append_getElem hkl, HX.out.1, List.getD, List.getElem?_eq_getElem hkl]; rfl
                  rw [et]
                  refine ⟨_, ho6, ?_, ?_, fun y hy => ?_, R4.out.2.grown hg6 R4.out.2.size (fun g e => (R4.out.1.lt' g e).1)⟩
                  · rw [List.flatMap_append, ← HR.out.2.1]; simp
                  · rw [List.length_append, HD.out.2.2]; have := HR.out.2.2.1; omega
                  · rcases List.mem_append.1 hy with hy | hy
                    · exact HR.out.2.2.2.1 y hy
                    · rw [List.mem_singleton.1 hy]; exact ⟨E1.out, e2, HD.out.1⟩)
                clear ho6 hg6 hd6 R4 HP HD HR HF HX HG
                go_wp2
                go_roundw
                case rel => exact ⟨k + 1, by go_num, by omega, R2⟩
                case measure => simp [intOf]; omega
              · have HO := Lib.hid (HF.out (fun h => hd h.2.2))
                have HG4 := Lib.hid (grown_then HG.out (grown_of hb4 _))
                clear hd hb4 HF HR
                first
                | exact ⟨rfl, by rw [HO.out], HG4.out⟩
                | (go_wp2; exact ⟨rfl, by rw [HO.out], HG4.out⟩)
            · have HO := Lib.hid (HF.out (fun h => e2 h.2.1))
              have HG2 := HG
              clear hr r1 r2 r3 r4 r5 HF hok
              go_wp2_with (go_at_call 90; refine (hno _).mono ?_; rintro e w' ⟨rfl, rfl⟩)
              exact ⟨rfl, by rw [HO.out], HG2.out⟩
          · have t1 : ((x.size : Int) == wd) = false := beq_eq_false_iff_ne.2 e1
            have HO := Lib.hid (HF.out (fun h => e1 h.1))
            clear e1 hr r1 r2 r3 r4 r5 HF hok
            go_wp2_with (go_at_call 90; refine (hno _).mono ?_; rintro e w' ⟨rfl, rfl⟩)
            exact ⟨rfl, by rw [HO.out], HG.out⟩
        · obtain rfl : k = n := by omega
          obtain ⟨l, r1, r2, r3, r4, r5⟩ := hr.out
          have e0 : (rowsS s).take k = rowsS s := by rw [HC.out.1]; exact List.take_length
          rw [e0] at r2 r4
          have HO := Lib.hid (show O = some (l, r) by
            rw [HM.out.2.2]
            show (if GridT wd ht s then some (gridL s, r) else none) = _
            rw [if_pos ⟨by rw [← HC.out.1]; exact HT.out, r4⟩, r2]; rfl)
          have hb5 : Below w2.heap.size w2 wr := r5
          have HG := Lib.hid (show OwnI wr w.heap.size u8 l ∧ PS B wr pb r ∧ w.grownBy wr (some pb) from ⟨r1.down (by omega), J0.out.1.other (hb5.mono J0.out.1.lt.2), grown_low J0.out.2.2 (hb5.mono (by omega))⟩)
          clear r1 r2 r3 r4 r5 hr hb5 e0
          go_wp2
          go_ret
          exact ⟨by rw [HO.out]; exact ⟨_, rfl, HG.out.1, HG.out.2.1⟩, HG.out.2.2⟩
    · have d1 : ((n : Int) == ht) = false := beq_eq_false_iff_ne.2 h1
      have HO := Lib.hid (show O = none by
        rw [HM.out.2.2]
        show (if GridT wd ht s then some (gridL s, r) else none) = none
        rw [if_neg (fun h => h1 (by rw [HC.out.1]; exact h.1))])
      clear h1 HC hok
      go_wp2_with (go_at_call 90; refine (hno _).mono ?_; rintro e w' ⟨rfl, rfl⟩)
      exact ⟨rfl, by rw [HO.out], J0.out.2.2⟩
end Go.Proofs.YtlinldbbhdpgcaaGreatDoor
/-
  THE PROGRAM's PARSER: expressions, what they are. PLAIN.
-/
namespace Go.Proofs.YtlinldbbhdpgcaaGreatDoor
open Go.RowKit
/-- A text of letters. -/
def txt (l : List UInt8) : ByteArray := ⟨l.toArray⟩
/-- An expression: without parts, of one part, of two. -/
inductive ExprD where
  | leaf (s : ByteArray) (n d : List Int)
  | one (s : ByteArray) (n d : List Int) (e : ExprD)
  | two (s : ByteArray) (n d : List Int) (e1 e2 : ExprD)
def mkE (s : ByteArray) (n d : List Int) : List ExprD → ExprD
  | [] => .leaf s n d
  | [e] => .one s n d e
  | e1 :: e2 :: _ => .two s n d e1 e2
/-- ( .. ) around an expression. -/
def paren (f : List ByteArray → Option (ExprD × List ByteArray)) : List ByteArray → Option (ExprD × List ByteArray)
  | [] => none
  | s :: r => if s = txt [40] then match f r with
      | some (x, t :: r2) => if t = txt [41] then some (x, r2) else none
      | _ => none
    else none
/-- So many of these. -/
def partsO (f : List ByteArray → Option (ExprD × List ByteArray)) : Nat → List ByteArray → Option (List ExprD × List ByteArray)
  | 0, ws => some ([], ws)
  | c + 1, ws => match paren f ws with
    | none => none
    | some (x, r) => match partsO f c r with
      | none => none
      | some (l, r2) => some (x :: l, r2)
/-- The numbers, the digits and the count of parts behind a word. -/
def headO (s : ByteArray) (r : List ByteArray) : Option ((List Int × List Int × Nat) × List ByteArray) :=
  if s = txt [103, 114, 105, 100] then (numsO 3 r).bind fun p => (rowsO (p.1.getD 0 0) (p.1.getD 2 0) p.2).map fun q => ((p.1, q.1, 0), q.2)
  else if s = txt [98, 114, 105, 99, 107, 115] then (numsO 3 r).bind fun p => (rowsO (p.1.getD 0 0) (p.1.getD 1 0) p.2).map fun q => ((p.1, q.1, 0), q.2)
  else if s = txt [115, 104, 105, 102, 116] then (numsO 2 r).map fun p => ((p.1, [], 1), p.2)
  else if s = txt [115, 119, 101, 108, 108] then (numsO 1 r).map fun p => ((p.1, [], 1), p.2)
  else if s = txt [116, 117, 114, 110] then some (([], [], 1), r)
  else if s = txt [109, 105, 114, 114, 111, 114] then some (([], [], 1), r)
  else if s = txt [114, 101, 99, 111, 108, 111, 114] then match r with
    | [] => none
    | t :: r2 => if t.size = 8 ∧ DigT t then some (([], digL t, 1), r2) else none
  else if s = txt [111, 118, 101, 114] then some (([], [], 2), r)
  else none
/-- What the words are, read so deep, and the words behind. -/
def exprO : Nat → List ByteArray → Option (ExprD × List ByteArray)
  | 0, _ => none
  | _ + 1, [] => none
  | k + 1, s :: r => (headO s r).bind fun p => (partsO (exprO k) p.1.2.2 p.2).map fun q => (mkE s p.1.1 p.1.2.1 q.1, q.2)
def knownT : ByteArray := ⟨#[98, 114, 105, 99, 107, 115, 32, 50, 32, 50, 32, 48, 32, 48, 49, 47, 49, 48]⟩
/-- The words of a text. -/
def wordsS (s : ByteArray) : List ByteArray := Lib.splitB ⟨#[32]⟩ 0 (Lib.countB s ⟨#[32]⟩) s
theorem known_expr : exprO 12 (wordsS knownT) = some (.leaf (txt [98, 114, 105, 99, 107, 115]) [2, 2, 0] [0, 1, 1, 0], []) := by kernel_rfl
end Go.Proofs.YtlinldbbhdpgcaaGreatDoor
/-
  THE PROGRAM's PARSER: expressions in memory, read.
-/
namespace Go.Proofs.YtlinldbbhdpgcaaGreatDoor
open Go.RowKit
/-- The value v is the list n, in blocks for which N holds. -/
def RdL (w : World) (N : Nat → Prop) (v : Value) (n : List Int) : Prop := ∃ A c, v = .slice A n.length c ∧ (0 < n.length → ∃ b o, A = some ⟨b, o, none⟩ ∧ b < w.heap.size ∧ N b ∧ ∀ i, i < n.length → w.cell? ⟨b, o + i, none⟩ = some (.int .i64 (n.getD i 0)))
/-- The value pv is the list of these aggregates of four cells. -/
def RdV (w : World) (N : Nat → Prop) (pv : Value) (vs : List Value) : Prop := ∃ b o c, pv = .slice (some ⟨b, o, none⟩) vs.length c ∧ b < w.heap.size ∧ N b ∧ ∀ i, i < (vs.flatMap fun v => v.cells.toList).length → w.cell? ⟨b, o + i, none⟩ = some ((vs.flatMap fun v => v.cells.toList).getD i undef)
/-- The value v is the expression. -/
def RdE (w : World) (N : Nat → Prop) : ExprD → Value → Prop
  | .leaf s n d, v => ∃ nv dv, v = .agg #[.string s, nv, dv, .slice none 0 0] ∧ RdL w N nv n ∧ RdL w N dv d
  | .one s n d e, v => ∃ nv dv pv v1, v = .agg #[.string s, nv, dv, pv] ∧ RdL w N nv n ∧ RdL w N dv d ∧ RdV w N pv [v1] ∧ RdE w N e v1
  | .two s n d e1 e2, v => ∃ nv dv pv v1 v2, v = .agg #[.string s, nv, dv, pv] ∧ RdL w N nv n ∧ RdL w N dv d ∧ RdV w N pv [v1, v2] ∧ RdE w N e1 v1 ∧ RdE w N e2 v2
section
variable {w w' : World} {N N' : Nat → Prop}
theorem RdL.kept {v : Value} {n : List Int} (h : RdL w N v n) (hs : w.heap.size ≤ w'.heap.size) (hk : ∀ b, N b → b < w.heap.size → w'.heap[b]? = w.heap[b]?) (hN : ∀ b, N b → b < w.heap.size → N' b) : RdL w' N' v n := by
  obtain ⟨A, c, h1, h2⟩ := h
  refine ⟨A, c, h1, fun hp => ?_⟩
  obtain ⟨b, o, rfl, hb, hn, hc⟩ := h2 hp
  exact ⟨b, o, rfl, by omega, hN b hn hb, fun i hi => (World.cell?_of_block (a := ⟨b, _, none⟩) (hk b hn hb)).trans (hc i hi)⟩
theorem RdV.kept {v : Value} {vs : List Value} (h : RdV w N v vs) (hs : w.heap.size ≤ w'.heap.size) (hk : ∀ b, N b → b < w.heap.size → w'.heap[b]? = w.heap[b]?) (hN : ∀ b, N b → b < w.heap.size → N' b) : RdV w' N' v vs := by
  obtain ⟨b, o, c, h1, hb, hn, hc⟩ := h
  exact ⟨b, o, c, h1, by omega, hN b hn hb, fun i hi => (World.cell?_of_block (a := ⟨b, _, none⟩) (hk b hn hb)).trans (hc i hi)⟩
theorem RdE.kept (hs : w.heap.size ≤ w'.heap.size) (hk : ∀ b, N b → b < w.heap.size → w'.heap[b]? = w.heap[b]?) (hN : ∀ b, N b → b < w.heap.size → N' b) : ∀ (x : ExprD) (v : Value), RdE w N x v → RdE w' N' x v
  | .leaf s n d, v, h => by
    obtain ⟨nv, dv, h1, h2, h3⟩ := h
    exact ⟨nv, dv, h1, h2.kept hs hk hN, h3.kept hs hk hN⟩
  | .one s n d e, v, h => by
    obtain ⟨nv, dv, pv, v1, h1, h2, h3, h4, h5⟩ := h
    exact ⟨nv, dv, pv, v1, h1, h2.kept hs hk hN, h3.kept hs hk hN, h4.kept hs hk hN, RdE.kept hs hk hN e v1 h5⟩
  | .two s n d e1 e2, v, h => by
    obtain ⟨nv, dv, pv, v1, v2, h1, h2, h3, h4, h5, h6⟩ := h
    exact ⟨nv, dv, pv, v1, v2, h1, h2.kept hs hk hN, h3.kept hs hk hN, h4.kept hs hk hN, RdE.kept hs hk hN e1 v1 h5, RdE.kept hs hk hN e2 v2 h6⟩
theorem RdE.agg : ∀ (x : ExprD) (v : Value), RdE w N x v → ∃ s nv dv pv, v = .agg #[.string s, nv, dv, pv] ∧ nv.oneCell' = true ∧ dv.oneCell' = true ∧ pv.oneCell' = true
  | .leaf s n d, v, h => by
    obtain ⟨nv, dv, h1, ⟨_, _, h2, -⟩, ⟨_, _, h3, -⟩⟩ := h
    exact ⟨s, nv, dv, _, h1, by rw [h2]; rfl, by rw [h3]; rfl, rfl⟩
  | .one s n d e, v, h => by
    obtain ⟨nv, dv, pv, v1, h1, ⟨_, _, h2, -⟩, ⟨_, _, h3, -⟩, ⟨_, _, _, h4, -⟩, h5⟩ := h
    exact ⟨s, nv, dv, pv, h1, by rw [h2]; rfl, by rw [h3]; rfl, by rw [h4]; rfl⟩
  | .two s n d e1 e2, v, h => by
    obtain ⟨nv, dv, pv, v1, v2, h1, ⟨_, _, h2, -⟩, ⟨_, _, h3, -⟩, ⟨_, _, _, h4, -⟩, h5⟩ := h
    exact ⟨s, nv, dv, pv, h1, by rw [h2]; rfl, by rw [h3]; rfl, by rw [h4]; rfl⟩
theorem RdE.agg2 : ∀ {x : ExprD} {v : Value}, RdE w N x v → ∃ s A1 l1 c1 A2 l2 c2 A3 l3 c3, v = .agg #[.string s, .slice A1 l1 c1, .slice A2 l2 c2, .slice A3 l3 c3]
  | .leaf s n d, v, h => by
    obtain ⟨nv, dv, rfl, ⟨_, _, rfl, -⟩, ⟨_, _, rfl, -⟩⟩ := h
    exact ⟨_, _, _, _, _, _, _, _, _, _, rfl⟩
  | .one s n d e, v, h => by
    obtain ⟨nv, dv, pv, v1, rfl, ⟨_, _, rfl, -⟩, ⟨_, _, rfl, -⟩, ⟨_, _, _, rfl, -⟩, -⟩ := h
    exact ⟨_, _, _, _, _, _, _, _, _, _, rfl⟩
  | .two s n d e1 e2, v, h => by
    obtain ⟨nv, dv, pv, v1, v2, rfl, ⟨_, _, rfl, -⟩, ⟨_, _, rfl, -⟩, ⟨_, _, _, rfl, -⟩, -⟩ := h
    exact ⟨_, _, _, _, _, _, _, _, _, _, rfl⟩
theorem OwnI.rd {B : Nat} {v : Value} {n : List Int} (h : OwnI w B v n) : RdL w (fun b => B ≤ b) v n := by
  obtain ⟨A, c, rfl, h1, h2⟩ := h.isL
  refine ⟨A, c, rfl, fun hp => ?_⟩
  obtain ⟨b, o, rfl, hb, hc⟩ := h2 hp
  exact ⟨b, o, rfl, hb, (Row.of_own h).2.2, fun i hi => hc i hi⟩
end
end Go.Proofs.YtlinldbbhdpgcaaGreatDoor
/-
  THE PROGRAM's PARSER: expr (begun): the boxes; the text of the laws' own check.
-/
namespace Go.Proofs.YtlinldbbhdpgcaaGreatDoor
open Go.RowKit
attribute [local go_sem] sub_cell sub_frozen
/-- A box that holds an expression. -/
def EBox (w : World) (bx : Nat) (s : ByteArray) (nv dv pv : Value) : Prop := w.heap[bx]? = some (.cells #[.string s, nv, dv, pv] 52 (0, 0))
theorem EBox.cells {w : World} {bx : Nat} {s : ByteArray} {nv dv pv : Value} (h : EBox w bx s nv dv pv) : w.cell? ⟨bx, 0, none⟩ = some (.string s) ∧ w.cell? ⟨bx, 1, none⟩ = some nv ∧ w.cell? ⟨bx, 2, none⟩ = some dv ∧ w.cell? ⟨bx, 3, none⟩ = some pv ∧ bx < w.heap.size :=
  ⟨(cell_of_row w bx 0 _ _ (0, 0) h).trans rfl, (cell_of_row w bx 1 _ _ (0, 0) h).trans rfl, (cell_of_row w bx 2 _ _ (0, 0) h).trans rfl, (cell_of_row w bx 3 _ _ (0, 0) h).trans rfl, (Array.getElem?_eq_some_iff.1 h).1⟩
theorem EBox.frozen {w : World} {bx : Nat} {s : ByteArray} {nv dv pv : Value} (h : EBox w bx s nv dv pv) (i : Nat) : w.frozen? ⟨bx, i, none⟩ = false := frozen_of_row w bx i _ _ h
theorem EBox.keepG {w w' : World} {bx pb : Nat} {s : ByteArray} {nv dv pv : Value} (h : EBox w bx s nv dv pv) (hg : w.grownBy w' (some pb)) (hne : bx ≠ pb) : EBox w' bx s nv dv pv :=
  (hg.block _ (Array.getElem?_eq_some_iff.1 h).1 (fun e => hne (by cases e; rfl))).trans h
theorem EBox.other {w : World} {bx : Nat} {s : ByteArray} {nv dv pv : Value} (h : EBox w bx s nv dv pv) {p : Addr} (hp : bx ≠ p.block) (u : Value) : EBox (w.setCell p u) bx s nv dv pv := (Below.heap_setCell w p u bx hp).trans h
theorem EBox.set1 {w : World} {bx : Nat} {s : ByteArray} {nv dv pv : Value} (h : EBox w bx s nv dv pv) (u : Value) : EBox (w.setCell ⟨bx, 1, none⟩ u) bx s u dv pv := by
  obtain ⟨hg, he⟩ := Array.getElem?_eq_some_iff.1 h
  unfold EBox
  simp [World.setCell, hg, Array.getElem_modify, he]
theorem EBox.set2 {w : World} {bx : Nat} {s : ByteArray} {nv dv pv : Value} (h : EBox w bx s nv dv pv) (u : Value) : EBox (w.setCell ⟨bx, 2, none⟩ u) bx s nv u pv := by
  obtain ⟨hg, he⟩ := Array.getElem?_eq_some_iff.1 h
  unfold EBox
  simp [World.setCell, hg, Array.getElem_modify, he]
theorem EBox.set3 {w : World} {bx : Nat} {s : ByteArray} {nv dv pv : Value} (h : EBox w bx s nv dv pv) (u : Value) : EBox (w.setCell ⟨bx, 3, none⟩ u) bx s nv dv u := by
  obtain ⟨hg, he⟩ := Array.getElem?_eq_some_iff.1 h
  unfold EBox
  simp [World.setCell, hg, Array.getElem_modify, he]
theorem EBox.new (w : World) (s : ByteArray) (nv dv pv : Value) : EBox (w.alloc (.cells #[.string s, nv, dv, pv] 52)) w.heap.size s nv dv pv := heap_alloc_new w _
theorem EBox.row {w : World} {bx : Nat} {s s' : ByteArray} {nv dv pv nv' dv' pv' : Value} (h : EBox w bx s nv dv pv) : EBox (w.setRow bx #[.string s', nv', dv', pv']) bx s' nv' dv' pv' := by
  obtain ⟨hg, he⟩ := Array.getElem?_eq_some_iff.1 h
  unfold EBox
  simp [World.setRow, hg, Array.getElem_modify, he]
theorem exprSz (s nv dv pv : Value) : (Tryz.prog.info? 52).map (·.size) = some (#[s, nv, dv, pv] : Array Value).size := by
  have h : (Tryz.prog.info? 52).map (·.size) = some 4 := by kernel_rfl
  exact h
def nilS : Value := .slice none 0 0
/-- The world while an expression is read: the result's box, the own box; the parser. -/
structure EW (B pb : Nat) (w wr : World) (rb xb : Nat) (s : ByteArray) (nv dv pv : Value) (ws : List ByteArray) : Prop where
  r : EBox wr rb ⟨#[]⟩ nilS nilS nilS
  x : EBox wr xb s nv dv pv
  ps : PS B wr pb ws
  pw : PW pb wr
  m : Mod ws
  g : w.grownBy wr (some pb)
  wr' : w.heap.size ≤ rb
  rx : rb < xb
  pB : pb < B ∧ B ≤ w.heap.size
section
variable {B pb : Nat} {w wr w1 : World} {rb xb : Nat} {s : ByteArray} {nv dv pv : Value} {ws ws' : List ByteArray}
theorem EW.step (h : EW B pb w wr rb xb s nv dv pv ws) (hg : wr.grownBy w1 (some pb)) (hp : PS B w1 pb ws') (hm : Mod ws') : EW B pb w w1 rb xb s nv dv pv ws' :=
  have hpB := h.pB
  have h1 := h.wr'
  have h2 := h.rx
  ⟨h.r.keepG hg (by omega), h.x.keepG hg (by omega), hp, h.pw.grown hg, hm, grown_then h.g hg, h.wr', h.rx, h.pB⟩
theorem EW.keep (h : EW B pb w wr rb xb s nv dv pv ws) (hb : Below wr.heap.size wr w1) : EW B pb w w1 rb xb s nv dv pv ws :=
  h.step (grown_of hb _) (h.ps.other (hb.mono h.ps.lt.2)) h.m
theorem set_grown {P : Prop} (w : World) (b i : Nat) (u : Value) (h : w.grownBy (w.setCell ⟨b, i, none⟩ u) (some b) → P) : P :=
  h ⟨rfl, rfl, rfl, by simp [World.setCell], fun q _ hne => Below.heap_setCell w ⟨b, i, none⟩ u q (fun e => hne (by rw [e]))⟩
theorem EW.set (h : EW B pb w wr rb xb s nv dv pv ws) (i : Nat) (u : Value) {nv' dv' pv' : Value} (hx : EBox (wr.setCell ⟨xb, i, none⟩ u) xb s nv' dv' pv') : EW B pb w (wr.setCell ⟨xb, i, none⟩ u) rb xb s nv' dv' pv' ws := by
  have hpB := h.pB
  have h1 := h.wr'
  have h2 := h.rx
  have hbel : Below xb wr (wr.setCell ⟨xb, i, none⟩ u) := (Below.refl xb wr).setCell (Nat.le_refl _) u
  exact ⟨h.r.other (p := ⟨xb, i, none⟩) (by show rb ≠ xb; omega) u, hx, h.ps.other (hbel.mono (by omega)), h.pw.below hbel (by omega), h.m, grown_low h.g (hbel.mono (by omega)), h.wr', h.rx, h.pB⟩
end
theorem numsO_mod : ∀ (k : Nat) (ws : List ByteArray) (l : List Int) (r : List ByteArray), numsO k ws = some (l, r) → Mod ws → Mod r ∧ l.length = k
  | 0, ws, l, r, h, hm => by simp only [numsO, Option.some.injEq, Prod.mk.injEq] at h; obtain ⟨rfl, rfl⟩ := h; exact ⟨hm, rfl⟩
  | k + 1, [], l, r, h, hm => by simp [numsO] at h
  | k + 1, s :: ws, l, r, h, hm => by
    simp only [numsO] at h
    cases hv : numV s with
    | none => rw [hv] at h; cases h
    | some n =>
      rw [hv] at h
      simp only at h
      cases hk : numsO k ws with
      | none => rw [hk] at h; cases h
      | some p =>
        rw [hk] at h
        simp only [Option.some.injEq, Prod.mk.injEq] at h
        obtain ⟨rfl, rfl⟩ := h
        obtain ⟨h1, h2⟩ := numsO_mod k ws p.1 p.2 hk hm.tail
        exact ⟨h1, by simp [h2]⟩
theorem rowsO_mod {W H : Int} {ws : List ByteArray} {l : List Int} {r : List ByteArray} (h : rowsO W H ws = some (l, r)) (hm : Mod ws) : Mod r := by
  cases ws with
  | nil => cases h
  | cons s ws =>
    simp only [rowsO] at h
    split at h
    · simp only [Option.some.injEq, Prod.mk.injEq] at h
      obtain ⟨-, rfl⟩ := h
      exact hm.tail
    · cases h
attribute [local irreducible] RP.plainUpon RP.stepC
set_option maxRecDepth 100000 in
set_option maxHeartbeats 1000000 in
theorem expr_zero (pb : Nat) (w : World) : Calls Tryz.prog 63 #[.pointer (some ⟨pb, 0, none⟩), .int .i64 0] w fun e w' => e = .panicked MalP ∧ Below w.heap.size w w' := by
  have hno := demand_no
  go_enter Tryz.func63, Tryz.ntmps63
  go_wp2_with (go_at_call 90; refine (hno _).mono ?_; rintro e w' ⟨rfl, rfl⟩)
  exact ⟨rfl, rfl, (by repeat' (first | (with_reducible exact Below.refl _ _) | (with_reducible assumption) | (with_reducible refine below_drewN ?_ _) | (with_reducible refine below_step (by assumption) ?_ ?_) | (with_reducible refine Below.alloc ?_ ?_ _) | (with_reducible refine Below.setCell ?_ ?_ _) | (with_reducible refine Below.drew ?_) | go_size | (exact Below.size (by assumption)) | (refine Nat.le_trans (Below.size (by assumption)) ?_)))⟩
theorem word_eq (s : ByteArray) (l : List UInt8) : (s.toList == l) = decide (s = txt l) := by
  rw [Lib.toList_data]
  by_cases h : s = txt l
  · rw [decide_eq_true h, h]
    simp [txt]
  · rw [decide_eq_false h, beq_eq_false_iff_ne]
    intro e
    exact h (by cases s; rename_i d; simp only [txt] at *; congr; rw [← e])
section
variable {s : ByteArray} {r : List ByteArray}
theorem headO_grid (h : s = txt [103, 114, 105, 100]) : headO s r = (numsO 3 r).bind fun p => (rowsO (p.1.getD 0 0) (p.1.getD 2 0) p.2).map fun q => ((p.1, q.1, 0), q.2) := by rw [h]; rfl
theorem headO_bricks (h : s = txt [98, 114, 105, 99, 107, 115]) : headO s r = (numsO 3 r).bind fun p => (rowsO (p.1.getD 0 0) (p.1.getD 1 0) p.2).map fun q => ((p.1, q.1, 0), q.2) := by rw [h]; rfl
theorem headO_shift (h : s = txt [115, 104, 105, 102, 116]) : headO s r = (numsO 2 r).map fun p => ((p.1, [], 1), p.2) := by rw [h]; rfl
theorem headO_swell (h : s = txt [115, 119, 101, 108, 108]) : headO s r = (numsO 1 r).map fun p => ((p.1, [], 1), p.2) := by rw [h]; rfl
theorem headO_turn (h : s = txt [116, 117, 114, 110]) : headO s r = some (([], [], 1), r) := by rw [h]; rfl
theorem headO_mirror (h : s = txt [109, 105, 114, 114, 111, 114]) : headO s r = some (([], [], 1), r) := by rw [h]; rfl
theorem headO_recolor0 (h : s = txt [114, 101, 99, 111, 108, 111, 114]) : headO s [] = none := by rw [h]; rfl
theorem headO_recolor (h : s = txt [114, 101, 99, 111, 108, 111, 114]) (t : ByteArray) : headO s (t :: r) = if t.size = 8 ∧ DigT t then some (([], digL t, 1), r) else none := by rw [h]; rfl
theorem headO_over (h : s = txt [111, 118, 101, 114]) : headO s r = some (([], [], 2), r) := by rw [h]; rfl
theorem headO_none (h1 : ¬ s = txt [103, 114, 105, 100]) (h2 : ¬ s = txt [98, 114, 105, 99, 107, 115]) (h3 : ¬ s = txt [115, 104, 105, 102, 116]) (h4 : ¬ s = txt [115, 119, 101, 108, 108]) (h5 : ¬ s = txt [116, 117, 114, 110]) (h6 : ¬ s = txt [109, 105, 114, 114, 111, 114]) (h7 : ¬ s = txt [114, 101, 99, 111, 108, 111, 114]) (h8 : ¬ s = txt [111, 118, 101, 114]) : headO s r = none := by
  unfold headO
  rw [if_neg h1, if_neg h2, if_neg h3, if_neg h4, if_neg h5, if_neg h6, if_neg h7, if_neg h8]
end
theorem word_yes {s : ByteArray} {l : List UInt8} (h : s = txt l) : (s.toList == l) = true := by rw [word_eq]; exact decide_eq_true h
theorem word_no {s : ByteArray} {l : List UInt8} (h : ¬ s = txt l) : (s.toList == l) = false := by rw [word_eq]; exact decide_eq_false h
theorem exprInfo : (Tryz.prog.info? 52).map (fun i => (i.zero, i.size, i.bytes)) = some (some (.agg #[.string ⟨#[]⟩, .slice none 0 0, .slice none 0 0, .slice none 0 0]), 4, 88) := by kernel_rfl
/-- A world in which the blocks below B, but one, are as they were. -/
structure SubP (pb B : Nat) (w : World) where
  val : World
  prop : ∀ b, b < B → b ≠ pb → val.heap[b]? = w.heap[b]?
instance subp_inh {pb B : Nat} {w : World} : Nonempty (SubP pb B w) := ⟨⟨w, fun _ _ _ => rfl⟩⟩
theorem subp_cell {pb B b i : Nat} {w : World} (x : SubP pb B w) (h : b < B) (hn : b ≠ pb) : x.val.cell? ⟨b, i, none⟩ = w.cell? ⟨b, i, none⟩ := World.cell?_of_block (a := ⟨b, i, none⟩) (x.prop b h hn)
theorem subp_start (pb B : Nat) (w : World) : ∃ x : SubP pb B w, { w with drawn := w.drawn + 1 } = x.val := ⟨⟨{ w with drawn := w.drawn + 1 }, fun _ _ _ => rfl⟩, rfl⟩
theorem subp_of {pb : Nat} {w w' : World} (h : w.grownBy w' (some pb)) : ∃ x : SubP pb w.heap.size w, w' = x.val := ⟨⟨w', fun b h1 h2 => h.block b h1 (fun e => h2 (by cases e; rfl))⟩, rfl⟩
theorem subp_low {pb B : Nat} {w w' : World} (h : w.grownBy w' (some pb)) (hB : B ≤ w.heap.size) : ∃ x : SubP pb B w, w' = x.val := ⟨⟨w', fun b h1 h2 => h.block b (by omega) (fun e => h2 (by cases e; rfl))⟩, rfl⟩
theorem subp_low2 {pb B : Nat} {w w1 w' : World} (h : w.grownBy w1 (some pb)) (hB : B ≤ w.heap.size) (hb : Below B w1 w') : ∃ x : SubP pb B w, w' = x.val := ⟨⟨w', fun b h1 h2 => (hb.block b h1).trans (h.block b (by omega) (fun e => h2 (by cases e; rfl)))⟩, rfl⟩
theorem three_of {n : List Int} (h : n.length = 3) : ∃ a b c, n = [a, b, c] := by
  match n, h with
  | [a, b, c], _ => exact ⟨a, b, c, rfl⟩
theorem OwnI.isL3 {w : World} {B ln : Nat} {A : Option Addr} {c : Nat} {zs : List Int} (h : OwnI w B (.slice A ln c) zs) (hl : ln = 3) : ∃ b o, A = some ⟨b, o, none⟩ ∧ (b < w.heap.size ∧ B ≤ b) ∧ ∀ i, i < 3 → w.cell? ⟨b, o + i, none⟩ = some (.int .i64 (zs.getD i 0)) := by
  obtain ⟨A', c', e, h1, h2⟩ := h.isL
  cases e
  obtain ⟨b, o, rfl, hb, hc⟩ := h2 (by omega)
  exact ⟨b, o, rfl, ⟨hb, (Row.of_own h).2.2⟩, fun i hi => hc i (by omega)⟩
/-- append(s, x) of one expression, which lies in the block that was made last. -/
theorem ap_expr (w : World) (ty : TypeId) (B : Nat) (v : Value) (k : Nat) (cs : List Value) (s nv dv pv : Value) (hs1 : s.oneCell' = true) (h1 : nv.oneCell' = true) (h2 : dv.oneCell' = true) (h3 : pv.oneCell' = true) (hown : w.ownsRow B 52 4 v k cs) (hn : k ≤ 1000) (hB : B ≤ w.heap.size) :
    ∃ v' w', (Builtin.append_ #[50, 50] ty #[v, .slice (some ⟨w.heap.size, 0, none⟩) 1 1]).run Tryz.prog (w.alloc (.cells #[s, nv, dv, pv] 52)) = .ok v' w' ∧ w'.ownsRow B 52 4 v' (k + 1) (cs ++ [s, nv, dv, pv]) ∧ w.grownBy w' v.ownBlock ∧ (v'.ownBlock = v.ownBlock ∨ v'.ownBlock = some (w.heap.size + 1)) := by
  obtain ⟨i0, hi, hz0, hz1, hz2⟩ := info_parts exprInfo
  obtain ⟨v', w', hr, g2, g3, g4, g5⟩ := run_append_own_at (P := Tryz.prog) (w.alloc (.cells #[s, nv, dv, pv] 52)) B 50 ty 52 i0 (.agg #[.string ⟨#[]⟩, .slice none 0 0, .slice none 0 0, .slice none 0 0]) 4 88 Tryz.underlying50 hi hz0 hz1 hz2 rfl (by decide) v k _ (hown.alloc _) ⟨w.heap.size, 0, none⟩ 1 1 [s, nv, dv, pv] rfl
    (by
      intro j u hu
      have hj : j < 4 := by
        have := (List.getElem?_eq_some_iff.1 hu).1
        simpa using this
      have hcell := cell_of_row (w.alloc (.cells #[s, nv, dv, pv] 52)) w.heap.size j _ _ (0, 0) (heap_alloc_new w _)
      rw [Addr.add_mid, Nat.zero_add, hcell]
      simpa using hu)
    (by intro u hu; simp at hu; rcases hu with rfl | rfl | rfl | rfl <;> assumption) (by unfold maxLen; omega) (by omega) (by simp; omega)
  refine ⟨v', w', hr, g2, ⟨g3.os, g3.tape, g3.output, by have := g3.size; simp at this; omega, fun k hk hne => (g3.block k (by simp; omega) hne).trans (heap_alloc_old w _ hk)⟩, ?_⟩
  rcases g5 with g5 | g5
  · exact .inl g5
  · rw [g5]; exact .inr (by simp)
theorem headO_mod {s : ByteArray} {r r' : List ByteArray} {n d : List Int} {c : Nat} (h : headO s r = some ((n, d, c), r')) (hm : Mod r) : Mod r' := by
  unfold headO at h
  repeat' split at h
  all_goals first
  | (cases h; done)
  | (cases h; exact hm)
  | (cases h; exact hm.tail)
  | (rw [Option.bind_eq_some_iff] at h
     obtain ⟨p, h0, h⟩ := h
     rw [Option.map_eq_some_iff] at h
     obtain ⟨q, h1, h⟩ := h
     cases h
     exact rowsO_mod h1 (numsO_mod _ _ _ _ h0 hm).1)
  | (rw [Option.map_eq_some_iff] at h
     obtain ⟨q, h0, h⟩ := h
     cases h
     exact (numsO_mod _ _ _ _ h0 hm).1)
theorem exprO_mod : ∀ {k : Nat} {ws : List ByteArray} {x : ExprD} {r : List ByteArray}, exprO k ws = some (x, r) → Mod ws → Mod r := by
  intro k
  induction k with
  | zero => intro ws x r h; cases ws <;> simp [exprO] at h
  | succ k ih =>
    intro ws x r h hm
    cases ws with
    | nil => simp [exprO] at h
    | cons s ws =>
      simp only [exprO] at h
      rw [Option.bind_eq_some_iff] at h
      obtain ⟨p, h0, h⟩ := h
      rw [Option.map_eq_some_iff] at h
      obtain ⟨q, h1, h⟩ := h
      cases h
      have hp : ∀ {ws : List ByteArray} {x : ExprD} {r : List ByteArray}, paren (exprO k) ws = some (x, r) → Mod ws → Mod r := by
        intro ws x r h hm
        cases ws with
        | nil => simp [paren] at h
        | cons t ws =>
          simp only [paren] at h
          split at h
          · split at h
            · rename_i h2
              split at h
              · cases h; exact (ih h2 hm.tail).tail
              · cases h
            · cases h
          · cases h
      have hps : ∀ (c : Nat) {ws : List ByteArray} {l : List ExprD} {r : List ByteArray}, partsO (exprO k) c ws = some (l, r) → Mod ws → Mod r := by
        intro c
        induction c with
        | zero => intro ws l r h hm; simp only [partsO] at h; cases h; exact hm
        | succ c ihc =>
          intro ws l r h hm
          simp only [partsO] at h
          split at h
          · cases h
          · rename_i h2
            split at h
            · cases h
            · rename_i h3
              cases h
              exact ihc h3 (hp h2 hm)
      exact hps _ h1 (headO_mod (n := p.1.1) (d := p.1.2.1) (c := p.1.2.2) (r' := p.2) h0 hm.tail)
theorem own_some {w : World} {B E sz k : Nat} {v : Value} {cs : List Value} (h : w.ownsRow B E sz v k cs) (hk : 0 < k) : ∃ g c, v = .slice (some ⟨g, 0, none⟩) k c := by
  rcases h.2 with ⟨_, h0⟩ | ⟨g, cap, cur, e, -⟩
  · omega
  · exact ⟨g, cap, e⟩
def setE (w : World) (bx : Nat) (s nv dv pv : Value) : World := (((w.setCell ⟨bx, 0, none⟩ s).setCell ⟨bx, 1, none⟩ nv).setCell ⟨bx, 2, none⟩ dv).setCell ⟨bx, 3, none⟩ pv
theorem EBox.put {w : World} {bx : Nat} {s : ByteArray} {nv dv pv : Value} (h : EBox w bx s nv dv pv) (s' : ByteArray) (nv' dv' pv' : Value) : EBox (setE w bx (.string s') nv' dv' pv') bx s' nv' dv' pv' := by
  obtain ⟨hg, he⟩ := Array.getElem?_eq_some_iff.1 h
  unfold EBox setE
  simp [World.setCell, hg, Array.getElem_modify, he]
theorem setE_grown (w : World) (bx : Nat) (s nv dv pv : Value) : w.grownBy (setE w bx s nv dv pv) (some bx) := by
  refine ⟨rfl, rfl, rfl, by simp [setE, World.setCell], fun q _ hne => ?_⟩
  have hq : q ≠ bx := fun e => hne (by rw [e])
  unfold setE
  exact (Below.heap_setCell _ ⟨bx, 3, none⟩ _ q hq).trans ((Below.heap_setCell _ ⟨bx, 2, none⟩ _ q hq).trans ((Below.heap_setCell _ ⟨bx, 1, none⟩ _ q hq).trans (Below.heap_setCell _ ⟨bx, 0, none⟩ _ q hq)))
theorem ret_expr {w : World} {bx : Nat} {s : ByteArray} {nv dv pv : Value} {tmps : Array Value} {fn : Func} {p : Tmp} (h : fn.results = #[.cell p 52]) (hp : tmps.getD p undef = .pointer (some ⟨bx, 0, none⟩)) (hg : EBox w bx s nv dv pv) : (results fn tmps).run Tryz.prog w = .ok (.agg #[.string s, nv, dv, pv]) w :=
  results_cell_row h _ _ bx 52 _ (0, 0) _ hp hg Tryz.underlying52 rfl (exprSz (.string s) nv dv pv)
end Go.Proofs.YtlinldbbhdpgcaaGreatDoor
/-
  THE PROGRAM's PARSER: expr.
-/
namespace Go.Proofs.YtlinldbbhdpgcaaGreatDoor
open Go.RowKit
attribute [local go_sem] subp_cell
attribute [local irreducible] RP.plainUpon RP.stepC
/-- What reading an expression gives. -/
def OutE (B : Nat) (w : World) (pb : Nat) (o : Option (ExprD × List ByteArray)) (e : Ending) (w' : World) : Prop := (match o with
  | some (x, r) => ∃ v, e = .returned v ∧ RdE w' (fun b => w.heap.size ≤ b) x v ∧ PS B w' pb r
  | none => e = .panicked MalP) ∧ w.grownBy w' (some pb)
/-- The parts that were read. -/
def Prts (w : World) (Bx : Nat) (nv dv : Value) (n d : List Int) (pv : Value) (ps : List (ExprD × Value)) : Prop := (RdL w (fun b => Bx ≤ b ∧ pv.ownBlock ≠ some b) nv n ∧ RdL w (fun b => Bx ≤ b ∧ pv.ownBlock ≠ some b) dv d) ∧ (ps = [] → pv = nilS) ∧ w.ownsRow Bx 52 4 pv ps.length (ps.flatMap fun p => p.2.cells.toList) ∧ ∀ p ∈ ps, RdE w (fun b => Bx ≤ b ∧ pv.ownBlock ≠ some b) p.1 p.2
def closeO (x : ExprD) : List ByteArray → Option (ExprD × List ByteArray)
  | [] => none
  | t2 :: r4 => if t2 = txt [41] then some (x, r4) else none
/-- What the switch leaves. -/
structure SwW (B pb : Nat) (w wx : World) (rb xb : Nat) (s : ByteArray) (r : List ByteArray) (nv dv : Value) (n d : List Int) (c : Nat) (r' : List ByteArray) : Prop where
  ew : EW B pb w wx rb xb s nv dv nilS r'
  hn : OwnI wx (xb + 1) nv n
  hd : OwnI wx (xb + 1) dv d
  o : headO s r = some ((n, d, c), r')
theorem OwnI.set_away {w : World} {B : Nat} {v : Value} {zs : List Int} (h : OwnI w B v zs) (b i : Nat) (u : Value) (hb : b < B) : OwnI (w.setCell ⟨b, i, none⟩ u) B v zs :=
  OwnI.grown (row := some b) h ⟨rfl, rfl, rfl, by simp [World.setCell], fun q _ hne => Below.heap_setCell w ⟨b, i, none⟩ u q (fun e => hne (by rw [e]))⟩ (by
    rcases hv : v.ownBlock with _ | g
    · exact .inl rfl
    · exact .inr (fun e => by have := h.lt' g hv; cases e; omega))
theorem OwnI.pkept {w w' : World} {B pb : Nat} {v : Value} {zs : List Int} (h : OwnI w B v zs) (hg : w.grownBy w' (some pb)) (hB : pb < B) : OwnI w' B v zs :=
  OwnI.grown h hg (by
    rcases hv : v.ownBlock with _ | g
    · exact .inl rfl
    · exact .inr (fun e => by have := h.lt' g hv; cases e; omega))
theorem Prts.pkept {w w' : World} {Bx pb : Nat} {nv dv : Value} {n d : List Int} {pv : Value} {ps : List (ExprD × Value)} (h : Prts w Bx nv dv n d pv ps) (hg : w.grownBy w' (some pb)) (hB : pb < Bx) : Prts w' Bx nv dv n d pv ps :=
  have hk : ∀ b, (Bx ≤ b ∧ pv.ownBlock ≠ some b) → b < w.heap.size → w'.heap[b]? = w.heap[b]? := fun b hb hlt => hg.block b hlt (fun e => by cases e; omega)
  ⟨⟨h.1.1.kept hg.size hk (fun b hb _ => hb), h.1.2.kept hg.size hk (fun b hb _ => hb)⟩, h.2.1, World.ownsRow.kept h.2.2.1 hg (by
    by_cases hv : pv.ownBlock = some pb
    · exact absurd (World.ownsRow.lt h.2.2.1 _ hv).1 (by omega)
    · exact .inr hv), fun p hp => RdE.kept hg.size hk (fun b hb _ => hb) _ _ (h.2.2.2 p hp)⟩
theorem Prts.push {w6 w7 : World} {Bx lo : Nat} {nv dv : Value} {n d : List Int} {pv v' v : Value} {ps : List (ExprD × Value)} {x : ExprD} (h : Prts w6 Bx nv dv n d pv ps) (hx : RdE w6 (fun b => lo ≤ b) x v) (hlo : Bx ≤ lo) (hpv : ∀ g, pv.ownBlock = some g → g < lo) (hg : w6.grownBy w7 pv.ownBlock)
    (hv' : v'.ownBlock = pv.ownBlock ∨ v'.ownBlock = some (w6.heap.size + 1)) (hr : w7.ownsRow Bx 52 4 v' (ps.length + 1) ((ps.flatMap fun p => p.2.cells.toList) ++ v.cells.toList)) : Prts w7 Bx nv dv n d v' (ps ++ [(x, v)]) := by
  have hk : ∀ b, (Bx ≤ b ∧ pv.ownBlock ≠ some b) → b < w6.heap.size → w7.heap[b]? = w6.heap[b]? := fun b hb hlt => hg.block b hlt (fun e => hb.2 e.symm)
  have hN : ∀ b, (Bx ≤ b ∧ pv.ownBlock ≠ some b) → b < w6.heap.size → (Bx ≤ b ∧ v'.ownBlock ≠ some b) := fun b hb hlt => ⟨hb.1, fun e => by
    rcases hv' with hv' | hv'
    · exact hb.2 (hv' ▸ e)
    · rw [hv'] at e; cases e; omega⟩
  refine ⟨⟨h.1.1.kept hg.size hk hN, h.1.2.kept hg.size hk hN⟩, fun e => by simp at e, ?_, fun p hp => ?_⟩
  · rw [List.length_append, List.flatMap_append]
    simpa using hr
  · rcases List.mem_append.1 hp with hp | hp
    · exact RdE.kept hg.size hk hN _ _ (h.2.2.2 p hp)
    · obtain rfl := List.mem_singleton.1 hp
      refine RdE.kept hg.size (fun b hb hlt => hg.block b hlt (fun e => by have := hpv b e.symm; omega)) (fun b hb hlt => ⟨by omega, fun e => ?_⟩) _ _ hx
      rcases hv' with hv' | hv'
      · have := hpv b (hv' ▸ e); omega
      · rw [hv'] at e; cases e; omega
theorem Prts.one {w : World} {Bx : Nat} {nv dv : Value} {n d : List Int} {pv : Value} {ps : List (ExprD × Value)} (h : Prts w Bx nv dv n d pv ps) : ∃ A1 l1 c1 A2 l2 c2 A3 l3 c3, nv = .slice A1 l1 c1 ∧ dv = .slice A2 l2 c2 ∧ pv = .slice A3 l3 c3 := by
  obtain ⟨⟨⟨A1, c1, rfl, -⟩, ⟨A2, c2, rfl, -⟩⟩, h1, h2, h3⟩ := h
  cases ps with
  | nil => exact ⟨_, _, _, _, _, _, _, _, _, rfl, rfl, h1 rfl⟩
  | cons p ps => obtain ⟨g, c, rfl⟩ := own_some h2 (by simp); exact ⟨_, _, _, _, _, _, _, _, _, rfl, rfl, rfl⟩
theorem Prts.rdv {w : World} {Bx : Nat} {nv dv : Value} {n d : List Int} {pv : Value} {ps : List (ExprD × Value)} (h : Prts w Bx nv dv n d pv ps) (hp : 0 < ps.length) : RdV w (fun b => Bx ≤ b) pv (ps.map Prod.snd) := by
  obtain ⟨-, -, h2, -⟩ := h
  obtain ⟨g, c, rfl⟩ := own_some h2 hp
  obtain ⟨hr, -, hB⟩ := Row.of_own h2
  refine ⟨g, 0, c, by rw [List.length_map], hr.lt, hB, fun i hi => ?_⟩
  have e : ((ps.map Prod.snd).flatMap fun v => v.cells.toList) = ps.flatMap fun p => p.2.cells.toList := by
    rw [List.flatMap_map]
  rw [e] at hi ⊢
  rw [Nat.zero_add, hr.get i hi, List.getD, List.getElem?_eq_getElem hi]
  rfl
theorem Prts.rd {w w' : World} {lo : Nat} {nv dv : Value} {n d : List Int} {pv : Value} {ps : List (ExprD × Value)} {s : ByteArray} {xb : Nat} (h : Prts w (xb + 1) nv dv n d pv ps) (hl : ps.length ≤ 2) (hB : lo < xb) (hk : ∀ b, lo < b → b < w.heap.size → w'.heap[b]? = w.heap[b]?) (hs : w.heap.size ≤ w'.heap.size) : RdE w' (fun b => lo ≤ b) (mkE s n d (ps.map Prod.fst)) (.agg #[.string s, nv, dv, pv]) := by
  have hv := fun hp => h.rdv hp
  obtain ⟨⟨h1, h2⟩, h3, -, h5⟩ := h
  have k1 : ∀ b, (xb + 1 ≤ b ∧ pv.ownBlock ≠ some b) → b < w.heap.size → w'.heap[b]? = w.heap[b]? := fun b hb hlt => hk b (by omega) hlt
  have k2 : ∀ b, (xb + 1 ≤ b ∧ pv.ownBlock ≠ some b) → b < w.heap.size → lo ≤ b := fun b hb _ => by omega
  have k3 : ∀ b, xb + 1 ≤ b → b < w.heap.size → w'.heap[b]? = w.heap[b]? := fun b hb hlt => hk b (by omega) hlt
  match ps, hl with
  | [], _ => exact ⟨nv, dv, by rw [h3 rfl]; rfl, h1.kept hs k1 k2, h2.kept hs k1 k2⟩
  | [p], _ => exact ⟨nv, dv, pv, p.2, rfl, h1.kept hs k1 k2, h2.kept hs k1 k2, (hv (by simp)).kept hs k3 (fun b hb _ => by omega), RdE.kept hs k1 k2 _ _ (h5 p (by simp))⟩
  | [p, q], _ => exact ⟨nv, dv, pv, p.2, q.2, rfl, h1.kept hs k1 k2, h2.kept hs k1 k2, (hv (by simp)).kept hs k3 (fun b hb _ => by omega), RdE.kept hs k1 k2 _ _ (h5 p (by simp)), RdE.kept hs k1 k2 _ _ (h5 q (by simp))⟩
theorem EW.low {B pb : Nat} {w wr w1 : World} {rb xb : Nat} {s : ByteArray} {nv dv pv : Value} {ws : List ByteArray} (h : EW B pb w wr rb xb s nv dv pv ws) (hb : Below (xb + 1) wr w1) : EW B pb w w1 rb xb s nv dv pv ws :=
  have hpB := h.pB
  have h1 := h.wr'
  have h2 := h.rx
  ⟨(hb.block rb (by omega)).trans h.r, (hb.block xb (by omega)).trans h.x, h.ps.other (hb.mono (by omega)), h.pw.below hb (by omega), h.m, grown_low h.g (hb.mono (by omega)), h.wr', h.rx, h.pB⟩
theorem headO_count {s : ByteArray} {r r' : List ByteArray} {n d : List Int} {c : Nat} (h : headO s r = some ((n, d, c), r')) : c ≤ 2 := by
  unfold headO at h
  repeat' split at h
  all_goals first
  | (cases h; done)
  | (cases h; omega)
  | (rw [Option.bind_eq_some_iff] at h
     obtain ⟨p, -, h⟩ := h
     rw [Option.map_eq_some_iff] at h
     obtain ⟨q, -, h⟩ := h
     cases h; omega)
  | (rw [Option.map_eq_some_iff] at h
     obtain ⟨q, -, h⟩ := h
     cases h; omega)
set_option maxRecDepth 100000 in
set_option maxHeartbeats 4000000 in
theorem expr_any : ∀ (k : Nat), k ≤ 100 → ∀ (B pb : Nat) (ws : List ByteArray) (_ : Mod ws) (w : World) (_ : PS B w pb ws) (_ : PW pb w),
    Calls Tryz.prog 63 #[.pointer (some ⟨pb, 0, none⟩), .int .i64 (k : Int)] w (OutE B w pb (exprO k ws)) := by
  intro k
  induction k with
  | zero =>
    intro _ B pb ws hm w h hw
    exact (expr_zero pb w).mono fun e w' ⟨h1, h2⟩ => ⟨h1, grown_of h2 _⟩
  | succ k ih =>
  intro hk B pb ws hm w h hw
  have hpb := h.lt
  have hok := demand_ok
  have hno := demand_no
  have IH := Lib.hid (ih (by omega))
  clear ih
  have dk : decide (0 < ((k + 1 : Nat) : Int)) = true := decide_eq_true (by omega)
  have hW0 : EBox (w.alloc (.cells #[.string ⟨#[]⟩, .slice none 0 0, .slice none 0 0, .slice none 0 0] 52)) w.heap.size ⟨#[]⟩ nilS nilS nilS ∧ Below w.heap.size w (w.alloc (.cells #[.string ⟨#[]⟩, .slice none 0 0, .slice none 0 0, .slice none 0 0] 52)) := ⟨EBox.new w _ _ _ _, (by repeat' (first | (with_reducible exact Below.refl _ _) | (with_reducible assumption) | (with_reducible refine below_drewN ?_ _) | (with_reducible refine below_step (by assumption) ?_ ?_) | (with_reducible refine Below.alloc ?_ ?_ _) | (with_reducible refine Below.setCell ?_ ?_ _) | (with_reducible refine Below.drew ?_) | go_size | (exact Below.size (by assumption)) | (refine Nat.le_trans (Below.size (by assumption)) ?_)))⟩
  have H0 := Lib.hid hW0
  obtain ⟨O, hO⟩ : ∃ O, O = exprO (k + 1) ws := ⟨_, rfl⟩
  rw [← hO]
  obtain ⟨kk, hkk⟩ : ∃ kk : Int, kk = ((k + 1 : Nat) : Int) := ⟨_, rfl⟩
  rw [← hkk] at dk ⊢
  have HKK := Lib.hid hkk
  have HM := Lib.hid hm
  have HPW := Lib.hid hw
  have HPS := Lib.hid h
  have HO := Lib.hid hO
  clear hm h hw hO hW0 hkk
  go_enter Tryz.func63, Tryz.ntmps63
  go_wp2_with (go_at_call 90; refine (hok _).mono ?_; rintro e w' ⟨rfl, rfl⟩)
  obtain ⟨W, hW⟩ : ∃ W, W = w.alloc (.cells #[.string ⟨#[]⟩, .slice none 0 0, .slice none 0 0, .slice none 0 0] 52) := ⟨_, rfl⟩
  rw [← hW] at H0 ⊢
  have hPS1 := HPS.out.other (H0.out.2.mono (show B ≤ w.heap.size by omega))
  have hPW1 := HPW.out.below (H0.out.2.mono (show B ≤ w.heap.size by omega)) (by omega)
  cases ws with
  | nil =>
    have HO2 := Lib.hid (show O = none from HO.out)
    clear hok hno hW
    refine (next_no B pb W hPS1).mono ?_
    rintro e w1 ⟨rfl, rfl⟩
    exact ⟨rfl, by rw [HO2.out], grown_of (H0.out.2.mono (by omega)) _⟩
  | cons s r =>
    refine (next_ok B pb s r W (by have := HM.out.1; simp at this; omega) hPS1).mono ?_
    rintro e w1 ⟨rfl, q1, q2⟩
    have HO2 := Lib.hid (show O = (headO s r).bind fun p => (partsO (exprO k) p.1.2.2 p.2).map fun q => (mkE s p.1.1 p.1.2.1 q.1, q.2) from HO.out)
    have G1 := Lib.hid (And.intro q1 (And.intro (hPW1.grown q2) (And.intro (grown_then (grown_of (H0.out.2.mono (show w.heap.size ≤ w.heap.size by omega)) (some pb)) q2) (And.intro (H0.out.1.keepG q2 (by omega)) q2.size))))
    clear hPS1 hPW1 q1 q2 H0 hW HO
    go_upto_block 0 with fail
    obtain ⟨W2, hW2⟩ : ∃ W2, W2 = w1.alloc (.cells #[.string s, .slice none 0 0, .slice none 0 0, .slice none 0 0] 52) := ⟨_, rfl⟩
    rw [← hW2]
    have hb2 : Below w1.heap.size w1 W2 := by rw [hW2]; exact (Below.refl _ _).alloc (Nat.le_refl _) _
    have hx2 : EBox W2 w1.heap.size s nilS nilS nilS := by rw [hW2]; exact EBox.new w1 _ _ _ _
    obtain ⟨xb, hxb⟩ : ∃ xb, xb = w1.heap.size := ⟨_, rfl⟩
    rw [← hxb] at hx2 ⊢
    have hW2x : xb + 1 ≤ W2.heap.size := by rw [hW2, hxb]; simp
    have hrx : w.heap.size < xb := by rw [hxb]; exact (Array.getElem?_eq_some_iff.1 G1.out.2.2.2.1).1
    have EW2 := Lib.hid (show EW B pb w W2 w.heap.size xb s nilS nilS nilS r from
      ⟨G1.out.2.2.2.1.keepG (pb := pb) (grown_of hb2 _) (by omega), hx2, G1.out.1.other (hb2.mono G1.out.1.lt.2), G1.out.2.1.grown (grown_of hb2 _), HM.out.tail, grown_then G1.out.2.2.1 (grown_of hb2 _), Nat.le_refl _, hrx, hpb⟩)
    clear hW2 hb2 hx2 hxb G1 HM HPW HPS
    obtain ⟨q0, q1, q2, q3, q4⟩ := EW2.out.x.cells
    have f1 := EW2.out.x.frozen 1
    have f2 := EW2.out.x.frozen 2
    have f3 := EW2.out.x.frozen 3
    go_cut [6] (fun t wx => ∃ (nv dv : Value) (n d : List Int) (c : Nat) (r' : List ByteArray), t = .int .i64 c ∧ Hid (SwW B pb w wx w.heap.size xb s r nv dv n d c r'))
    case first =>
      by_cases e1 : s = txt [103, 114, 105, 100]
      · have t1 := word_yes e1
        have E1 := Lib.hid e1
        clear e1
        have hnum := numbers_any B pb 3 (by omega) r EW2.out.m W2 EW2.out.ps EW2.out.pw
        cases hN : numsO 3 r with
        | none =>
          rw [hN] at hnum
          have HOX := Lib.hid (show O = none by rw [HO2.out, headO_grid E1.out, hN]; rfl)
          have HNU := Lib.hid hnum
          clear hN hnum HO2 hok hno
          go_wp2_with fail
          refine HNU.out.mono ?_
          rintro e w3 ⟨rfl, hg3⟩
          exact ⟨rfl, by rw [HOX.out], grown_then EW2.out.g hg3⟩
        | some p =>
          obtain ⟨n, r2⟩ := p
          rw [hN] at hnum
          obtain ⟨hm2, hn2⟩ := numsO_mod _ _ _ _ hN EW2.out.m
          have HNU := Lib.hid hnum
          have HN := Lib.hid (And.intro hN (And.intro hm2 hn2))
          clear hN hnum hm2 hn2
          go_wp2_with fail
          refine HNU.out.mono ?_
          rintro e w3 ⟨⟨nv, rfl, ho3, hp3⟩, hg3⟩
          obtain ⟨A3, c3, hv3, hL3⟩ := ho3.isL
          obtain ⟨ln, hln⟩ : ∃ ln, ln = n.length := ⟨_, rfl⟩
          rw [← hln] at hv3 hL3
          subst hv3
          obtain ⟨nv, hnv⟩ : ∃ nv, nv = Value.slice A3 ln c3 := ⟨_, rfl⟩
          have HNV := Lib.hid (And.intro hnv (And.intro hln hL3))
          rw [← hnv] at ho3
          have EW3 := Lib.hid (And.intro (EW2.out.step hg3 hp3 HN.out.2.1) (ho3.down hW2x))
          clear ho3 hp3 hg3 HNU hL3 hln q0 q1 q2 q3 q4 f1 f2 f3
          obtain ⟨q0, q1, q2, q3, q4⟩ := EW3.out.1.x.cells
          have f1 := EW3.out.1.x.frozen 1
          have EW4 := Lib.hid (And.intro (EW3.out.1.set 1 nv (EW3.out.1.x.set1 nv)) (OwnI.set_away EW3.out.2 xb 1 nv (by omega)))
          rw [hnv] at EW4
          clear EW3 hnv
          go_upto_region 14 with fail
          obtain ⟨W4, hW4⟩ : ∃ W4, W4 = w3.setCell ⟨xb, 1, none⟩ (.slice A3 ln c3) := ⟨_, rfl⟩
          rw [← hW4] at EW4 ⊢
          clear hW4
          obtain ⟨n0, n1, n2, rfl⟩ := three_of HN.out.2.2
          have hln : ln = 3 := HNV.out.2.1
          obtain ⟨bn, on, rfl, hbn, hcn⟩ := EW4.out.2.isL3 hln
          have y0 := hcn 0 (by omega)
          have y1 := hcn 2 (by omega)
          simp only [List.getD_cons_zero, List.getD_cons_succ, Nat.add_zero] at y0 y1
          clear q0 q1 q2 q3 q4 f1
          obtain ⟨q0, q1, q2, q3, q4⟩ := EW4.out.1.x.cells
          have q6 : bn ≠ pb := by have := EW4.out.1.pB; have := EW4.out.1.wr'; have := EW4.out.1.rx; omega
          have q7 : xb ≠ pb := by have := EW4.out.1.pB; have := EW4.out.1.wr'; have := EW4.out.1.rx; omega
          subst hln
          refine RP.region_treeP (C := fun w' => ∃ x : SubP pb W4.heap.size W4, w' = x.val) (fun ch ds wz => ch = MalP ∧ ds = [] ∧ OutE B w pb O (.panicked MalP) wz) [0, 1, 2, 3, 4, 5, 6, 7, 8] (OT.seq [9, 10]) 11 (fun ch a wz h => by obtain ⟨rfl, h1, h2⟩ := h; exact ⟨h1, h2⟩) (by kernel_rfl) (by kernel_rfl) (subp_start pb _ W4) ?_
          simp only [pickL, List.getElem?_cons_zero, List.getElem?_cons_succ]
          repeat (go_big_quiet_step (fail))
          refine wpQuiet_nil ?_
          obtain ⟨w5, hw5⟩ : ∃ w5 : World, w5 = { W4 with drawn := W4.drawn + 1 } := ⟨_, rfl⟩
          have hb5 : Below W4.heap.size W4 w5 := by rw [hw5]; exact (Below.refl _ _).drew
          rw [← hw5]
          have EW5 := EW4.out.1.keep hb5
          have OW5 := OwnI.keep hb5 EW4.out.2
          clear q0 q1 q2 q3 q4 q6 q7 y0 y1 hw5
          simp only [RP.treeS, OT.seq, atOp, List.getElem?_cons_zero, List.getElem?_cons_succ]
          refine ⟨subp_of (grown_of hb5 _), ?_⟩
          refine RP.p_call 93 #[.pointer (some ⟨pb, 0, none⟩), .int .i64 n0, .int .i64 n2] rfl (by go_simp) ?_
          refine (rows_any B pb n0 n2 r2 HN.out.2.1 w5 EW5.ps EW5.pw).mono ?_
          rintro e w6 ⟨hres, hg6⟩
          have hgt : w.grownBy w6 (some pb) := grown_then EW5.g hg6
          cases hR : rowsO n0 n2 r2 with
          | none =>
            rw [hR] at hres
            have HOX : O = none := by
              rw [HO2.out, headO_grid E1.out, HN.out.1]
              simp [hR]
            exact .inr ⟨MalP, hres, rfl, rfl, by rw [HOX], hgt⟩
          | some q =>
            obtain ⟨d, r3⟩ := q
            rw [hR] at hres
            obtain ⟨v, rfl, ho6, hp6⟩ := hres
            have hm3 := rowsO_mod hR HN.out.2.1
            refine .inl ⟨v, rfl, ?_⟩
            have hgc : W4.grownBy w6 (some pb) := grown_then (grown_of hb5 _) hg6
            refine ⟨subp_of hgc, ?_⟩
            refine RP.p_val (.pointer (some ⟨xb, 2, none⟩)) w6 rfl (by go_simp) ?_
            refine ⟨subp_of hgc, ?_⟩
            have EW6 := EW5.step hg6 hp6 hm3
            have OW6 := OwnI.grown OW5 hg6 (by
              rcases hv : (Value.slice (some ⟨bn, on, none⟩) 3 c3).ownBlock with _ | g
              · exact .inl rfl
              · exact .inr (fun e => by have := OW5.lt' g hv; have := EW5.pB; have := EW5.wr'; have := EW5.rx; cases e; omega))
            obtain ⟨A6, c6, hv6, hL6⟩ := ho6.isL
            obtain ⟨l6, hl6⟩ : ∃ l6, l6 = d.length := ⟨_, rfl⟩
            rw [← hl6] at hv6
            subst hv6
            obtain ⟨x0, x1, x2, x3, x4⟩ := EW6.x.cells
            have g2 := EW6.x.frozen 2
            have od6 : OwnI w6 (xb + 1) (.slice A6 l6 c6) d := ho6.down (by have := (Array.getElem?_eq_some_iff.1 EW5.x).1; omega)
            have HF := Lib.hid (show SwW B pb w (w6.setCell ⟨xb, 2, none⟩ (.slice A6 l6 c6)) w.heap.size xb s r (.slice (some ⟨bn, on, none⟩) 3 c3) (.slice A6 l6 c6) [n0, n1, n2] d 0 r3 from
              ⟨EW6.set 2 _ (EW6.x.set2 _), OwnI.set_away OW6 xb 2 _ (by omega), OwnI.set_away od6 xb 2 _ (by omega), by rw [headO_grid E1.out, HN.out.1]; simp [hR]⟩)
            refine RP.p_skip (w6.setCell ⟨xb, 2, none⟩ (.slice A6 l6 c6)) rfl (by go_simp) ?_
            obtain ⟨w7, hw7⟩ : ∃ w7, w7 = w6.setCell ⟨xb, 2, none⟩ (.slice A6 l6 c6) := ⟨_, rfl⟩
            rw [← hw7] at HF ⊢
            clear hw7 EW6 OW6 OW5 EW5 od6 ho6 hp6 hL6 hR hm3 hgc hgt hg6 hb5 hl6 x0 x1 x2 x3 x4 g2 EW4 HNV HN HO2
            go_simp
            go_wp2_with fail
            go_meet
            exact ⟨_, _, _, _, _, _, rfl, HF⟩
      · have t1 := word_no e1
        by_cases e2 : s = txt [98, 114, 105, 99, 107, 115]
        · have t2 := word_yes e2
          have E2 := Lib.hid e2
          clear e1 e2
          have hnum := numbers_any B pb 3 (by omega) r EW2.out.m W2 EW2.out.ps EW2.out.pw
          cases hN : numsO 3 r with
          | none =>
            rw [hN] at hnum
            have HOX := Lib.hid (show O = none by rw [HO2.out, headO_bricks E2.out, hN]; rfl)
            have HNU := Lib.hid hnum
            clear hN hnum HO2 hok hno
            go_wp2_with fail
            refine HNU.out.mono ?_
            rintro e w3 ⟨rfl, hg3⟩
            exact ⟨rfl, by rw [HOX.out], grown_then EW2.out.g hg3⟩
          | some p =>
            obtain ⟨n, r2⟩ := p
            rw [hN] at hnum
            obtain ⟨hm2, hn2⟩ := numsO_mod _ _ _ _ hN EW2.out.m
            have HNU := Lib.hid hnum
            have HN := Lib.hid (And.intro hN (And.intro hm2 hn2))
            clear hN hnum hm2 hn2
            go_wp2_with fail
            refine HNU.out.mono ?_
            rintro e w3 ⟨⟨nv, rfl, ho3, hp3⟩, hg3⟩
            obtain ⟨A3, c3, hv3, hL3⟩ := ho3.isL
            obtain ⟨ln, hln⟩ : ∃ ln, ln = n.length := ⟨_, rfl⟩
            rw [← hln] at hv3 hL3
            subst hv3
            obtain ⟨nv, hnv⟩ : ∃ nv, nv = Value.slice A3 ln c3 := ⟨_, rfl⟩
            have HNV := Lib.hid (And.intro hnv (And.intro hln hL3))
            rw [← hnv] at ho3
            have EW3 := Lib.hid (And.intro (EW2.out.step hg3 hp3 HN.out.2.1) (ho3.down hW2x))
            clear ho3 hp3 hg3 HNU hL3 hln q0 q1 q2 q3 q4 f1 f2 f3
            obtain ⟨q0, q1, q2, q3, q4⟩ := EW3.out.1.x.cells
            have f1 := EW3.out.1.x.frozen 1
            have EW4 := Lib.hid (And.intro (EW3.out.1.set 1 nv (EW3.out.1.x.set1 nv)) (OwnI.set_away EW3.out.2 xb 1 nv (by omega)))
            rw [hnv] at EW4
            clear EW3 hnv
            go_upto_region 16 with fail
            obtain ⟨W4, hW4⟩ : ∃ W4, W4 = w3.setCell ⟨xb, 1, none⟩ (.slice A3 ln c3) := ⟨_, rfl⟩
            rw [← hW4] at EW4 ⊢
            clear hW4
            obtain ⟨n0, n1, n2, rfl⟩ := three_of HN.out.2.2
            have hln : ln = 3 := HNV.out.2.1
            obtain ⟨bn, on, rfl, hbn, hcn⟩ := EW4.out.2.isL3 hln
            have y0 := hcn 0 (by omega)
            have y1 := hcn 1 (by omega)
            simp only [List.getD_cons_zero, List.getD_cons_succ, Nat.add_zero] at y0 y1
            clear q0 q1 q2 q3 q4 f1
            obtain ⟨q0, q1, q2, q3, q4⟩ := EW4.out.1.x.cells
            have q6 : bn ≠ pb := by have := EW4.out.1.pB; have := EW4.out.1.wr'; have := EW4.out.1.rx; omega
            have q7 : xb ≠ pb := by have := EW4.out.1.pB; have := EW4.out.1.wr'; have := EW4.out.1.rx; omega
            subst hln
            refine RP.region_treeP (C := fun w' => ∃ x : SubP pb W4.heap.size W4, w' = x.val) (fun ch ds wz => ch = MalP ∧ ds = [] ∧ OutE B w pb O (.panicked MalP) wz) [0, 1, 2, 3, 4, 5, 6, 7, 8] (OT.seq [9, 10]) 11 (fun ch a wz h => by obtain ⟨rfl, h1, h2⟩ := h; exact ⟨h1, h2⟩) (by kernel_rfl) (by kernel_rfl) (subp_start pb _ W4) ?_
            simp only [pickL, List.getElem?_cons_zero, List.getElem?_cons_succ]
            repeat (go_big_quiet_step (fail))
            refine wpQuiet_nil ?_
            obtain ⟨w5, hw5⟩ : ∃ w5 : World, w5 = { W4 with drawn := W4.drawn + 1 } := ⟨_, rfl⟩
            have hb5 : Below W4.heap.size W4 w5 := by rw [hw5]; exact (Below.refl _ _).drew
            rw [← hw5]
            have EW5 := EW4.out.1.keep hb5
            have OW5 := OwnI.keep hb5 EW4.out.2
            clear q0 q1 q2 q3 q4 q6 q7 y0 y1 hw5
            simp only [RP.treeS, OT.seq, atOp, List.getElem?_cons_zero, List.getElem?_cons_succ]
            refine ⟨subp_of (grown_of hb5 _), ?_⟩
            refine RP.p_call 93 #[.pointer (some ⟨pb, 0, none⟩), .int .i64 n0, .int .i64 n1] rfl (by go_simp) ?_
            refine (rows_any B pb n0 n1 r2 HN.out.2.1 w5 EW5.ps EW5.pw).mono ?_
            rintro e w6 ⟨hres, hg6⟩
            have hgt : w.grownBy w6 (some pb) := grown_then EW5.g hg6
            cases hR : rowsO n0 n1 r2 with
            | none =>
              rw [hR] at hres
              have HOX : O = none := by
                rw [HO2.out, headO_bricks E2.out, HN.out.1]
                simp [hR]
              exact .inr ⟨MalP, hres, rfl, rfl, by rw [HOX], hgt⟩
            | some q =>
              obtain ⟨d, r3⟩ := q
              rw [hR] at hres
              obtain ⟨v, rfl, ho6, hp6⟩ := hres
              have hm3 := rowsO_mod hR HN.out.2.1
              refine .inl ⟨v, rfl, ?_⟩
              have hgc : W4.grownBy w6 (some pb) := grown_then (grown_of hb5 _) hg6
              refine ⟨subp_of hgc, ?_⟩
              refine RP.p_val (.pointer (some ⟨xb, 2, none⟩)) w6 rfl (by go_simp) ?_
              refine ⟨subp_of hgc, ?_⟩
              have EW6 := EW5.step hg6 hp6 hm3
              have OW6 := OwnI.grown OW5 hg6 (by
                rcases hv : (Value.slice (some ⟨bn, on, none⟩) 3 c3).ownBlock with _ | g
                · exact .inl rfl
                · exact .inr (fun e => by have := OW5.lt' g hv; have := EW5.pB; have := EW5.wr'; have := EW5.rx; cases e; omega))
              obtain ⟨A6, c6, hv6, hL6⟩ := ho6.isL
              obtain ⟨l6, hl6⟩ : ∃ l6, l6 = d.length := ⟨_, rfl⟩
              rw [← hl6] at hv6
              subst hv6
              obtain ⟨x0, x1, x2, x3, x4⟩ := EW6.x.cells
              have g2 := EW6.x.frozen 2
              have od6 : OwnI w6 (xb + 1) (.slice A6 l6 c6) d := ho6.down (by have := (Array.getElem?_eq_some_iff.1 EW5.x).1; omega)
              have HF := Lib.hid (show SwW B pb w (w6.setCell ⟨xb, 2, none⟩ (.slice A6 l6 c6)) w.heap.size xb s r (.slice (some ⟨bn, on, none⟩) 3 c3) (.slice A6 l6 c6) [n0, n1, n2] d 0 r3 from
                ⟨EW6.set 2 _ (EW6.x.set2 _), OwnI.set_away OW6 xb 2 _ (by omega), OwnI.set_away od6 xb 2 _ (by omega), by rw [headO_bricks E2.out, HN.out.1]; simp [hR]⟩)
              refine RP.p_skip (w6.setCell ⟨xb, 2, none⟩ (.slice A6 l6 c6)) rfl (by go_simp) ?_
              obtain ⟨w7, hw7⟩ : ∃ w7, w7 = w6.setCell ⟨xb, 2, none⟩ (.slice A6 l6 c6) := ⟨_, rfl⟩
              rw [← hw7] at HF ⊢
              clear hw7 EW6 OW6 OW5 EW5 od6 ho6 hp6 hL6 hR hm3 hgc hgt hg6 hb5 hl6 x0 x1 x2 x3 x4 g2 EW4 HNV HN HO2
              go_simp
              go_wp2_with fail
              go_meet
              exact ⟨_, _, _, _, _, _, rfl, HF⟩
        · have t2 := word_no e2
          by_cases e3 : s = txt [115, 104, 105, 102, 116]
          · have t3 := word_yes e3
            have E3 := Lib.hid e3
            clear e1 e2 e3
            have hnum := numbers_any B pb 2 (by omega) r EW2.out.m W2 EW2.out.ps EW2.out.pw
            cases hN : numsO 2 r with
            | none =>
              rw [hN] at hnum
              have HOX := Lib.hid (show O = none by rw [HO2.out, headO_shift E3.out, hN]; rfl)
              have HNU := Lib.hid hnum
              clear hN hnum HO2 hok hno
              go_wp2_with fail
              refine HNU.out.mono ?_
              rintro e w3 ⟨rfl, hg3⟩
              exact ⟨rfl, by rw [HOX.out], grown_then EW2.out.g hg3⟩
            | some p =>
              obtain ⟨n, r2⟩ := p
              rw [hN] at hnum
              obtain ⟨hm2, hn2⟩ := numsO_mod _ _ _ _ hN EW2.out.m
              have HNU := Lib.hid hnum
              have HN := Lib.hid (And.intro hN (And.intro hm2 hn2))
              clear hN hnum hm2 hn2
              go_wp2_with fail
              refine HNU.out.mono ?_
              rintro e w3 ⟨⟨nv, rfl, ho3, hp3⟩, hg3⟩
              obtain ⟨A3, c3, hv3, hL3⟩ := ho3.isL
              obtain ⟨ln, hln⟩ : ∃ ln, ln = n.length := ⟨_, rfl⟩
              rw [← hln] at hv3 hL3
              subst hv3
              obtain ⟨nv, hnv⟩ : ∃ nv, nv = Value.slice A3 ln c3 := ⟨_, rfl⟩
              have HNV := Lib.hid (And.intro hnv (And.intro hln hL3))
              rw [← hnv] at ho3
              have EW3 := Lib.hid (And.intro (EW2.out.step hg3 hp3 HN.out.2.1) (ho3.down hW2x))
              clear ho3 hp3 hg3 HNU hL3 hln q0 q1 q2 q3 q4 f1 f2 f3
              obtain ⟨q0, q1, q2, q3, q4⟩ := EW3.out.1.x.cells
              have f1 := EW3.out.1.x.frozen 1
              have EW4 := Lib.hid (And.intro (EW3.out.1.set 1 nv (EW3.out.1.x.set1 nv)) (OwnI.set_away EW3.out.2 xb 1 nv (by omega)))
              rw [hnv] at EW4
              clear EW3 hnv
              have HF := Lib.hid (show SwW B pb w (w3.setCell ⟨xb, 1, none⟩ (.slice A3 ln c3)) w.heap.size xb s r (.slice A3 ln c3) nilS n [] 1 r2 from
                ⟨EW4.out.1, EW4.out.2, OwnI.nil _ _, by rw [headO_shift E3.out, HN.out.1]; rfl⟩)
              obtain ⟨w7, hw7⟩ : ∃ w7, w7 = w3.setCell ⟨xb, 1, none⟩ (.slice A3 ln c3) := ⟨_, rfl⟩
              rw [← hw7] at HF
              clear EW4 HN HNV HO2
              go_wp2_with fail
              go_meet
              exact ⟨_, _, _, _, _, _, rfl, by rw [← hw7]; exact HF⟩
          · have t3 := word_no e3
            by_cases e4 : s = txt [115, 119, 101, 108, 108]
            · have t4 := word_yes e4
              have E4 := Lib.hid e4
              clear e1 e2 e3 e4
              have hnum := numbers_any B pb 1 (by omega) r EW2.out.m W2 EW2.out.ps EW2.out.pw
              cases hN : numsO 1 r with
              | none =>
                rw [hN] at hnum
                have HOX := Lib.hid (show O = none by rw [HO2.out, headO_swell E4.out, hN]; rfl)
                have HNU := Lib.hid hnum
                clear hN hnum HO2 hok hno
                go_wp2_with fail
                refine HNU.out.mono ?_
                rintro e w3 ⟨rfl, hg3⟩
                exact ⟨rfl, by rw [HOX.out], grown_then EW2.out.g hg3⟩
              | some p =>
                obtain ⟨n, r2⟩ := p
                rw [hN] at hnum
                obtain ⟨hm2, hn2⟩ := numsO_mod _ _ _ _ hN EW2.out.m
                have HNU := Lib.hid hnum
                have HN := Lib.hid (And.intro hN (And.intro hm2 hn2))
                clear hN hnum hm2 hn2
                go_wp2_with fail
                refine HNU.out.mono ?_
                rintro e w3 ⟨⟨nv, rfl, ho3, hp3⟩, hg3⟩
                obtain ⟨A3, c3, hv3, hL3⟩ := ho3.isL
                obtain ⟨ln, hln⟩ : ∃ ln, ln = n.length := ⟨_, rfl⟩
                rw [← hln] at hv3 hL3
                subst hv3
                obtain ⟨nv, hnv⟩ : ∃ nv, nv = Value.slice A3 ln c3 := ⟨_, rfl⟩
                have HNV := Lib.hid (And.intro hnv (And.intro hln hL3))
                rw [← hnv] at ho3
                have EW3 := Lib.hid (And.intro (EW2.out.step hg3 hp3 HN.out.2.1) (ho3.down hW2x))
                clear ho3 hp3 hg3 HNU hL3 hln q0 q1 q2 q3 q4 f1 f2 f3
                obtain ⟨q0, q1, q2, q3, q4⟩ := EW3.out.1.x.cells
                have f1 := EW3.out.1.x.frozen 1
                have EW4 := Lib.hid (And.intro (EW3.out.1.set 1 nv (EW3.out.1.x.set1 nv)) (OwnI.set_away EW3.out.2 xb 1 nv (by omega)))
                rw [hnv] at EW4
                clear EW3 hnv
                have HF := Lib.hid (show SwW B pb w (w3.setCell ⟨xb, 1, none⟩ (.slice A3 ln c3)) w.heap.size xb s r (.slice A3 ln c3) nilS n [] 1 r2 from
                  ⟨EW4.out.1, EW4.out.2, OwnI.nil _ _, by rw [headO_swell E4.out, HN.out.1]; rfl⟩)
                obtain ⟨w7, hw7⟩ : ∃ w7, w7 = w3.setCell ⟨xb, 1, none⟩ (.slice A3 ln c3) := ⟨_, rfl⟩
                rw [← hw7] at HF
                clear EW4 HN HNV HO2
                go_wp2_with fail
                go_meet
                exact ⟨_, _, _, _, _, _, rfl, by rw [← hw7]; exact HF⟩
            · have t4 := word_no e4
              by_cases e5 : s = txt [116, 117, 114, 110]
              · have t5 := word_yes e5
                have E5 := Lib.hid e5
                clear e1 e2 e3 e4 e5
                have HF := Lib.hid (show SwW B pb w W2 w.heap.size xb s r nilS nilS [] [] 1 r from
                  ⟨EW2.out, OwnI.nil _ _, OwnI.nil _ _, by rw [headO_turn E5.out]⟩)
                clear HO2
                go_wp2_with fail
                go_meet
                exact ⟨_, _, _, _, _, _, rfl, HF⟩
              · have t5 := word_no e5
                by_cases e6 : s = txt [109, 105, 114, 114, 111, 114]
                · have t6 := word_yes e6
                  have E6 := Lib.hid e6
                  clear e1 e2 e3 e4 e5 e6
                  have HF := Lib.hid (show SwW B pb w W2 w.heap.size xb s r nilS nilS [] [] 1 r from
                    ⟨EW2.out, OwnI.nil _ _, OwnI.nil _ _, by rw [headO_mirror E6.out]⟩)
                  clear HO2
                  go_wp2_with fail
                  go_meet
                  exact ⟨_, _, _, _, _, _, rfl, HF⟩
                · have t6 := word_no e6
                  by_cases e7 : s = txt [114, 101, 99, 111, 108, 111, 114]
                  · have t7 := word_yes e7
                    have E7 := Lib.hid e7
                    clear e1 e2 e3 e4 e5 e6 e7
                    cases r with
                    | nil =>
                      have HOX := Lib.hid (show O = none by rw [HO2.out, headO_recolor0 E7.out]; rfl)
                      have hnx := next_no B pb W2 EW2.out.ps
                      clear HO2 hok hno
                      go_wp2_with fail
                      refine hnx.mono ?_
                      rintro e w3 ⟨rfl, rfl⟩
                      exact ⟨rfl, by rw [HOX.out], EW2.out.g⟩
                    | cons t r2 =>
                      have HH := Lib.hid (headO_recolor E7.out (r := r2) t)
                      have HMT := Lib.hid (EW2.out.m.2 t (by simp))
                      have hnx := next_ok B pb t r2 W2 (by have := EW2.out.m.1; simp at this; omega) EW2.out.ps
                      go_wp2_with fail
                      refine hnx.mono ?_
                      rintro e w3 ⟨rfl, hp3, hg3⟩
                      have EW3 := Lib.hid (EW2.out.step hg3 hp3 EW2.out.m.tail)
                      have hsz : xb + 1 ≤ w3.heap.size := Nat.le_trans hW2x hg3.size
                      clear hp3 hg3 hnx q0 q1 q2 q3 q4 f1 f2 f3 EW2
                      obtain ⟨q0, q1, q2, q3, q4⟩ := EW3.out.x.cells
                      have f2 := EW3.out.x.frozen 2
                      by_cases h8 : t.size = 8
                      · have d8 : ((t.size : Int) == 8) = true := by rw [h8]; rfl
                        have H8 := Lib.hid h8
                        clear h8
                        go_wp2_with (go_at_call 90; refine (hok _).mono ?_; rintro e w' ⟨rfl, rfl⟩)
                        refine (digits_any t (by have := HMT.out; omega) w3).mono ?_
                        rintro e w4 ⟨hres, hb4⟩
                        rcases hres with ⟨v, rfl, hd, hv⟩ | ⟨rfl, hd⟩
                        · obtain ⟨A6, c6, hv6, hL6⟩ := hv.isL
                          obtain ⟨l6, hl6⟩ : ∃ l6, l6 = (digL t).length := ⟨_, rfl⟩
                          rw [← hl6] at hv6
                          subst hv6
                          have EW4 := EW3.out.keep hb4
                          clear q0 q1 q2 q3 q4 f2
                          obtain ⟨q0, q1, q2, q3, q4⟩ := EW4.x.cells
                          have f2 := EW4.x.frozen 2
                          have HF := Lib.hid (show SwW B pb w (w4.setCell ⟨xb, 2, none⟩ (.slice A6 l6 c6)) w.heap.size xb s (t :: r2) nilS (.slice A6 l6 c6) [] (digL t) 1 r2 from
                            ⟨EW4.set 2 _ (EW4.x.set2 _), OwnI.nil _ _, OwnI.set_away (hv.down hsz) xb 2 _ (by omega), by rw [HH.out, if_pos ⟨H8.out, hd⟩]⟩)
                          obtain ⟨w7, hw7⟩ : ∃ w7, w7 = w4.setCell ⟨xb, 2, none⟩ (.slice A6 l6 c6) := ⟨_, rfl⟩
                          rw [← hw7] at HF
                          clear EW4 hv hb4 hL6 hl6 hd EW3 HH HO2
                          go_wp2_with fail
                          go_meet
                          exact ⟨_, _, _, _, _, _, rfl, by rw [← hw7]; exact HF⟩
                        · have HOX := Lib.hid (show O = none by rw [HO2.out, HH.out, if_neg (fun h => hd h.2)]; rfl)
                          have HG4 := Lib.hid (grown_then EW3.out.g (grown_of hb4 (some pb)))
                          clear hd hb4 EW3
                          first
                          | exact ⟨rfl, by rw [HOX.out], HG4.out⟩
                          | (go_wp2; exact ⟨rfl, by rw [HOX.out], HG4.out⟩)
                      · have d8 : ((t.size : Int) == 8) = false := by rw [beq_eq_false_iff_ne]; omega
                        have HOX := Lib.hid (show O = none by rw [HO2.out, HH.out, if_neg (fun h => h8 h.1)]; rfl)
                        clear h8 HO2 HH hok
                        go_wp2_with (go_at_call 90; refine (hno _).mono ?_; rintro e w' ⟨rfl, rfl⟩)
                        exact ⟨rfl, by rw [HOX.out], EW3.out.g⟩
                  · have t7 := word_no e7
                    by_cases e8 : s = txt [111, 118, 101, 114]
                    · have t8 := word_yes e8
                      have E8 := Lib.hid e8
                      clear e1 e2 e3 e4 e5 e6 e7 e8
                      have HF := Lib.hid (show SwW B pb w W2 w.heap.size xb s r nilS nilS [] [] 2 r from
                        ⟨EW2.out, OwnI.nil _ _, OwnI.nil _ _, by rw [headO_over E8.out]⟩)
                      clear HO2
                      go_wp2_with fail
                      go_meet
                      exact ⟨_, _, _, _, _, _, rfl, HF⟩
                    · have t8 := word_no e8
                      have HOX := Lib.hid (show O = none by rw [HO2.out, headO_none e1 e2 e3 e4 e5 e6 e7 e8]; rfl)
                      clear e1 e2 e3 e4 e5 e6 e7 e8 HO2
                      go_wp2_with fail
                      exact ⟨rfl, by rw [HOX.out]; rfl, EW2.out.g⟩
    case rest =>
      obtain ⟨nv, dv, n, d, c, r0, rfl, HS⟩ := hcut
      clear q0 q1 q2 q3 q4 f1 f2 f3 EW2 hW2x W2
      have hc2 : c ≤ 2 := headO_count HS.out.o
      have hkk : kk - 1 = (k : Int) := by have := HKK.out; omega
      have kw : IntKind.i64.wrap (kk - 1) = (k : Int) := by rw [hkk]; exact IntWalk.i64_in _ (by omega)
      have HO3 := Lib.hid (show O = (partsO (exprO k) c r0).map fun q => (mkE s n d q.1, q.2) by rw [HO2.out, HS.out.o]; rfl)
      have R0 := Lib.hid (show ∃ ps pv r, EW B pb w wc w.heap.size xb s nv dv pv r ∧ Prts wc (xb + 1) nv dv n d pv ps ∧ ps.length = 0 ∧ O = (partsO (exprO k) (c - 0) r).map fun q => (mkE s n d (ps.map Prod.fst ++ q.1), q.2) from
        ⟨[], nilS, r0, HS.out.ew, ⟨⟨HS.out.hn.rd.kept (Nat.le_refl _) (fun _ _ _ => rfl) (fun b hb _ => ⟨hb, fun e => by cases e⟩), HS.out.hd.rd.kept (Nat.le_refl _) (fun _ _ _ => rfl) (fun b hb _ => ⟨hb, fun e => by cases e⟩)⟩, fun _ => rfl, World.ownsRow_nil _ _ _ _, fun p hp => by simp at hp⟩, rfl, by rw [HO3.out]; rfl⟩)
      clear HO2 HS HO3
      go_wp2
      go_loopw [77] (fun t wr => ∃ i : Nat, t = .int .i64 i ∧ i ≤ c ∧ Hid (∃ ps pv r, EW B pb w wr w.heap.size xb s nv dv pv r ∧ Prts wr (xb + 1) nv dv n d pv ps ∧ ps.length = i ∧ O = (partsO (exprO k) (c - i) r).map fun q => (mkE s n d (ps.map Prod.fst ++ q.1), q.2))) (fun t _ => c - (intOf t).toNat)
      case atStart => exact ⟨0, rfl, by omega, R0⟩
      case round =>
        clear R0
        obtain ⟨i, rfl, hi, hr⟩ := hrel
        by_cases hlt : i < c
        · obtain ⟨ps, pv, r, r1, r4, r5, r6⟩ := hr.out
          have hpo : ∀ x, partsO (exprO k) (c - i) x = match paren (exprO k) x with | none => none | some (x, r) => match partsO (exprO k) (c - (i + 1)) r with | none => none | some (l, r2) => some (x :: l, r2) := fun x => by
            rw [show c - i = (c - (i + 1)) + 1 by omega]; rfl
          cases r with
          | nil =>
            have HOX := Lib.hid (show O = none by rw [r6, hpo]; rfl)
            have hnx := next_no B pb wr r1.ps
            have HG := Lib.hid r1.g
            clear hr r1 r4 r5 r6 hok hno hpo
            go_wp2_with fail
            refine hnx.mono ?_
            rintro e w3 ⟨rfl, rfl⟩
            exact ⟨rfl, by rw [HOX.out], HG.out⟩
          | cons t r' =>
            have hnx := next_ok B pb t r' wr (by have := r1.m.1; simp at this; omega) r1.ps
            have J0 := Lib.hid (And.intro r1 (And.intro r4 (And.intro r5 r6)))
            have HPO := Lib.hid (hpo (t :: r'))
            clear hr r1 r4 r5 r6 hpo
            go_wp2_with fail
            refine hnx.mono ?_
            rintro e w3 ⟨rfl, hp3, hg3⟩
            by_cases e1 : t = txt [40]
            · have t1 := word_yes e1
              have J1 := Lib.hid (And.intro (J0.out.1.step hg3 hp3 J0.out.1.m.tail) (Prts.pkept J0.out.2.1 hg3 (by have := J0.out.1.pB; have := J0.out.1.rx; omega)))
              have HPL := Lib.hid (And.intro J0.out.2.2.1 (And.intro J0.out.2.2.2 HPO.out))
              have E1 := Lib.hid e1
              clear e1 hp3 hg3 J0 HPO hnx
              go_upto_region 30 with (go_at_call 90; refine (hok _).mono ?_; rintro e w' ⟨rfl, rfl⟩)
              obtain ⟨q0, q1, q2, q3, q4⟩ := J1.out.1.x.cells
              have q7 : xb ≠ pb := by have := J1.out.1.pB; have := J1.out.1.rx; omega
              refine RP.region_treeP (C := fun w' => ∃ x : SubP pb (xb + 1) w3, w' = x.val) (fun ch ds wz => ch = MalP ∧ ds = [] ∧ OutE B w pb O (.panicked MalP) wz) [0, 1, 2, 3, 4] (OT.seq [5, 6, 7, 8]) 9 (fun ch a wz h => by obtain ⟨rfl, h1, h2⟩ := h; exact ⟨h1, h2⟩) (by kernel_rfl) (by kernel_rfl) (subp_start pb _ w3) ?_
              simp only [pickL, List.getElem?_cons_zero, List.getElem?_cons_succ]
              repeat (go_big_quiet_step (fail))
              refine wpQuiet_nil ?_
              obtain ⟨w5, hw5⟩ : ∃ w5 : World, w5 = { w3 with drawn := w3.drawn + 1 } := ⟨_, rfl⟩
              have hb5 : Below w3.heap.size w3 w5 := by rw [hw5]; exact (Below.refl _ _).drew
              have hx3 : xb + 1 ≤ w3.heap.size := by have := (Array.getElem?_eq_some_iff.1 J1.out.1.x).1; omega
              have q8 : xb < xb + 1 := by omega
              rw [← hw5]
              have EW5 := J1.out.1.keep hb5
              have PR5 := Prts.pkept J1.out.2 (grown_of hb5 (some pb)) (by have := J1.out.1.pB; have := J1.out.1.rx; omega)
              have hx5 : xb + 1 ≤ w5.heap.size := by have := (Array.getElem?_eq_some_iff.1 EW5.x).1; omega
              have hpx : pb < xb + 1 := by have := J1.out.1.pB; have := J1.out.1.rx; omega
              clear q0 q1 q2 q3 q4 q7 q8 hw5
              simp only [RP.treeS, OT.seq, atOp, List.getElem?_cons_zero, List.getElem?_cons_succ]
              refine ⟨subp_low (grown_of hb5 _) hx3, ?_⟩
              refine RP.p_call 63 #[.pointer (some ⟨pb, 0, none⟩), .int .i64 (k : Int)] rfl (by go_simp) ?_
              refine (IH.out B pb r' EW5.m w5 EW5.ps EW5.pw).mono ?_
              rintro e w6 ⟨hres, hg6⟩
              have hgt : w.grownBy w6 (some pb) := grown_then EW5.g hg6
              cases hR : exprO k r' with
              | none =>
                rw [hR] at hres
                have HOX : O = none := by
                  rw [HPL.out.2.1, HPL.out.2.2]
                  simp [paren, E1.out, hR]
                exact .inr ⟨MalP, hres, rfl, rfl, by rw [HOX], hgt⟩
              | some q =>
                obtain ⟨x, r3⟩ := q
                rw [hR] at hres
                obtain ⟨v, rfl, hx6, hp6⟩ := hres
                refine .inl ⟨v, rfl, ?_⟩
                have hgc : w3.grownBy w6 (some pb) := grown_then (grown_of hb5 _) hg6
                refine ⟨subp_low hgc hx3, ?_⟩
                have hm3 := exprO_mod hR EW5.m
                have EW6 := EW5.step hg6 hp6 hm3
                have PR6 := Prts.pkept PR5 hg6 hpx
                obtain ⟨s1, nv1, dv1, pv1, rfl, k1, k2, k3⟩ := RdE.agg _ _ hx6
                refine RP.p_val (.slice (some ⟨w6.heap.size, 0, none⟩) 1 1) (w6.alloc (.cells #[.string s1, nv1, dv1, pv1] 52)) rfl (by go_simp) ?_
                have hal := (Below.refl w6.heap.size w6).alloc (Nat.le_refl _) (.cells #[.string s1, nv1, dv1, pv1] 52)
                have hx6' : xb + 1 ≤ w6.heap.size := Nat.le_trans hx5 hg6.size
                refine ⟨subp_low2 hgc hx3 (hal.mono hx6'), ?_⟩
                obtain ⟨v', w7, a1, a2, a3, a4⟩ := ap_expr w6 50 (xb + 1) pv ps.length _ (.string s1) nv1 dv1 pv1 rfl k1 k2 k3 PR6.2.2.1 (by have := HPL.out.1; omega) hx6'
                refine RP.p_val v' w7 rfl (ap_exec (.tmp 84) (.tmp 89) 50 rfl pv (.slice (some ⟨w6.heap.size, 0, none⟩) 1 1) _ w7 rfl rfl a1) ?_
                have hb7 : Below (xb + 1) w6 w7 := (Below.refl _ _).grown a3 hx6' (fun g e => (World.ownsRow.lt PR6.2.2.1 g e).1)
                have hpg : ∀ g, pv.ownBlock = some g → g < w5.heap.size := fun g e => (World.ownsRow.lt PR5.2.2.1 g e).2
                have PR7 := Prts.push PR6 hx6 hx5 hpg a3 a4 a2
                have EW7 := EW6.low hb7
                refine ⟨subp_low2 hgc hx3 hb7, ?_⟩
                refine RP.p_val (.pointer (some ⟨xb, 3, none⟩)) w7 rfl (by go_simp) ?_
                refine ⟨subp_low2 hgc hx3 hb7, ?_⟩
                obtain ⟨g7, c7, rfl⟩ := own_some PR7.2.2.1 (by simp)
                obtain ⟨z0, z1, z2, z3, z4⟩ := EW7.x.cells
                have f3 := EW7.x.frozen 3
                have EW8 := EW7.set 3 (.slice (some ⟨g7, 0, none⟩) (ps ++ [(x, Value.agg #[.string s1, nv1, dv1, pv1])]).length c7) (EW7.x.set3 _)
                have PR8 := set_grown w7 xb 3 (.slice (some ⟨g7, 0, none⟩) (ps ++ [(x, Value.agg #[.string s1, nv1, dv1, pv1])]).length c7) (fun hg => PR7.pkept hg (by omega))
                obtain ⟨l8, hl8⟩ : ∃ l8, l8 = (ps ++ [(x, Value.agg #[.string s1, nv1, dv1, pv1])]).length := ⟨_, rfl⟩
                have HPA := Lib.hid (show paren (exprO k) (t :: r') = closeO x r3 by
                  simp only [paren, if_pos E1.out, hR]
                  cases r3 <;> rfl)
                rw [← hl8] at EW8 PR8 ⊢
                refine RP.p_skip (w7.setCell ⟨xb, 3, none⟩ (.slice (some ⟨g7, 0, none⟩) l8 c7)) rfl (by go_simp) ?_
                obtain ⟨w8, hw8⟩ : ∃ w8, w8 = w7.setCell ⟨xb, 3, none⟩ (.slice (some ⟨g7, 0, none⟩) l8 c7) := ⟨_, rfl⟩
                rw [← hw8] at EW8 PR8 ⊢
                have J8 := Lib.hid (And.intro EW8 PR8)
                have HL8 := Lib.hid (And.intro hl8 (show (ps ++ [(x, Value.agg #[.string s1, nv1, dv1, pv1])]).length = i + 1 by rw [List.length_append, HPL.out.1]; rfl))
                clear hw8 EW8 PR8 hl8 z0 z1 z2 z3 z4 f3 EW7 PR7 PR6 EW6 EW5 PR5 hb7 hpg a1 a2 a3 a4 hx6 k1 k2 k3 hal hgc hgt hg6 hp6 hm3 hb5 hx3 hx5 hx6' J1 hR
                cases r3 with
                | nil =>
                  have HOX := Lib.hid (show O = none by rw [HPL.out.2.1, HPL.out.2.2, HPA.out]; rfl)
                  have hnx := next_no B pb w8 J8.out.1.ps
                  have HG := Lib.hid J8.out.1.g
                  clear J8 HPA HPL hok hno
                  go_simp
                  go_wp2_with fail
                  refine hnx.mono ?_
                  rintro e w9 ⟨rfl, rfl⟩
                  exact ⟨rfl, by rw [HOX.out], HG.out⟩
                | cons t2 r4 =>
                  have hnx := next_ok B pb t2 r4 w8 (by have := J8.out.1.m.1; simp at this; omega) J8.out.1.ps
                  go_simp
                  go_wp2_with fail
                  refine hnx.mono ?_
                  rintro e w9 ⟨rfl, hp9, hg9⟩
                  by_cases e2 : t2 = txt [41]
                  · have t2' := word_yes e2
                    have R2 := Lib.hid (show ∃ ps pv r, EW B pb w w9 w.heap.size xb s nv dv pv r ∧ Prts w9 (xb + 1) nv dv n d pv ps ∧ ps.length = i + 1 ∧ O = (partsO (exprO k) (c - (i + 1)) r).map fun q => (mkE s n d (ps.map Prod.fst ++ q.1), q.2) from
                      ⟨_, _, r4, J8.out.1.step hg9 hp9 J8.out.1.m.tail, J8.out.2.pkept hg9 hpx, HL8.out.2, by
                        rw [HPL.out.2.1, HPL.out.2.2, HPA.out]
                        simp only [closeO, if_pos e2]
                        cases partsO (exprO k) (c - (i + 1)) r4 with
                        | none => rfl
                        | some p => simp⟩)
                    clear e2 J8 HPA HPL HL8 hp9 hg9 hnx hno
                    go_wp2_with (go_at_call 90; refine (hok _).mono ?_; rintro e w' ⟨rfl, rfl⟩)
                    go_roundw
                    case rel => exact ⟨i + 1, by go_num, by omega, R2⟩
                    case measure => simp [intOf]; omega
                  · have t2' := word_no e2
                    have HOX := Lib.hid (show O = none by rw [HPL.out.2.1, HPL.out.2.2, HPA.out]; simp only [closeO, if_neg e2]; rfl)
                    have HG := Lib.hid (grown_then J8.out.1.g hg9)
                    clear e2 J8 HPA HPL HL8 hp9 hg9 hnx hok
                    go_wp2_with (go_at_call 90; refine (hno _).mono ?_; rintro e w' ⟨rfl, rfl⟩)
                    exact ⟨rfl, by rw [HOX.out], HG.out⟩
            · have t1 := word_no e1
              have HOX := Lib.hid (show O = none by rw [J0.out.2.2.2, HPO.out]; simp [paren, e1])
              have HG := Lib.hid (grown_then J0.out.1.g hg3)
              clear e1 hok J0 HPO hp3 hg3
              go_wp2_with (go_at_call 90; refine (hno _).mono ?_; rintro e w' ⟨rfl, rfl⟩)
              exact ⟨rfl, by rw [HOX.out], HG.out⟩
        · obtain rfl : i = c := by omega
          obtain ⟨ps, pv, r, r1, r4, r5, r6⟩ := hr.out
          have hO : O = some (mkE s n d (ps.map Prod.fst), r) := by rw [r6, Nat.sub_self]; simp [partsO]
          have hE : ∀ w', (∀ b, w.heap.size < b → b < wr.heap.size → w'.heap[b]? = wr.heap[b]?) → wr.heap.size ≤ w'.heap.size → RdE w' (fun b => w.heap.size ≤ b) (mkE s n d (ps.map Prod.fst)) (.agg #[.string s, nv, dv, pv]) := fun w' hk hs =>
            Prts.rd r4 (by omega) hrx (s := s) hk hs
          obtain ⟨q0, q1, q2, q3, q4⟩ := r1.x.cells
          obtain ⟨p0, p1, p2, p3, p4⟩ := r1.r.cells
          have f0 := r1.r.frozen 0
          have f1 := r1.r.frozen 1
          have f2 := r1.r.frozen 2
          have f3 := r1.r.frozen 3
          have HP4 := Lib.hid (r1.r.put s nv dv pv)
          have hgr := setE_grown wr w.heap.size (.string s) nv dv pv
          have HF := Lib.hid (show OutE B w pb O (.returned (.agg #[.string s, nv, dv, pv])) (setE wr w.heap.size (.string s) nv dv pv) by
            have hbl : Below w.heap.size wr (setE wr w.heap.size (.string s) nv dv pv) := (Below.refl _ wr).grown hgr (by omega) (fun g e => by cases e; omega)
            refine ⟨?_, grown_low r1.g hbl⟩
            rw [hO]
            exact ⟨_, rfl, hE _ (fun b h1 h2 => hgr.block b h2 (fun e => by cases e; omega)) hgr.size, r1.ps.other (hbl.mono (by omega))⟩)
          obtain ⟨A1, l1, c1, A2, l2, c2, A3, l3, c3, rfl, rfl, rfl⟩ := Prts.one r4
          clear hr r1 r4 r5 r6 hO hE hgr
          go_wp2
          refine bodyPost_ret (v := .agg #[.string s, .slice A1 l1 c1, .slice A2 l2 c2, .slice A3 l3 c3]) (ret_expr rfl rfl HP4.out) rfl ?_
          exact HF.out
end Go.Proofs.YtlinldbbhdpgcaaGreatDoor
/-
  THE PROGRAM's PARSER: parse.
-/
namespace Go.Proofs.YtlinldbbhdpgcaaGreatDoor
open Go.RowKit
/-- The deferred closure behind a call that returns: it turns nothing. -/
theorem catch_idle (p q : Addr) (w : World) :
    CallsD Tryz.prog 61 #[.pointer (some p), .pointer (some q)] .returning w fun e u' w' => e = .returned (.tuple #[]) ∧ u' = .returning ∧ w' = w := by
  refine callsD_of_wpS Tryz.func61 rfl fun c₀ cs hu => ?_
  apply wpS_seq
  apply wpS_region
  simp [wpOpsS, go_sem, recoverD, hu, Tryz.ntmps61, Exit.thenS]
  apply wpS_seq
  apply wpS_region
  simp [wpOpsS, go_sem, Exit.thenS]
  refine wpS_cond (t := false) (by simp [Act.eval, Array.replicate]) ?_
  simp only [Bool.false_eq_true, if_false]
  refine wpS_of_wp (wp_skip ?_)
  cases c₀
  simp_all [bodyPostS, results, Tryz.results61]
def MalR : List PanicEntry := [{ v := .iface 92 (.agg #[]), recovered := true }]
set_option maxRecDepth 100000 in
/-- The deferred closure behind a call that panicked with what the parser panics with. -/
theorem catch_pan (xb ob : Nat) (w : World) (s : ByteArray) (nv dv pv : Value) (b : Bool) (hx : EBox w xb s nv dv pv) (ho : w.cell? ⟨ob, 0, none⟩ = some (.bool b)) (hf : w.frozen? ⟨ob, 0, none⟩ = false) (hne : xb ≠ ob) :
    CallsD Tryz.prog 61 #[.pointer (some ⟨xb, 0, none⟩), .pointer (some ⟨ob, 0, none⟩)] (.panicking MalP) w fun e u' w' => e = .returned (.tuple #[]) ∧ u' = .panicking MalR ∧ ∃ g, w' = ((setE w xb (.string ⟨#[]⟩) nilS nilS nilS).setCell ⟨ob, 0, none⟩ (.bool false)).alloc g := by
  refine callsD_of_wpS Tryz.func61 rfl fun c₀ cs hu => ?_
  apply wpS_seq
  apply wpS_region
  simp [wpOpsS, go_sem, recoverD, hu, Tryz.ntmps61, Exit.thenS, MalP]
  apply wpS_seq
  apply wpS_region
  simp [wpOpsS, go_sem, Exit.thenS]
  refine wpS_cond (t := true) (by simp [Act.eval, Array.replicate]) ?_
  simp only [if_true]
  refine wpS_of_wp ?_
  obtain ⟨x0, x1, x2, x3, x4⟩ := hx.cells
  have g0 := hx.frozen 0
  have g1 := hx.frozen 1
  have g2 := hx.frozen 2
  have g3 := hx.frozen 3
  have hne' : ob ≠ xb := fun e => hne e.symm
  have ho4 : ob < w.heap.size := by
    rcases Nat.lt_or_ge ob w.heap.size with h | h
    · exact h
    · rw [World.cell?, Array.getElem?_eq_none h] at ho; cases ho
  have HU := Lib.hid hu
  clear hx hu
  have hta : ∀ w : World, (Instr.typeAssert (.iface 92 (.agg #[])) 20 92 true).run Tryz.prog w = .ok (.tuple #[.agg #[], .bool true]) w := fun _ => by kernel_rfl
  simp only [Array.replicate]
  go_wp2
  have hu := HU.out
  clear HU
  refine ⟨rfl, .panicking MalR, rfl, .tuple #[], by simp [results, Tryz.results61], rfl, rfl, .cells #[] 92, rfl⟩
theorem mod_words {s : ByteArray} (h : s.size ≤ 10000) : Mod (wordsS s) := by
  refine ⟨?_, fun x hx => Nat.le_trans (split_size _ _ s x hx) h⟩
  have h1 : (wordsS s).length = Lib.countB s ⟨#[32]⟩ + 1 := Lib.splitB_all ⟨#[32]⟩ (by decide) 0 _ s rfl
  have h2 : Lib.countB s ⟨#[32]⟩ ≤ s.size := Lib.countB_le ⟨#[32]⟩ (by decide) _ s (Nat.le_refl _)
  omega
theorem ret_expr2 {w : World} {bx ob : Nat} {s : ByteArray} {nv dv pv : Value} {b : Bool} {tmps : Array Value} {fn : Func} {p q : Tmp} (h : fn.results = #[.cell p 52, .cell q 4]) (hp : tmps.getD p undef = .pointer (some ⟨bx, 0, none⟩)) (hq : tmps.getD q undef = .pointer (some ⟨ob, 0, none⟩)) (hg : EBox w bx s nv dv pv) (hb : w.heap[ob]? = some (.cells #[.bool b] 4 (0, 0))) : (results fn tmps).run Tryz.prog w = .ok (.tuple #[.agg #[.string s, nv, dv, pv], .bool b]) w := by
  have hp' : tmps[p]?.getD undef = .pointer (some ⟨bx, 0, none⟩) := by simpa using hp
  have hq' : tmps[q]?.getD undef = .pointer (some ⟨ob, 0, none⟩) := by simpa using hq
  have hc : w.cell? ⟨ob, 0, none⟩ = some (.bool b) := (cell_of_row w ob 0 _ _ (0, 0) hb).trans rfl
  have hl : (loadVar 4 ⟨ob, 0, none⟩).run Tryz.prog w = .ok (.bool b) w := by
    simp [go_sem, hc]
  simp [results, h, hp', hq', asAddr, run_loadVar_row w bx 52 52 _ (0, 0) _ hg Tryz.underlying52 rfl (exprSz (.string s) nv dv pv), hl]
theorem fin_kept (w5 : World) (xb ob b : Nat) (s nv dv pv u : Value) (h1 : b ≠ xb) (h2 : b ≠ ob) (hlt : b < w5.heap.size) : ((setE w5 xb s nv dv pv).setCell ⟨ob, 0, none⟩ u).drew.heap[b]? = w5.heap[b]? := by
  have e1 : ∀ w : World, w.drew.heap = w.heap := fun _ => rfl
  have e2 := (setE_grown w5 xb s nv dv pv).block b hlt (fun e => h1 (by cases e; rfl))
  generalize setE w5 xb s nv dv pv = w6 at e2 ⊢
  rw [e1, ← e2]
  exact Below.heap_setCell w6 ⟨ob, 0, none⟩ u b h2
theorem fin_size (w5 : World) (xb ob : Nat) (s nv dv pv u : Value) : w5.heap.size ≤ ((setE w5 xb s nv dv pv).setCell ⟨ob, 0, none⟩ u).drew.heap.size := by simp [World.drew, World.setCell, setE]
/-- What parsing a text gives. -/
def OutT (w : World) (o : Option (ExprD × List ByteArray)) (e : Ending) (w' : World) : Prop := (∃ v b, e = .returned (.tuple #[v, .bool b]) ∧ (match o with
  | some (x, []) => b = true ∧ RdE w' (fun b => w.heap.size ≤ b) x v
  | _ => b = false ∧ ∃ s A1 l1 c1 A2 l2 c2 A3 l3 c3, v = .agg #[.string s, .slice A1 l1 c1, .slice A2 l2 c2, .slice A3 l3 c3])) ∧ Below w.heap.size w w'
set_option maxRecDepth 100000 in
set_option maxHeartbeats 1000000 in
theorem parse_any (s : ByteArray) (hs : s.size ≤ 10000) (w : World) (hw : LibOK w) :
    Calls Tryz.prog 24 #[.string s] w (OutT w (exprO 12 (wordsS s))) := by
  have hmf : ∀ (fn : Fn) (first cap : Array Value) (w : World), (Instr.makeFunc fn first cap).run Tryz.prog w = .ok (.func fn first cap) w := fun _ _ _ _ => rfl
  obtain ⟨O, hO⟩ : ∃ O, O = exprO 12 (wordsS s) := ⟨_, rfl⟩
  rw [← hO]
  go_enter_defers Tryz.func24, Tryz.ntmps24
  go_wp2_with fail
  have HX0 : EBox ((w.alloc (.cells #[.string ⟨#[]⟩, .slice none 0 0, .slice none 0 0, .slice none 0 0] 52)).alloc (.cells #[.bool false] 4)) w.heap.size ⟨#[]⟩ nilS nilS nilS := (heap_alloc_old _ _ (by simp)).trans (heap_alloc_new w _)
  have HO0 : ((w.alloc (.cells #[.string ⟨#[]⟩, .slice none 0 0, .slice none 0 0, .slice none 0 0] 52)).alloc (.cells #[.bool false] 4)).heap[w.heap.size + 1]? = some (.cells #[.bool false] 4 (0, 0)) := by
    have := heap_alloc_new (w.alloc (.cells #[.string ⟨#[]⟩, .slice none 0 0, .slice none 0 0, .slice none 0 0] 52)) (.cells #[.bool false] 4)
    simpa using this
  have HB0 : Below w.heap.size w ((w.alloc (.cells #[.string ⟨#[]⟩, .slice none 0 0, .slice none 0 0, .slice none 0 0] 52)).alloc (.cells #[.bool false] 4)) := (by repeat' (first | (with_reducible exact Below.refl _ _) | (with_reducible assumption) | (with_reducible refine below_drewN ?_ _) | (with_reducible refine below_step (by assumption) ?_ ?_) | (with_reducible refine Below.alloc ?_ ?_ _) | (with_reducible refine Below.setCell ?_ ?_ _) | (with_reducible refine Below.drew ?_) | go_size | (exact Below.size (by assumption)) | (refine Nat.le_trans (Below.size (by assumption)) ?_)))
  have HZ0 : ((w.alloc (.cells #[.string ⟨#[]⟩, .slice none 0 0, .slice none 0 0, .slice none 0 0] 52)).alloc (.cells #[.bool false] 4)).heap.size = w.heap.size + 2 := by simp
  obtain ⟨W1, hW1⟩ : ∃ W1, W1 = (w.alloc (.cells #[.string ⟨#[]⟩, .slice none 0 0, .slice none 0 0, .slice none 0 0] 52)).alloc (.cells #[.bool false] 4) := ⟨_, rfl⟩
  rw [← hW1] at HX0 HO0 HB0 HZ0 ⊢
  have hl1 := hw.below HB0
  obtain ⟨m, hmx⟩ := hl1.mx
  have hsp := Tryz.strings_Split s ⟨#[32]⟩ m W1 (by omega) hmx (by decide)
  have J1 := Lib.hid (And.intro HX0 (And.intro HO0 (And.intro HB0 (And.intro hl1 HZ0))))
  have HS := Lib.hid (And.intro (mod_words hs) hO)
  clear HX0 HO0 HB0 HZ0 hl1 hmx hW1 hw hO hs
  refine hsp.mono ?_
  rintro e w2 ⟨rfl, hw2⟩
  have hlen : (wordsS s).length = Lib.countB s ⟨#[32]⟩ + 1 := Lib.splitB_all ⟨#[32]⟩ (by decide) 0 _ s rfl
  have hww : w2.heap[W1.heap.size]? = some (.cells ((wordsS s).map Value.string).toArray 9 (0, 0)) := by rw [hw2]; exact heap_alloc_new W1 _
  have hb2 : Below W1.heap.size W1 w2 := by rw [hw2]; exact (Below.refl _ _).alloc (Nat.le_refl _) _
  have hz2 : w2.heap.size = w.heap.size + 3 := by rw [hw2]; simp [J1.out.2.2.2.2]
  obtain ⟨n, hn⟩ : ∃ n, n = Lib.countB s ⟨#[32]⟩ + 1 := ⟨_, rfl⟩
  rw [← hn] at hlen ⊢
  have hn6 : n ≤ 1000000 := by have := HS.out.1.1; omega
  rw [J1.out.2.2.2.2] at hww ⊢
  have J2 := Lib.hid (show EBox w2 w.heap.size ⟨#[]⟩ nilS nilS nilS ∧ w2.heap[w.heap.size + 1]? = some (.cells #[.bool false] 4 (0, 0)) ∧ Below w.heap.size w w2 ∧ LibOK w2 ∧ w2.heap[w.heap.size + 2]? = some (.cells ((wordsS s).map Value.string).toArray 9 (0, 0)) ∧ w2.heap.size = w.heap.size + 3 from
    ⟨(hb2.block _ (by have := J1.out.2.2.2.2; omega)).trans J1.out.1, (hb2.block _ (by have := J1.out.2.2.2.2; omega)).trans J1.out.2.1, J1.out.2.2.1.trans (hb2.mono (by have := J1.out.2.2.2.2; omega)), J1.out.2.2.2.1.below hb2, hww, hz2⟩)
  have HLEN := Lib.hid hlen
  clear hsp hw2 hww hb2 hz2 J1 W1 m hn hlen
  go_wp2_with fail
  have hpbx : (w2.alloc (.cells #[.slice (some ⟨w.heap.size + 2, 0, none⟩) n n] 96)).heap[w2.heap.size]? = some (.cells #[.slice (some ⟨w.heap.size + 2, 0, none⟩) n n] 96 (0, 0)) := heap_alloc_new w2 _
  have hb3 : Below w2.heap.size w2 (w2.alloc (.cells #[.slice (some ⟨w.heap.size + 2, 0, none⟩) n n] 96)) := (Below.refl _ _).alloc (Nat.le_refl _) _
  have hz3 : (w2.alloc (.cells #[.slice (some ⟨w.heap.size + 2, 0, none⟩) n n] 96)).heap.size = w.heap.size + 4 := by simp [J2.out.2.2.2.2.2]
  obtain ⟨W3, hW3⟩ : ∃ W3, W3 = w2.alloc (.cells #[.slice (some ⟨w.heap.size + 2, 0, none⟩) n n] 96) := ⟨_, rfl⟩
  rw [← hW3] at hpbx hb3 hz3 ⊢
  rw [J2.out.2.2.2.2.2] at hpbx ⊢
  have hz2 := J2.out.2.2.2.2.2
  have hPS : PS (w.heap.size + 4) W3 (w.heap.size + 3) (wordsS s) := by
    refine ⟨some ⟨w.heap.size + 2, 0, none⟩, n, ?_, by rw [HLEN.out]; exact Nat.le_refl _, frozen_of_row W3 (w.heap.size + 3) 0 _ _ hpbx, ⟨by omega, by omega⟩, fun _ => ⟨w.heap.size + 2, 0, rfl, by omega, fun i hi => ?_⟩, fun b o e => by cases e; omega⟩
    · rw [HLEN.out]; exact (cell_of_row W3 (w.heap.size + 3) 0 _ _ (0, 0) hpbx).trans rfl
    · rw [Nat.zero_add, cell_of_row W3 (w.heap.size + 2) i _ _ (0, 0) ((hb3.block _ (by omega)).trans J2.out.2.2.2.2.1)]
      show ((wordsS s).map Value.string).toArray[i]? = _
      simp [hi]
  have hPW : PW (w.heap.size + 3) W3 := ⟨⟨w2, J2.out.2.2.2.1, hb3, by omega⟩⟩
  have hex := expr_any 12 (by decide) (w.heap.size + 4) (w.heap.size + 3) (wordsS s) HS.out.1 W3 hPS hPW
  have hx3 : EBox W3 w.heap.size ⟨#[]⟩ nilS nilS nilS := (hb3.block _ (by omega)).trans J2.out.1
  have ho3 : W3.heap[w.heap.size + 1]? = some (.cells #[.bool false] 4 (0, 0)) := (hb3.block _ (by omega)).trans J2.out.2.1
  have hbb : Below w.heap.size w W3 := J2.out.2.2.1.trans (hb3.mono (by omega))
  rw [← HS.out.2] at hex
  refine Calls.mono (show Calls _ _ _ _ _ from hex) ?_
  rintro e w4 ⟨hres, hg4⟩
  have hx4 := hx3.keepG hg4 (by omega)
  have ho4 : w4.heap[w.heap.size + 1]? = some (.cells #[.bool false] 4 (0, 0)) := (hg4.block _ (by omega) (fun e => by simp at e)).trans ho3
  have hb4 : Below w.heap.size w w4 := hbb.grown hg4 hbb.size (fun g e => by cases e; omega)
  have hz4 : w.heap.size + 4 ≤ w4.heap.size := by have := hg4.size; omega
  clear hex hPS hPW hx3 ho3 hbb hg4 hpbx hb3 hW3 J2 HLEN
  obtain ⟨x0, x1, x2, x3, x4⟩ := hx4.cells
  have g0 := hx4.frozen 0
  have g1 := hx4.frozen 1
  have g2 := hx4.frozen 2
  have g3 := hx4.frozen 3
  have oc : w4.cell? ⟨w.heap.size + 1, 0, none⟩ = some (.bool false) := (cell_of_row w4 (w.heap.size + 1) 0 _ _ (0, 0) ho4).trans rfl
  have og : w4.frozen? ⟨w.heap.size + 1, 0, none⟩ = false := frozen_of_row w4 (w.heap.size + 1) 0 _ _ ho4
  have HX4 := Lib.hid (And.intro hx4 (And.intro ho4 hb4))
  cases O with
  | none =>
    have hres : e = .panicked MalP := hres
    subst hres
    clear hx4 ho4 hb4
    show Leaves _ _ _ _ _ _ _
    refine leaves_cons (f := 61) (args := #[.pointer (some ⟨w.heap.size, 0, none⟩), .pointer (some ⟨w.heap.size + 1, 0, none⟩)]) (by simp) (by simp [go_sem]) ?_
    refine (catch_pan w.heap.size (w.heap.size + 1) w4 _ _ _ _ _ HX4.out.1 oc og (by omega)).mono ?_
    rintro e u' w'' ⟨rfl, rfl, g, rfl⟩
    have he : EBox (((setE w4 w.heap.size (.string ⟨#[]⟩) nilS nilS nilS).setCell ⟨w.heap.size + 1, 0, none⟩ (.bool false)).alloc g) w.heap.size ⟨#[]⟩ nilS nilS nilS := by
      have h1 := EBox.other (w := setE w4 w.heap.size (.string ⟨#[]⟩) nilS nilS nilS) (HX4.out.1.put ⟨#[]⟩ nilS nilS nilS) (p := ⟨w.heap.size + 1, 0, none⟩) (by show w.heap.size ≠ w.heap.size + 1; omega) (.bool false)
      exact (heap_alloc_old _ _ (Array.getElem?_eq_some_iff.1 h1).1).trans h1
    have ho : (((setE w4 w.heap.size (.string ⟨#[]⟩) nilS nilS nilS).setCell ⟨w.heap.size + 1, 0, none⟩ (.bool false)).alloc g).heap[w.heap.size + 1]? = some (.cells #[.bool false] 4 (0, 0)) := by
      have h1 := ((setE_grown w4 w.heap.size (.string ⟨#[]⟩) nilS nilS nilS).block (w.heap.size + 1) (by omega) (fun e => by simp at e)).trans HX4.out.2.1
      obtain ⟨h2, h3⟩ := Array.getElem?_eq_some_iff.1 h1
      refine (heap_alloc_old _ _ (by simpa [World.setCell] using h2)).trans ?_
      simp [World.setCell, h2, Array.getElem_modify, h3]
    have hbel : Below w.heap.size w (((setE w4 w.heap.size (.string ⟨#[]⟩) nilS nilS nilS).setCell ⟨w.heap.size + 1, 0, none⟩ (.bool false)).alloc g) :=
      ((HX4.out.2.2.grown (setE_grown w4 w.heap.size (.string ⟨#[]⟩) nilS nilS nilS) HX4.out.2.2.size (fun g e => by cases e; omega)).setCell (by show w.heap.size ≤ w.heap.size + 1; omega) _).alloc (by simp [setE, World.setCell]; omega) _
    exact ⟨_, ret_expr2 rfl rfl rfl he ho, ⟨_, _, rfl, rfl, _, _, _, _, _, _, _, _, _, _, rfl⟩, hbel⟩
  | some p =>
    have hres2 : ∃ v, e = .returned v ∧ RdE w4 (fun b => W3.heap.size ≤ b) p.1 v ∧ PS (w.heap.size + 4) w4 (w.heap.size + 3) p.2 := hres
    clear hres
    obtain ⟨x, r⟩ := p
    obtain ⟨v, rfl, hrd, hps⟩ := hres2
    simp only at hrd hps
    obtain ⟨sx, A1, l1, c1, A2, l2, c2, A3, l3, c3, rfl⟩ := hrd.agg2
    obtain ⟨AP, cp, p1, p2, -⟩ := hps
    obtain ⟨lr, hlr⟩ : ∃ lr, lr = r.length := ⟨_, rfl⟩
    rw [← hlr] at p1
    have HR := Lib.hid (And.intro hrd hlr)
    have hne : w.heap.size + 3 ≠ w.heap.size := by omega
    have hne2 : w.heap.size + 1 ≠ w.heap.size := by omega
    clear hx4 ho4 hb4 hrd p2 hlr hz2
    go_wp2
    have hgr := setE_grown w4 w.heap.size (.string sx) (.slice A1 l1 c1) (.slice A2 l2 c2) (.slice A3 l3 c3)
    have hx5 := HX4.out.1.put sx (.slice A1 l1 c1) (.slice A2 l2 c2) (.slice A3 l3 c3)
    obtain ⟨w5, hw5⟩ : ∃ w5, w5 = setE w4 w.heap.size (.string sx) (.slice A1 l1 c1) (.slice A2 l2 c2) (.slice A3 l3 c3) := ⟨_, rfl⟩
    rw [← hw5] at hgr hx5
    show Code.wp _ _ _ _ (setE w4 w.heap.size (.string sx) (.slice A1 l1 c1) (.slice A2 l2 c2) (.slice A3 l3 c3))
    rw [← hw5]
    have ho5 : w5.heap[w.heap.size + 1]? = some (.cells #[.bool false] 4 (0, 0)) := (hgr.block (w.heap.size + 1) (by omega) (fun e => by simp at e)).trans HX4.out.2.1
    have hp5 : w5.cell? ⟨w.heap.size + 3, 0, none⟩ = some (.slice AP lr cp) := (World.cell?_of_block (a := ⟨w.heap.size + 3, 0, none⟩) (hgr.block (w.heap.size + 3) (by omega) (fun e => by simp at e))).trans p1
    have hb5 : Below w.heap.size w w5 := HX4.out.2.2.grown hgr HX4.out.2.2.size (fun g e => by cases e; omega)
    have hr5 : RdE w5 (fun b => w.heap.size + 4 ≤ b) x (.agg #[.string sx, .slice A1 l1 c1, .slice A2 l2 c2, .slice A3 l3 c3]) := RdE.kept hgr.size (fun b hb hlt => hgr.block b hlt (fun e => by cases e; have := hb; omega)) (fun b hb _ => by have := hb; omega) _ _ HR.out.1
    have hz5 : w.heap.size + 4 ≤ w5.heap.size := by have := hgr.size; omega
    have H5 := Lib.hid (And.intro hx5 (And.intro ho5 (And.intro hb5 (And.intro hr5 HR.out.2))))
    clear x0 x1 x2 x3 x4 g0 g1 g2 g3 oc og p1 HX4 hw5 hgr HR hr5 hb5 hz4 hz3
    obtain ⟨x0, x1, x2, x3, x4⟩ := hx5.cells
    have g0 := hx5.frozen 0
    have g1 := hx5.frozen 1
    have g2 := hx5.frozen 2
    have g3 := hx5.frozen 3
    have oc : w5.cell? ⟨w.heap.size + 1, 0, none⟩ = some (.bool false) := (cell_of_row w5 (w.heap.size + 1) 0 _ _ (0, 0) ho5).trans rfl
    have og : w5.frozen? ⟨w.heap.size + 1, 0, none⟩ = false := frozen_of_row w5 (w.heap.size + 1) 0 _ _ ho5
    clear hx5 ho5
    go_region
    have he0 := H5.out.1.put sx (.slice A1 l1 c1) (.slice A2 l2 c2) (.slice A3 l3 c3)
    have hgr := setE_grown w5 w.heap.size (.string sx) (.slice A1 l1 c1) (.slice A2 l2 c2) (.slice A3 l3 c3)
    obtain ⟨tb, htb⟩ : ∃ tb, tb = ((lr : Int) == 0) := ⟨_, rfl⟩
    have h1 := (hgr.block (w.heap.size + 1) (by omega) (fun e => by simp at e)).trans H5.out.2.1
    have he : EBox (((setE w5 w.heap.size (.string sx) (.slice A1 l1 c1) (.slice A2 l2 c2) (.slice A3 l3 c3)).setCell ⟨w.heap.size + 1, 0, none⟩ (.bool tb)).drew) w.heap.size sx (.slice A1 l1 c1) (.slice A2 l2 c2) (.slice A3 l3 c3) :=
      EBox.other (w := setE w5 w.heap.size (.string sx) (.slice A1 l1 c1) (.slice A2 l2 c2) (.slice A3 l3 c3)) he0 (p := ⟨w.heap.size + 1, 0, none⟩) (by show w.heap.size ≠ w.heap.size + 1; omega) (.bool tb)
    have ho : (((setE w5 w.heap.size (.string sx) (.slice A1 l1 c1) (.slice A2 l2 c2) (.slice A3 l3 c3)).setCell ⟨w.heap.size + 1, 0, none⟩ (.bool tb)).drew).heap[w.heap.size + 1]? = some (.cells #[.bool tb] 4 (0, 0)) := by
      obtain ⟨h2, h3⟩ := Array.getElem?_eq_some_iff.1 h1
      simp [World.drew, World.setCell, h2, Array.getElem_modify, h3]
    have hbel0 : Below w.heap.size w5 (((setE w5 w.heap.size (.string sx) (.slice A1 l1 c1) (.slice A2 l2 c2) (.slice A3 l3 c3)).setCell ⟨w.heap.size + 1, 0, none⟩ (.bool tb)).drew) :=
      (((Below.refl w.heap.size w5).grown hgr (by omega) (fun g e => by cases e; omega)).setCell (by show w.heap.size ≤ w.heap.size + 1; omega) _).drew
    have hrd : RdE (((setE w5 w.heap.size (.string sx) (.slice A1 l1 c1) (.slice A2 l2 c2) (.slice A3 l3 c3)).setCell ⟨w.heap.size + 1, 0, none⟩ (.bool tb)).drew) (fun b => w.heap.size ≤ b) x (.agg #[.string sx, .slice A1 l1 c1, .slice A2 l2 c2, .slice A3 l3 c3]) := by
      exact RdE.kept (fin_size _ _ _ _ _ _ _ _) (fun b hb hlt => fin_kept _ _ _ _ _ _ _ _ _ (by have : w.heap.size + 4 ≤ b := hb; omega) (by have : w.heap.size + 4 ≤ b := hb; omega) hlt) (fun b hb _ => by have : w.heap.size + 4 ≤ b := hb; omega) _ _ H5.out.2.2.2.1
    obtain ⟨wf, hwf⟩ : ∃ wf, wf = ((setE w5 w.heap.size (.string sx) (.slice A1 l1 c1) (.slice A2 l2 c2) (.slice A3 l3 c3)).setCell ⟨w.heap.size + 1, 0, none⟩ (.bool tb)).drew := ⟨_, rfl⟩
    rw [← hwf] at he ho hbel0 hrd
    have HF := Lib.hid (show OutT w (some (x, r)) (.returned (.tuple #[.agg #[.string sx, .slice A1 l1 c1, .slice A2 l2 c2, .slice A3 l3 c3], .bool tb])) wf by
      refine ⟨⟨_, tb, rfl, ?_⟩, H5.out.2.2.1.trans hbel0⟩
      cases r with
      | nil => exact ⟨by rw [htb, H5.out.2.2.2.2]; rfl, hrd⟩
      | cons t r => exact ⟨by rw [htb, H5.out.2.2.2.2, beq_eq_false_iff_ne]; simp; omega, _, _, _, _, _, _, _, _, _, _, rfl⟩)
    have HR2 := Lib.hid (And.intro he ho)
    have HWF := Lib.hid hwf
    rw [← htb]
    clear he ho hrd hbel0 h1 hgr he0 htb H5 HS hwf
    go_wp2
    show Leaves _ _ _ _ _ _ (((setE w5 w.heap.size (.string sx) (.slice A1 l1 c1) (.slice A2 l2 c2) (.slice A3 l3 c3)).setCell ⟨w.heap.size + 1, 0, none⟩ (.bool tb)).drew)
    rw [← HWF.out]
    clear HWF
    refine leaves_cons (f := 61) (args := #[.pointer (some ⟨w.heap.size, 0, none⟩), .pointer (some ⟨w.heap.size + 1, 0, none⟩)]) (by simp) (by simp [go_sem]) ?_
    refine (catch_idle _ _ _).mono ?_
    rintro e u' w'' ⟨rfl, rfl, rfl⟩
    exact ⟨_, ret_expr2 rfl rfl rfl HR2.out.1 HR2.out.2, HF.out⟩
end Go.Proofs.YtlinldbbhdpgcaaGreatDoor
/-
  THE PROGRAM's PARSER: the value of a leaf; Parse.
-/
namespace Go.Proofs.YtlinldbbhdpgcaaGreatDoor
open Go.RowKit
attribute [local go_sem] sub_cell sub_frozen
attribute [local irreducible] RP.plainUpon RP.stepC
theorem RdL.isL {w : World} {N : Nat → Prop} {v : Value} {n : List Int} (h : RdL w N v n) : ∃ A c, v = .slice A n.length c ∧ IsL w A n.length n := by
  obtain ⟨A, c, rfl, h2⟩ := h
  refine ⟨A, c, rfl, rfl, fun hp => ?_⟩
  obtain ⟨b, o, rfl, hb, -, hc⟩ := h2 hp
  exact ⟨b, o, rfl, hb, fun i hi => hc i hi⟩
set_option maxRecDepth 100000 in
set_option maxHeartbeats 2000000 in
theorem value_bricks (n0 n1 n2 : Int) (d : List Int) (h0 : 0 < n0) (h0' : n0 ≤ 100000) (h2 : -100000 ≤ n2) (h2' : n2 ≤ 100000) (hdl : d.length ≤ 1000000) (a1 b1 c1 : Int) (hLO : LeastOf ⟨n0, n2 % n0, n1, d⟩ a1 b1 c1) (A1 : Option Addr) (k1 : Nat) (A2 : Option Addr) (k2 : Nat) (w : World) (hn : IsL w A1 3 [n0, n1, n2]) (hd : IsL w A2 d.length d) :
    Calls Tryz.prog 25 #[.agg #[.string (txt [98, 114, 105, 99, 107, 115]), .slice A1 3 k1, .slice A2 d.length k2, .slice none 0 0]] w (OutP w (leastO ⟨n0, n2 % n0, n1, d⟩ a1 b1 c1) (.int .i64 (valP ⟨n0, n2 % n0, n1, d⟩))) := by
  obtain ⟨l, hl⟩ : ∃ l, l = d.length := ⟨_, rfl⟩
  have hd' := hd
  rw [← hl] at hd' ⊢
  obtain ⟨s, hs⟩ : ∃ s, s = txt [98, 114, 105, 99, 107, 115] := ⟨_, rfl⟩
  rw [← hs]
  have t1 : (s.toList == [103, 114, 105, 100]) = false := word_no (by rw [hs]; decide)
  have t2 : (s.toList == [98, 114, 105, 99, 107, 115]) = true := word_yes hs
  obtain ⟨bn, on, rfl, hbn, hcn⟩ := hn.2 (by omega)
  have y0 := hcn 0 (by omega)
  have y1 := hcn 1 (by omega)
  have y2 := hcn 2 (by omega)
  simp only [List.getD_cons_zero, List.getD_cons_succ, Nat.add_zero] at y0 y1 y2
  obtain ⟨P, hP⟩ : ∃ P : PatD, P = ⟨n0, n2 % n0, n1, d⟩ := ⟨_, rfl⟩
  rw [← hP] at hLO ⊢
  have HLE := Lib.hid (fun (A : Option Addr) (cap : Nat) (w : World) (hi : PatIn w P A) => least_any P (by rw [hP]; exact hdl) a1 b1 c1 hLO A cap w hi)
  have HPI := Lib.hid (And.intro hP (And.intro hl hd))
  have HMO := Lib.hid (pmod_any n2 n0 h0 (by omega) (by omega) (by omega))
  clear hd hd' hs hn hcn hLO hP hl
  go_enter Tryz.func25, Tryz.ntmps25
  go_wp2
  have hx0 : EBox ((w.alloc (.cells #[.string s, .slice (some ⟨bn, on, none⟩) 3 k1, .slice A2 l k2, .slice none 0 0] 52)).alloc (.cells #[.int .i64 0, .int .i64 0, .int .i64 0, .slice none 0 0] 24)) w.heap.size s (.slice (some ⟨bn, on, none⟩) 3 k1) (.slice A2 l k2) (.slice none 0 0) := (heap_alloc_old _ _ (by simp)).trans (heap_alloc_new w _)
  have hr0 : PBox ((w.alloc (.cells #[.string s, .slice (some ⟨bn, on, none⟩) 3 k1, .slice A2 l k2, .slice none 0 0] 52)).alloc (.cells #[.int .i64 0, .int .i64 0, .int .i64 0, .slice none 0 0] 24)) (w.heap.size + 1) 0 0 0 (.slice none 0 0) := by
    have := heap_alloc_new (w.alloc (.cells #[.string s, .slice (some ⟨bn, on, none⟩) 3 k1, .slice A2 l k2, .slice none 0 0] 52)) (.cells #[.int .i64 0, .int .i64 0, .int .i64 0, .slice none 0 0] 24)
    unfold PBox
    simpa using this
  have hb0 : Below w.heap.size w ((w.alloc (.cells #[.string s, .slice (some ⟨bn, on, none⟩) 3 k1, .slice A2 l k2, .slice none 0 0] 52)).alloc (.cells #[.int .i64 0, .int .i64 0, .int .i64 0, .slice none 0 0] 24)) := (by repeat' (first | (with_reducible exact Below.refl _ _) | (with_reducible assumption) | (with_reducible refine below_drewN ?_ _) | (with_reducible refine below_step (by assumption) ?_ ?_) | (with_reducible refine Below.alloc ?_ ?_ _) | (with_reducible refine Below.setCell ?_ ?_ _) | (with_reducible refine Below.drew ?_) | go_size | (exact Below.size (by assumption)) | (refine Nat.le_trans (Below.size (by assumption)) ?_)))
  obtain ⟨W, hW⟩ : ∃ W, W = (w.alloc (.cells #[.string s, .slice (some ⟨bn, on, none⟩) 3 k1, .slice A2 l k2, .slice none 0 0] 52)).alloc (.cells #[.int .i64 0, .int .i64 0, .int .i64 0, .slice none 0 0] 24) := ⟨_, rfl⟩
  rw [← hW] at hx0 hr0 hb0 ⊢
  have H0 := Lib.hid (And.intro hx0 (And.intro hr0 hb0))
  have y0 := (hb0.cell (p := ⟨bn, on, none⟩) hbn).trans y0
  have y1 := (hb0.cell (p := ⟨bn, on + 1, none⟩) hbn).trans y1
  have y2 := (hb0.cell (p := ⟨bn, on + 2, none⟩) hbn).trans y2
  obtain ⟨q0, q1, q2, q3, q4⟩ := hx0.cells
  have hbn2 : bn < w.heap.size + 1 := by omega
  have hq5 : w.heap.size < w.heap.size + 1 := by omega
  clear hx0 hr0 hb0 hW
  go_loopw [12] (fun t wr => t = .int .i64 0 ∧ wr = W) (fun _ _ => 0)
  case atStart => exact ⟨rfl, rfl⟩
  case round =>
    obtain ⟨rfl, rfl⟩ := hrel
    go_upto_region 14 with fail
    refine RP.region_treeP (C := fun w' => ∃ x : SubW (w.heap.size + 1) wr, w' = x.val) (fun _ _ _ => False) [0, 1, 2, 3, 4, 5, 6, 7, 8, 9, 10, 11, 13, 14, 15, 16, 17, 18] (.one 12 (.one 19 (.one 20 (.read 21 (.one 22 (.one 23 .nil)))))) 24 (fun _ _ _ h => h.elim) (by kernel_rfl) (by kernel_rfl) (sub_start _ wr) ?_
    simp only [pickL, List.getElem?_cons_zero, List.getElem?_cons_succ]
    repeat (go_big_quiet_step (fail))
    refine wpQuiet_nil ?_
    obtain ⟨w5, hw5⟩ : ∃ w5 : World, w5 = { wr with drawn := wr.drawn + 1 } := ⟨_, rfl⟩
    have hb5 : Below wr.heap.size wr w5 := by rw [hw5]; exact (Below.refl _ _).drew
    rw [← hw5]
    have hsz : w.heap.size + 1 < wr.heap.size := (Array.getElem?_eq_some_iff.1 H0.out.2.1).1
    clear q0 q1 q2 q3 q4 y0 y1 y2 hw5
    simp only [RP.treeS, atOp, List.getElem?_cons_zero, List.getElem?_cons_succ]
    refine ⟨sub_of (hb5.mono (by omega)), ?_⟩
    refine RP.p_call 36 #[.int .i64 n2, .int .i64 n0] rfl (by go_simp) ?_
    refine (HMO.out w5).mono ?_
    rintro e w6 ⟨rfl, rfl⟩
    refine .inl ⟨_, rfl, ?_⟩
    refine ⟨sub_of (hb5.mono (by omega)), ?_⟩
    refine RP.p_val (.agg #[.int .i64 n0, .int .i64 (n2 % n0), .int .i64 n1, .slice A2 l k2]) w5 rfl (by go_simp) ?_
    refine ⟨sub_of (hb5.mono (by omega)), ?_⟩
    refine RP.p_call 23 #[.agg #[.int .i64 n0, .int .i64 (n2 % n0), .int .i64 n1, .slice A2 l k2]] rfl (by go_simp) ?_
    have hbw : Below w.heap.size w w5 := H0.out.2.2.trans (hb5.mono H0.out.2.2.size)
    have hpi : PatIn w5 P A2 := by
      rw [HPI.out.1]
      exact IsL.below hbw HPI.out.2.2
    have hle := HLE.out A2 k2 w5 hpi
    rw [HPI.out.1] at hle
    simp only at hle
    rw [← HPI.out.2.1, ← HPI.out.1] at hle
    refine hle.mono ?_
    rintro e w7 ⟨v, rfl, hown, hb7⟩
    refine .inl ⟨_, rfl, ?_⟩
    have hb7' := hb5.trans (hb7.mono hb5.size)
    refine ⟨sub_of (hb7'.mono (by omega)), ?_⟩
    obtain ⟨R, hR⟩ : ∃ R, R = leastO P a1 b1 c1 := ⟨_, rfl⟩
    obtain ⟨E, hE⟩ : ∃ E, E = valP P := ⟨_, rfl⟩
    rw [← hR] at hown ⊢
    rw [← hE]
    have HRE := Lib.hid (And.intro hR hE)
    obtain ⟨A7, k7, rfl, -⟩ := hown.isL
    have hr7 := (H0.out.2.1.keep hb7')
    have HF := Lib.hid (put_row (w := w) hr7 (H0.out.2.2.trans (hb7'.mono (by omega))) (by omega) R A7 k7 (.int .i64 E) hown hbw.size (by have := hb5.size; omega))
    obtain ⟨l7, hl7⟩ : ∃ l7, l7 = R.xs.length := ⟨_, rfl⟩
    rw [← hl7] at hown HF ⊢
    have hgr := row_grown w7 (w.heap.size + 1) #[.int .i64 R.a, .int .i64 R.b, .int .i64 R.c, .slice A7 l7 k7]
    have hb8 : Below (w.heap.size + 1) wr (w7.setRow (w.heap.size + 1) #[.int .i64 R.a, .int .i64 R.b, .int .i64 R.c, .slice A7 l7 k7]) := (hb7'.mono (by omega)).grown hgr (by have := hb7'.size; omega) (fun g e => by cases e; omega)
    refine ⟨_, s_read (.agg #[.int .i64 R.a, .int .i64 R.b, .int .i64 R.c, .slice A7 l7 k7]) rfl (fun w _ => by go_simp), sub_of (hb7'.mono (by omega)), ?_⟩
    refine RP.p_val (.int .i64 E) w7 rfl (by go_simp) ?_
    refine ⟨sub_of (hb7'.mono (by omega)), ?_⟩
    have hC8 := sub_of hb8
    refine RP.p_skip (w7.setRow (w.heap.size + 1) #[.int .i64 R.a, .int .i64 R.b, .int .i64 R.c, .slice A7 l7 k7]) rfl (st_pat_run (.tmp 2) (.tmp 75) rfl hr7 R.a R.b R.c A7 l7 k7 (by go_simp) (by go_simp)) ?_
    obtain ⟨w8, hw8⟩ : ∃ w8, w8 = w7.setRow (w.heap.size + 1) #[.int .i64 R.a, .int .i64 R.b, .int .i64 R.c, .slice A7 l7 k7] := ⟨_, rfl⟩
    rw [← hw8] at HF hC8 ⊢
    clear hw8 hb8 hgr hr7 hown hb7 hb7' hb5 hbw hle hpi hR hE
    refine ⟨hC8, ?_⟩
    refine RP.p_assign _ rfl rfl (.int .i64 E) (by go_simp) ?_
    go_simp
    go_wp2
    refine bodyPost_ret (v := .tuple #[.agg #[.int .i64 R.a, .int .i64 R.b, .int .i64 R.c, .slice A7 l7 k7], .int .i64 E]) (ret_pat2 rfl rfl rfl HF.out.1) rfl ?_
    rw [← HRE.out.1, ← HRE.out.2]
    exact HF.out.2
theorem known_least : LeastOf ⟨2, 0 % 2, 2, [0, 1, 1, 0]⟩ 2 1 1 := by
  intro hv
  have hB := col_base (valP_zero hv).ok
  have e0 : colF ⟨2, 0 % 2, 2, [0, 1, 1, 0]⟩ 0 0 = 0 := by decide
  have e1 : colF ⟨2, 0 % 2, 2, [0, 1, 1, 0]⟩ 1 0 = 1 := by decide
  refine ⟨⟨by decide, by decide, hB.pa, hB.per fun x y h0 h1 h2 h3 => ?_⟩, by decide, by decide, fun a' h0 h1 => ?_, fun b' c' h0 _ => by omega⟩
  · have h1 : x < 2 := h1
    have h3 : y < 2 := h3
    have hx : x = 0 ∨ x = 1 := by omega
    have hy : y = 0 ∨ y = 1 := by omega
    rcases hx with rfl | rfl <;> rcases hy with rfl | rfl <;> decide
  · rcases Int.lt_or_le a' 2 with h | h
    · obtain rfl : a' = 1 := by omega
      have := h1 0 0
      rw [show (0 : Int) + 1 = 1 by rfl, show (0 : Int) + 0 = 0 by rfl, e0, e1] at this
      cases this
    · exact h
theorem known_val : valP ⟨2, 0 % 2, 2, [0, 1, 1, 0]⟩ = 0 := by decide
theorem known_leastO : leastO ⟨2, 0 % 2, 2, [0, 1, 1, 0]⟩ 2 1 1 = ⟨2, 1, 1, [0, 1]⟩ := by
  unfold leastO
  rw [if_neg (by rw [known_val]; decide)]
  rfl
/-- The text of the laws' own check is read as the pattern 2, 1, 1: 0, 1. -/
def OutK (w : World) (e : Ending) (w' : World) : Prop := OutP w ⟨2, 1, 1, [0, 1]⟩ (.int .i64 0) e w'
set_option maxRecDepth 100000 in
set_option maxHeartbeats 2000000 in
theorem parse_known (w : World) (hw : LibOK w) :
    Calls Tryz.prog 6 #[.string knownT] w (OutK w) := by
  have hpa := parse_any knownT (by decide) 
  rw [known_expr] at hpa
  obtain ⟨s, hs⟩ : ∃ s, s = knownT := ⟨_, rfl⟩
  rw [← hs] at hpa ⊢
  have hsz : s.size = 18 := by rw [hs]; rfl
  obtain ⟨lk, hlk⟩ : ∃ lk, lk = s.size := ⟨_, rfl⟩
  have hl18 : lk = 18 := by omega
  have HPA := Lib.hid hpa
  have HV := Lib.hid (fun A1 k1 A2 k2 w hn hd => value_bricks 2 2 0 [0, 1, 1, 0] (by decide) (by decide) (by decide) (by decide) (by decide) 2 1 1 known_least A1 k1 A2 k2 w hn hd)
  have HW := Lib.hid hw
  clear hpa hs hw
  go_enter Tryz.func6, Tryz.ntmps6
  go_wp2_with fail
  have hr0 : PBox (w.alloc (.cells #[.int .i64 0, .int .i64 0, .int .i64 0, .slice none 0 0] 24)) w.heap.size 0 0 0 (.slice none 0 0) := PBox.new w _ _ _ _
  have hb0 : Below w.heap.size w (w.alloc (.cells #[.int .i64 0, .int .i64 0, .int .i64 0, .slice none 0 0] 24)) := (by repeat' (first | (with_reducible exact Below.refl _ _) | (with_reducible assumption) | (with_reducible refine below_drewN ?_ _) | (with_reducible refine below_step (by assumption) ?_ ?_) | (with_reducible refine Below.alloc ?_ ?_ _) | (with_reducible refine Below.setCell ?_ ?_ _) | (with_reducible refine Below.drew ?_) | go_size | (exact Below.size (by assumption)) | (refine Nat.le_trans (Below.size (by assumption)) ?_)))
  obtain ⟨W, hW⟩ : ∃ W, W = w.alloc (.cells #[.int .i64 0, .int .i64 0, .int .i64 0, .slice none 0 0] 24) := ⟨_, rfl⟩
  rw [← hW] at hr0 hb0 ⊢
  have hpa := HPA.out W (HW.out.below hb0)
  have H0 := Lib.hid (And.intro hr0 hb0)
  clear hr0 hb0 hW HPA
  refine hpa.mono ?_
  rintro e w1 ⟨⟨v, b, rfl, rfl, hrd⟩, hb1⟩
  obtain ⟨nv, dv, rfl, hn, hd⟩ := hrd
  obtain ⟨A1, k1, rfl, hn'⟩ := hn.isL
  obtain ⟨A2, k2, rfl, hd'⟩ := hd.isL
  have H1 := Lib.hid (And.intro (H0.out.1.keep hb1) (And.intro (H0.out.2.trans (hb1.mono H0.out.2.size)) (And.intro hn' hd')))
  clear hpa hb1 hn hd hn' hd'
  obtain ⟨tg, htg⟩ : ∃ tg, tg = txt [98, 114, 105, 99, 107, 115] := ⟨_, rfl⟩
  rw [← htg] at HV ⊢
  clear htg
  go_wp2_with fail
  have hb2 : Below w1.heap.size w1 (w1.alloc (.cells #[.string tg, .slice A1 3 k1, .slice A2 4 k2, .slice none 0 0] 52)) := (Below.refl _ _).alloc (Nat.le_refl _) _
  obtain ⟨w2, hw2⟩ : ∃ w2, w2 = w1.alloc (.cells #[.string tg, .slice A1 3 k1, .slice A2 4 k2, .slice none 0 0] 52) := ⟨_, rfl⟩
  rw [← hw2] at hb2
  refine Calls.mono (show Calls _ _ _ _ _ by rw [← hw2]; exact HV.out A1 k1 A2 k2 w2 (IsL.below hb2 H1.out.2.2.1) (IsL.below hb2 H1.out.2.2.2)) ?_
  rintro e w3 ⟨v, rfl, hown, hb3⟩
  have hb3' := hb2.trans (hb3.mono hb2.size)
  have hr3 := H1.out.1.keep hb3'
  have hb4 := H1.out.2.1.trans (hb3'.mono H1.out.2.1.size)
  rw [known_leastO] at hown ⊢
  rw [known_val]
  obtain ⟨A3, k3, rfl, -⟩ := hown.isL
  have HF := Lib.hid (put_ret hr3 hb4 (Nat.le_refl _) ⟨2, 1, 1, [0, 1]⟩ _ hown (Nat.le_trans H1.out.2.1.size hb2.size) (Nat.lt_of_lt_of_le (Array.getElem?_eq_some_iff.1 H1.out.1).1 hb2.size))
  obtain ⟨r0, r1, r2, r3, r4⟩ := hr3.cells
  have f0 : w3.frozen? ⟨w.heap.size, 0, none⟩ = false := frozen_of_row w3 _ 0 _ _ hr3
  have f1 : w3.frozen? ⟨w.heap.size, 1, none⟩ = false := frozen_of_row w3 _ 1 _ _ hr3
  have f2 : w3.frozen? ⟨w.heap.size, 2, none⟩ = false := frozen_of_row w3 _ 2 _ _ hr3
  have f3 : w3.frozen? ⟨w.heap.size, 3, none⟩ = false := frozen_of_row w3 _ 3 _ _ hr3
  clear hb2 hb3 hb3' hr3 hb4 hown hw2 H1 HV
  go_wp2
  refine bodyPost_ret (v := .tuple #[.agg #[.int .i64 2, .int .i64 1, .int .i64 1, .slice A3 2 k3], .int .i64 0]) (ret_pat2 rfl rfl rfl HF.out.1) rfl ?_
  exact ⟨_, rfl, HF.out.2⟩
end Go.Proofs.YtlinldbbhdpgcaaGreatDoor
