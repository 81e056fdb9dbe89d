/-
  THE PROGRAM's PARSER: demand, next.
-/
import Derived.Test.YtgmokojdlbdjeaaGreatDoorPatG
import Derived.Test.YtgmokojdlbdjeaaGreatDoorLibA
import Derived.Recover
import Derived.Deep.MidRow
import Derived.Lib.SplitLaws
namespace Go.Proofs.YtgmokojdlbdjeaaGreatDoor
open Go.RowKit
/-- The slice with address A, below the block B, reads as the texts ws. -/
def StrsIn (B : Nat) (w : World) (A : Option Addr) (ws : List ByteArray) : Prop := 0 < ws.length → ∃ b o, A = some ⟨b, o, none⟩ ∧ b < B ∧ ∀ i (h : i < ws.length), w.cell? ⟨b, o + i, none⟩ = some (.string ws[i])
/-- The parser in the block pb, below B, has the words ws before it; these lie in another block below B. -/
def PS (B : Nat) (w : World) (pb : Nat) (ws : List ByteArray) : Prop := ∃ A c, w.cell? ⟨pb, 0, none⟩ = some (.slice A ws.length c) ∧ ws.length ≤ c ∧ w.frozen? ⟨pb, 0, none⟩ = false ∧ (pb < B ∧ B ≤ w.heap.size) ∧ StrsIn B w A ws ∧ ∀ b o, A = some ⟨b, o, none⟩ → pb ≠ b
theorem PS.other {B : Nat} {w w' : World} {pb : Nat} {ws : List ByteArray} (h : PS B w pb ws) (hb : Below B w w') : PS B w' pb ws := by
  obtain ⟨A, c, h1, h2, h3, h4, h5, h6⟩ := h
  exact ⟨A, c, (hb.cell (p := ⟨pb, 0, none⟩) h4.1).trans h1, h2, (hb.frozen (p := ⟨pb, 0, none⟩) h4.1).trans h3, ⟨h4.1, Nat.le_trans h4.2 hb.size⟩, fun hp => by
    obtain ⟨b, o, rfl, hlt, hc⟩ := h5 hp
    exact ⟨b, o, rfl, hlt, fun i hi => (hb.cell (p := ⟨b, _, none⟩) hlt).trans (hc i hi)⟩, h6⟩
theorem PS.lt {B : Nat} {w : World} {pb : Nat} {ws : List ByteArray} (h : PS B w pb ws) : pb < B ∧ B ≤ w.heap.size := by
  obtain ⟨A, c, h1, h2, h3, h4, h5, h6⟩ := h
  exact h4
set_option maxRecDepth 100000 in
theorem demand_ok (w : World) : Calls Tryz.prog 120 #[.bool true] w fun e w' => e = .returned (.tuple #[]) ∧ w = w' := by
  go_enter Tryz.func120, Tryz.ntmps120
  go_wp2
  go_end0
  exact ⟨rfl, rfl⟩
set_option maxRecDepth 100000 in
set_option maxHeartbeats 1000000 in
theorem next_ok (B pb : Nat) (x : ByteArray) (ws : List ByteArray) (w : World) (hl : ws.length ≤ 1000000) (h : PS B w pb (x :: ws)) :
    Calls Tryz.prog 121 #[.pointer (some ⟨pb, 0, none⟩)] w fun e w' => e = .returned (.string x) ∧ PS B w' pb ws ∧ w.grownBy w' (some pb) := by
  obtain ⟨A, c, h1, h2, h3, h4, h5, h6⟩ := h
  obtain ⟨b, o, rfl, hlt, hc⟩ := h5 (by simp)
  have q0 := hc 0 (by simp)
  simp only [List.getElem_cons_zero, Nat.add_zero] at q0
  have hne := h6 b o rfl
  have HC := Lib.hid (fun i (hi : i < ws.length) => hc (i + 1) (by simpa using hi))
  simp only [List.length_cons] at h1 h2
  obtain ⟨n, hn⟩ : ∃ n, n = ws.length := ⟨_, rfl⟩
  rw [← hn] at h1 h2
  have HN := Lib.hid hn
  have hn6 : n ≤ 1000000 := by omega
  have hd := demand_ok
  clear hc h5 h6 hn hl
  have hgr : ∀ u, w.grownBy (w.setCell ⟨pb, 0, none⟩ u) (some pb) := fun u => ⟨rfl, rfl, rfl, by simp [World.setCell], fun q _ hne => Below.heap_setCell w ⟨pb, 0, none⟩ _ q (fun e => hne (by rw [e]))⟩
  have hfin : ∀ A2 c2, ws.length ≤ c2 → (∀ b2 o2, A2 = some ⟨b2, o2, none⟩ → b2 = b) → (0 < ws.length → A2 = some ⟨b, o + 1, none⟩) → PS B (w.setCell ⟨pb, 0, none⟩ (.slice A2 n c2)) pb ws ∧ w.grownBy (w.setCell ⟨pb, 0, none⟩ (.slice A2 n c2)) (some pb) := fun A2 c2 g1 g2 g3 => by
    refine ⟨⟨A2, c2, ?_, g1, ?_, ⟨h4.1, by simpa [World.setCell] using h4.2⟩, fun hp => ?_, fun b2 o2 e => ?_⟩, hgr _⟩
    · rw [World.cell?_setCell_same _ _ _ h1, HN.out]
    · rw [World.frozen?_setCell]; exact h3
    · refine ⟨b, o + 1, g3 hp, hlt, fun i hi => ?_⟩
      have := HC.out i hi
      rw [show o + 1 + i = o + (i + 1) by omega]
      exact (World.cell?_of_block (a := ⟨b, _, none⟩) (Below.heap_setCell w ⟨pb, 0, none⟩ _ b (fun e => hne e.symm))).trans this
    · rw [g2 b2 o2 e]; exact hne
  have HFIN := Lib.hid hfin
  clear hfin hgr
  by_cases hcap : c = 1
  · subst hcap
    obtain rfl : n = 0 := by omega
    go_enter Tryz.func121, Tryz.ntmps121
    go_wp2_with (go_at_call 120; refine (hd _).mono ?_; rintro e w' ⟨rfl, rfl⟩)
    go_ret
    exact ⟨rfl, HFIN.out (some ⟨b, o, none⟩) 0 (by have := HN.out; omega) (fun b2 o2 e => by cases e; rfl) (fun h => by have := HN.out; omega)⟩
  · go_enter Tryz.func121, Tryz.ntmps121
    go_wp2_with (go_at_call 120; refine (hd _).mono ?_; rintro e w' ⟨rfl, rfl⟩)
    go_ret
    exact ⟨rfl, HFIN.out (some ⟨b, o + 1, none⟩) (c - 1) (by have := HN.out; omega) (fun b2 o2 e => by cases e; rfl) (fun _ => rfl)⟩
end Go.Proofs.YtgmokojdlbdjeaaGreatDoor
/-
  THE PROGRAM's PARSER: a demand that fails; numbers, digits, rows.
-/
namespace Go.Proofs.YtgmokojdlbdjeaaGreatDoor
open Go.RowKit
/-- What the parser panics with. -/
def MalP : List PanicEntry := [{ v := .iface 111 (.agg #[]), recovered := false }]
set_option maxRecDepth 100000 in
theorem demand_no (w : World) : Calls Tryz.prog 120 #[.bool false] w fun e w' => e = .panicked MalP ∧ w = w' := by
  go_enter Tryz.func120, Tryz.ntmps120
  go_wp2
  exact ⟨rfl, rfl, rfl⟩
/-- A text of digits, and what they are. -/
def DigT (s : ByteArray) : Prop := ∀ c ∈ s.data.toList, 48 ≤ c.toNat ∧ c.toNat ≤ 57
def digL (s : ByteArray) : List Int := s.data.toList.map fun c => (c.toNat : Int) - 48
set_option maxRecDepth 100000 in
set_option maxHeartbeats 1000000 in
theorem digits_any (s : ByteArray) (hs : s.size ≤ 1000000) (w : World) :
    Calls Tryz.prog 124 #[.string s] w fun e w' => ((∃ v, e = .returned v ∧ DigT s ∧ OwnI w' w.heap.size v (digL s)) ∨ e = .panicked MalP ∧ ¬ DigT s) ∧ Below w.heap.size w w' := by
  have hcv := fun W : World => Go.Lib.run_convert_string_bytes (P := Tryz.prog) W 9 98 5 s Tryz.underlying9 Tryz.underlying98 Tryz.underlying5
  go_enter Tryz.func124, Tryz.ntmps124
  go_wp2
  obtain ⟨W, hW⟩ : ∃ W, W = Go.Lib.bytesWorld w 5 s := ⟨_, rfl⟩
  have hb0 := Lib.hid (show Below w.heap.size w W by rw [hW]; exact Go.Lib.bytesWorld_below w _ s)
  have hg : w.heap.size < W.heap.size := by rw [hW, Go.Lib.bytesWorld_size]; omega
  have HC := Lib.hid (show ∀ j, j < s.size → W.cell? ⟨w.heap.size, j, none⟩ = some (.int .u8 (s.data.toList.getD j 0).toNat) from fun j hj => by rw [hW]; exact Go.Lib.bytesWorld_cell w _ s j hj)
  rw [← hW]
  obtain ⟨n, hn⟩ : ∃ n, n = s.size := ⟨_, rfl⟩
  have HN := Lib.hid (show n = s.data.toList.length from hn)
  rw [← hn] at hs HC ⊢
  obtain ⟨cp, hcp⟩ : ∃ cp, cp = grownCap w n 0 5 := ⟨_, rfl⟩
  obtain ⟨g, hgg⟩ : ∃ g, g = w.heap.size := ⟨_, rfl⟩
  rw [← hcp]
  rw [← hgg] at HC hg ⊢
  have R0 := Lib.hid (show OwnI W W.heap.size (.slice none 0 0) ((digL s).take 0) ∧ Below W.heap.size W W ∧ ∀ c ∈ s.data.toList.take 0, 48 ≤ c.toNat ∧ c.toNat ≤ 57 from ⟨OwnI.nil _ _, Below.refl _ _, fun c hc => by simp at hc⟩)
  have HG := Lib.hid (show w.heap.size ≤ W.heap.size by omega)
  clear hcv hW hn hcp hgg
  go_loopw [3, 9] (fun v t wr => ∃ k : Nat, t = .int .i64 k ∧ k ≤ n ∧ Hid (OwnI wr W.heap.size v ((digL s).take k) ∧ Below W.heap.size W wr ∧ ∀ c ∈ s.data.toList.take k, 48 ≤ c.toNat ∧ c.toNat ≤ 57)) (fun _ t _ => n - (intOf t).toNat)
  case atStart => exact ⟨0, rfl, by omega, R0⟩
  case round =>
    obtain ⟨k, rfl, hk, hr⟩ := hrel
    by_cases hlt : k < n
    · have q0 := (hr.out.2.1.cell (p := ⟨g, k, none⟩) hg).trans (HC.out k hlt)
      obtain ⟨x, hx⟩ : ∃ x : Int, x = ((s.data.toList.getD k 0).toNat : Int) := ⟨_, rfl⟩
      rw [← hx] at q0
      have hx0 : 0 ≤ x := by omega
      have hmem : s.data.toList.getD k 0 ∈ s.data.toList := by
        have hk' : k < s.data.toList.length := by have := HN.out; omega
        rw [List.getD, List.getElem?_eq_getElem hk']
        exact List.getElem_mem hk'
      have hok := demand_ok
      have hno := demand_no
      by_cases h1 : 48 ≤ x
      · by_cases h2 : x ≤ 57
        · have HMX := Lib.hid (And.intro hx hmem)
          have HLM := Lib.hid (show ((digL s).take k).length ≤ 1000000 by rw [List.length_take]; omega)
          clear hx hmem hno
          go_wp2_with (first | (go_at_call 120; refine (hok _).mono ?_; rintro e w' ⟨rfl, rfl⟩) | (at_builtin; refine append_i64 (.tmp 20) (.tmp 24) rfl rfl W.heap.size _ _ (x - 48) wr rfl rfl hr.out.1 rfl HLM.out hr.out.2.1.size ?_))
          intro v' w6 ho6 hg6 hd6
          have R2 := Lib.hid (show OwnI w6 W.heap.size v' ((digL s).take (k + 1)) ∧ Below W.heap.size W w6 ∧ ∀ c ∈ s.data.toList.take (k + 1), 48 ≤ c.toNat ∧ c.toNat ≤ 57 from by
            have hk' : k < s.data.toList.length := by have := HN.out; omega
            have e1 : s.data.toList.take (k + 1) = s.data.toList.take k ++ [s.data.toList.getD k 0] := by
              rw [List.take_succ_eq_append_getElem hk', List.getD, List.getElem?_eq_getElem hk']; rfl
            have e2 : (digL s).take (k + 1) = (digL s).take k ++ [x - 48] := by
              unfold digL
              rw [← List.map_take, e1, List.map_append, List.map_take, HMX.out.1]; rfl
            rw [e2, e1]
            refine ⟨ho6, hr.out.2.1.grown hg6 hr.out.2.1.size (fun g hg => (hr.out.1.lt' g hg).1), fun c hc => ?_⟩
            rcases List.mem_append.1 hc with hc | hc
            · exact hr.out.2.2 c hc
            · rw [List.mem_singleton.1 hc]; have := HMX.out.1; omega)
          clear ho6 hg6 hd6 hr HMX
          go_wp2
          go_roundw
          case rel => exact ⟨k + 1, by go_num, by omega, R2⟩
          case measure => simp [intOf]; omega
        · have HB := Lib.hid (show ¬ DigT s from fun h => by have := (h _ hmem).2; omega)
          have HE := Lib.hid (show Below w.heap.size w wr from hb0.out.trans (hr.out.2.1.mono HG.out))
          clear hr hx hmem HN hok
          go_wp2_with (go_at_call 120; refine (hno _).mono ?_; rintro e w' ⟨rfl, rfl⟩)
          exact ⟨rfl, .inr ⟨rfl, HB.out⟩, HE.out⟩
      · have HB := Lib.hid (show ¬ DigT s from fun h => by have := (h _ hmem).1; omega)
        have HE := Lib.hid (show Below w.heap.size w wr from hb0.out.trans (hr.out.2.1.mono HG.out))
        clear hr hx hmem HN hok
        go_wp2_with (go_at_call 120; refine (hno _).mono ?_; rintro e w' ⟨rfl, rfl⟩)
        exact ⟨rfl, .inr ⟨rfl, HB.out⟩, HE.out⟩
    · obtain rfl : k = n := by omega
      have HE := Lib.hid (show DigT s ∧ OwnI wr w.heap.size u3 (digL s) ∧ Below w.heap.size w wr from by
        have h1 : s.data.toList.take k = s.data.toList := by rw [HN.out]; exact List.take_length
        have h2 : (digL s).take k = digL s := by
          have : (digL s).length = s.data.toList.length := List.length_map ..
          rw [HN.out, ← this]; exact List.take_length
        obtain ⟨r1, r2, r3⟩ := hr.out
        rw [h1] at r3
        rw [h2] at r1
        exact ⟨r3, r1.down HG.out, hb0.out.trans (r2.mono HG.out)⟩)
      clear hr HN HC
      go_wp2
      go_ret
      exact ⟨.inl ⟨_, rfl, HE.out.1, HE.out.2.1⟩, HE.out.2.2⟩
end Go.Proofs.YtgmokojdlbdjeaaGreatDoor
/-
  THE PROGRAM's PARSER: numbers.
-/
namespace Go.Proofs.YtgmokojdlbdjeaaGreatDoor
open Go.RowKit
/-- The number that a word is, if it is one. -/
def numV (s : ByteArray) : Option Int := match Lib.atoiAll s.data.toList with
  | .ok n => if Lib.itoa n = s.data.toList ∧ farC n = false then some n else none
  | _ => none
/-- So many numbers, and the words behind them. -/
def numsO : Nat → List ByteArray → Option (List Int × List ByteArray)
  | 0, ws => some ([], ws)
  | _ + 1, [] => none
  | k + 1, s :: ws => match numV s with
    | none => none
    | some n => match numsO k ws with
      | none => none
      | some (l, r) => some (n :: l, r)
/-- The world in which the library's variables hold what they do; the parser is younger. -/
structure PW (pb : Nat) (w : World) : Prop where
  ex : ∃ W0, LibOK W0 ∧ Below W0.heap.size W0 w ∧ W0.heap.size ≤ pb
theorem PW.lib {pb : Nat} {w : World} (h : PW pb w) : LibOK w := by
  obtain ⟨W0, h1, h2, -⟩ := h.ex
  exact h1.below h2
theorem PW.grown {pb : Nat} {w w' : World} (h : PW pb w) (hg : w.grownBy w' (some pb)) : PW pb w' := by
  obtain ⟨W0, h1, h2, h3⟩ := h.ex
  exact ⟨⟨W0, h1, h2.grown hg h2.size (fun g e => by cases e; exact h3), h3⟩⟩
theorem PW.below {pb B : Nat} {w w' : World} (h : PW pb w) (hb : Below B w w') (hB : pb < B) : PW pb w' := by
  obtain ⟨W0, h1, h2, h3⟩ := h.ex
  exact ⟨⟨W0, h1, h2.trans (hb.mono (by omega)), h3⟩⟩
set_option maxRecDepth 100000 in
theorem next_no (B pb : Nat) (w : World) (h : PS B w pb []) :
    Calls Tryz.prog 121 #[.pointer (some ⟨pb, 0, none⟩)] w fun e w' => e = .panicked MalP ∧ w = w' := by
  obtain ⟨A, c, h1, -⟩ := h
  simp only [List.length_nil] at h1
  have hno := demand_no
  go_enter Tryz.func121, Tryz.ntmps121
  go_wp2_with (go_at_call 120; refine (hno _).mono ?_; rintro e w' ⟨rfl, rfl⟩)
  exact ⟨rfl, rfl, rfl⟩
theorem grown_then {w w1 w2 : World} {row : Option Nat} (h : w.grownBy w1 row) (k : w1.grownBy w2 row) : w.grownBy w2 row :=
  ⟨k.os.trans h.os, k.tape.trans h.tape, k.output.trans h.output, Nat.le_trans h.size k.size, fun i hi hne => (k.block i (Nat.lt_of_lt_of_le hi h.size) hne).trans (h.block i hi hne)⟩
theorem grown_low {w w1 w2 : World} {row : Option Nat} (h : w.grownBy w1 row) (k : Below w.heap.size w1 w2) : w.grownBy w2 row :=
  ⟨k.os.trans h.os, k.tape.trans h.tape, k.output.trans h.output, Nat.le_trans h.size k.size, fun i hi hne => (k.block i hi).trans (h.block i hi hne)⟩
theorem grown_of {w w' : World} (h : Below w.heap.size w w') (row : Option Nat) : w.grownBy w' row := ⟨h.os, h.tape, h.output, h.size, fun k hk _ => h.block k hk⟩
/-- The words are of a length that Go can lay. -/
def Mod (ws : List ByteArray) : Prop := ws.length ≤ 1000000 ∧ ∀ s ∈ ws, s.size ≤ 10000
theorem Mod.tail {s : ByteArray} {ws : List ByteArray} (h : Mod (s :: ws)) : Mod ws := ⟨by have := h.1; simp at this; omega, fun x hx => h.2 x (by simp [hx])⟩
/-- What reading some of the words gives: the value and the words behind it, or the panic. -/
def Outs (B : Nat) (w : World) (pb : Nat) (o : Option (List Int × List ByteArray)) (e : Ending) (w' : World) : Prop := (match o with
  | some (l, r) => ∃ v, e = .returned v ∧ OwnI w' w.heap.size v l ∧ PS B w' pb r
  | none => e = .panicked MalP) ∧ w.grownBy w' (some pb)
theorem same_str (a : List UInt8) (s : ByteArray) : ((⟨a.toArray⟩ : ByteArray).toList == s.toList) = (a == s.data.toList) := by
  rw [Lib.toList_data, Lib.toList_data]
set_option maxRecDepth 100000 in
set_option maxHeartbeats 2000000 in
theorem numbers_any (B pb c : Nat) (hc : c ≤ 100) (ws : List ByteArray) (hm : Mod ws) (w : World) (h : PS B w pb ws) (hw : PW pb w) :
    Calls Tryz.prog 122 #[.pointer (some ⟨pb, 0, none⟩), .int .i64 (c : Int)] w (Outs B w pb (numsO c ws)) := by
  have hpb := h.lt
  obtain ⟨O, hO⟩ : ∃ O, O = numsO c ws := ⟨_, rfl⟩
  rw [← hO]
  have R0 := Lib.hid (show ∃ l r, OwnI w w.heap.size (.slice none 0 0) l ∧ l.length = 0 ∧ PS B w pb r ∧ Mod r ∧ PW pb w ∧ w.grownBy w (some pb) ∧ O = (numsO (c - 0) r).map (fun p => (l ++ p.1, p.2)) from
    ⟨[], ws, OwnI.nil _ _, rfl, h, hm, hw, grown_of (Below.refl _ _) _, by rw [hO]; simp⟩)
  have hok := demand_ok
  have hno := demand_no
  clear hO h hw hm
  go_enter Tryz.func122, Tryz.ntmps122
  go_wp2
  go_loopw [5, 10] (fun v t wr => ∃ k : Nat, t = .int .i64 k ∧ k ≤ c ∧ Hid (∃ l r, OwnI wr w.heap.size v l ∧ l.length = k ∧ PS B wr pb r ∧ Mod r ∧ PW pb wr ∧ w.grownBy wr (some pb) ∧ O = (numsO (c - k) r).map (fun p => (l ++ p.1, p.2)))) (fun _ t _ => c - (intOf t).toNat)
  case atStart => exact ⟨0, rfl, by omega, R0⟩
  case round =>
    obtain ⟨k, rfl, hk, hr⟩ := hrel
    by_cases hlt : k < c
    · obtain ⟨l, r, r1, r2, r3, r4, r5, r6, r7⟩ := hr.out
      cases r with
      | nil =>
        have HO := Lib.hid (show O = none by
          rw [r7, show c - k = (c - k - 1) + 1 by omega]; rfl)
        have HG := Lib.hid r6
        have hnx := next_no B pb wr r3
        clear hr r1 r2 r3 r4 r5 r6 r7 hok hno
        go_wp2_with (go_at_call 121; refine hnx.mono ?_; rintro e w' ⟨rfl, rfl⟩)
        exact ⟨rfl, by rw [HO.out], HG.out⟩
      | cons s r =>
        have hnx := next_ok B pb s r wr (by have := r4.1; simp at this; omega) r3
        have HS := Lib.hid (And.intro r1 (And.intro r2 (And.intro r4 (And.intro r5 (And.intro r6 r7)))))
        clear hr r1 r2 r3 r4 r5 r6 r7
        go_wp2_with fail
        refine hnx.mono ?_
        rintro e w1 ⟨rfl, q1, q2⟩
        obtain ⟨r1, r2, r4, r5, r6, r7⟩ := HS.out
        have hown := r1.grown q2 (by
          by_cases hv : Value.ownBlock u5 = some pb
          · exact absurd (r1.lt' _ hv).1 (by omega)
          · exact .inr hv)
        have hat := atoi_any s (Nat.le_trans (r4.2 s (by simp)) (by decide)) w1 (r5.grown q2).lib
        have J1 := Lib.hid (show OwnI w1 w.heap.size u5 l ∧ PS B w1 pb r ∧ Mod r ∧ PW pb w1 ∧ w.grownBy w1 (some pb) from ⟨hown, q1, r4.tail, r5.grown q2, grown_then r6 q2⟩)
        have HL := Lib.hid (And.intro r2 r7)
        clear hown q1 r4 r5 q2 r6 r1 r2 r7 HS hnx
        go_wp2_with fail
        refine hat.mono ?_
        rintro e w2 ⟨v, er, rfl, v0, v1, hres, hb2⟩
        have J2 := Lib.hid (show OwnI w2 w.heap.size u5 l ∧ PS B w2 pb r ∧ Mod r ∧ PW pb w2 ∧ w.grownBy w2 (some pb) from ⟨J1.out.1.keep hb2, J1.out.2.1.other (hb2.mono (J1.out.2.1.lt.2)), J1.out.2.2.1, J1.out.2.2.2.1.grown (grown_of hb2 _), grown_then J1.out.2.2.2.2 (grown_of hb2 _)⟩)
        clear hat hb2 J1
        rcases hres with ⟨rfl, ha⟩ | ⟨⟨N, rfl⟩, ha⟩
        · by_cases hi : Lib.itoa v = s.data.toList
          · have d1 : (Lib.itoa v == s.toList) = true := by rw [Lib.toList_data, beq_iff_eq]; exact hi
            obtain ⟨f, hf⟩ : ∃ f, f = farC v := ⟨_, rfl⟩
            have HA := Lib.hid (And.intro ha (And.intro hi hf))
            clear ha hi hf
            go_wp2_with fail
            refine (itoa_any v v0 v1 w2 J2.out.2.2.2.1.lib).mono ?_
            rintro e w3 ⟨rfl, hb3⟩
            have J3 := Lib.hid (show OwnI w3 w.heap.size u5 l ∧ PS B w3 pb r ∧ Mod r ∧ PW pb w3 ∧ w.grownBy w3 (some pb) from ⟨J2.out.1.keep hb3, J2.out.2.1.other (hb3.mono (J2.out.2.1.lt.2)), J2.out.2.2.1, J2.out.2.2.2.1.grown (grown_of hb3 _), grown_then J2.out.2.2.2.2 (grown_of hb3 _)⟩)
            clear hb3 J2
            go_wp2_with fail
            have hL : IsL (w3.alloc (.cells #[.int .i64 v] 3)) (some ⟨w3.heap.size, 0, none⟩) 1 [v] := (RowI.isL (w := w3.alloc (.cells #[.int .i64 v] 3)) (g := w3.heap.size) (zs := [v]) (Row.new w3 #[.int .i64 v] 3))
            refine (near_any _ 1 1 [v] (by simp) _ hL).mono ?_
            rintro e w5 ⟨rfl, hb5⟩
            have hb6 : Below w3.heap.size w3 w5 := ((Below.refl w3.heap.size w3).alloc (Nat.le_refl _) _).trans (hb5.mono (by simp))
            have J4 := Lib.hid (show OwnI w5 w.heap.size u5 l ∧ PS B w5 pb r ∧ Mod r ∧ PW pb w5 ∧ w.grownBy w5 (some pb) from ⟨J3.out.1.keep hb6, J3.out.2.1.other (hb6.mono (J3.out.2.1.lt.2)), J3.out.2.2.1, J3.out.2.2.2.1.grown (grown_of hb6 _), grown_then J3.out.2.2.2.2 (grown_of hb6 _)⟩)
            rw [show (!([v] : List Int).any farC) = !f by rw [HA.out.2.2]; simp]
            clear hL hb5 hb6 J3
            cases f with
            | true =>
              have HO := Lib.hid (show O = none by
                rw [HL.out.2, show c - k = (c - k - 1) + 1 by omega]
                simp [numsO, numV, HA.out.1, HA.out.2.1, ← HA.out.2.2])
              have HG := Lib.hid J4.out.2.2.2.2
              clear J4 HL HA
              go_wp2_with (go_at_call 120; refine (hno _).mono ?_; rintro e w' ⟨rfl, rfl⟩)
              exact ⟨rfl, by rw [HO.out], HG.out⟩
            | false =>
              have HO := Lib.hid (show O = (numsO (c - (k + 1)) r).map (fun p => ((l ++ [v]) ++ p.1, p.2)) by
                rw [HL.out.2, show c - k = (c - (k + 1)) + 1 by omega]
                simp only [numsO, numV, HA.out.1, HA.out.2.1, ← HA.out.2.2, true_and, if_true]
                cases numsO (c - (k + 1)) r with
                | none => rfl
                | some p => simp)
              have HM := Lib.hid (show (l ++ [v]).length = k + 1 by simp [HL.out.1])
              have HLM := Lib.hid (show l.length ≤ 1000000 by rw [HL.out.1]; omega)
              clear HL HA
              go_wp2_with (first | (go_at_call 120; refine (hok _).mono ?_; rintro e w' ⟨rfl, rfl⟩) | (at_builtin; refine append_i64 (.tmp 33) (.tmp 35) rfl rfl w.heap.size _ _ v w5 rfl rfl J4.out.1 rfl HLM.out J4.out.2.2.2.2.size ?_))
              intro v' w6 ho6 hg6 hd6
              have hb7 : Below w.heap.size w5 w6 := (Below.refl w.heap.size w5).grown hg6 J4.out.2.2.2.2.size (fun g e => (J4.out.1.lt' g e).1)
              have R2 := Lib.hid (show ∃ l r, OwnI w6 w.heap.size v' l ∧ l.length = k + 1 ∧ PS B w6 pb r ∧ Mod r ∧ PW pb w6 ∧ w.grownBy w6 (some pb) ∧ O = (numsO (c - (k + 1)) r).map (fun p => (l ++ p.1, p.2)) from
                ⟨_, r, ho6, HM.out, J4.out.2.1.other (hb7.mono hpb.2), J4.out.2.2.1, J4.out.2.2.2.1.below hb7 (by omega), grown_low J4.out.2.2.2.2 hb7, HO.out⟩)
              clear ho6 hg6 hd6 hb7 J4 HO HM
              go_wp2
              go_roundw
              case rel => exact ⟨k + 1, by go_num, by omega, R2⟩
              case measure => simp [intOf]; omega
          · have d1 : (Lib.itoa v == s.toList) = false := by rw [Lib.toList_data, beq_eq_false_iff_ne]; exact hi
            have HO := Lib.hid (show O = none by
              rw [HL.out.2, show c - k = (c - k - 1) + 1 by omega]
              simp [numsO, numV, ha, hi])
            clear ha hi
            go_wp2_with fail
            refine (itoa_any v v0 v1 w2 J2.out.2.2.2.1.lib).mono ?_
            rintro e w3 ⟨rfl, hb3⟩
            have HG := Lib.hid (grown_then J2.out.2.2.2.2 (grown_of hb3 _))
            clear hb3 J2 HL
            go_wp2_with (go_at_call 120; refine (hno _).mono ?_; rintro e w' ⟨rfl, rfl⟩)
            exact ⟨rfl, by rw [HO.out], HG.out⟩
        · have HO := Lib.hid (show O = none by
            rw [HL.out.2, show c - k = (c - k - 1) + 1 by omega]
            have : numV s = none := by
              unfold numV
              split
              · rename_i n hn; exact absurd hn (ha n)
              · rfl
            simp [numsO, this])
          have HG := Lib.hid J2.out.2.2.2.2
          clear ha J2 HL
          go_wp2_with (go_at_call 120; refine (hno _).mono ?_; rintro e w' ⟨rfl, rfl⟩)
          exact ⟨rfl, by rw [HO.out], HG.out⟩
    · obtain rfl : k = c := by omega
      obtain ⟨l, r, r1, r2, r3, r4, r5, r6, r7⟩ := hr.out
      have HO := Lib.hid (show O = some (l, r) by rw [r7, Nat.sub_self]; simp [numsO])
      have HG := Lib.hid (And.intro r1 (And.intro r3 r6))
      clear r1 r2 r3 r4 r5 r6 r7 hr
      go_wp2
      go_ret
      exact ⟨by rw [HO.out]; exact ⟨_, rfl, HG.out.1, HG.out.2.1⟩, HG.out.2.2⟩
end Go.Proofs.YtgmokojdlbdjeaaGreatDoor
/-
  THE PROGRAM's PARSER: rows.
-/
namespace Go.Proofs.YtgmokojdlbdjeaaGreatDoor
open Go.RowKit
/-- append(s, ks...) of integers. -/
theorem append_ints {w : World} {ops : Array Oper} {rest : List Oper} {o : Oper} {a : Act} {Q : Exit → Act → World → Prop} (s x : Operand)
    (ho : o.op = .call { callee := .builtin .append, args := #[s, x], argTypes := #[22, 22] }) (hgd : o.guard = none)
    (B : Nat) (v : Value) (zs ks : List Int) (A : Option Addr) (c : Nat) (hs : a.eval s = v) (hown : OwnI w B v zs) (hx : a.eval x = .slice A ks.length c) (hk : IsL w A ks.length ks)
    (hpos : 0 < ks.length) (hn : zs.length + ks.length ≤ 1000000000) (hB : B ≤ w.heap.size)
    (h : ∀ v' w', OwnI w' B v' (zs ++ ks) → w.grownBy w' v.ownBlock → (v'.ownBlock = v.ownBlock ∨ v'.ownBlock = some w.heap.size) → wpList Tryz.prog ops Q rest (a.put o.dst v') w') : wpList Tryz.prog ops Q (o :: rest) a w := by
  obtain ⟨i0, hi, hz0, hz1, hz2⟩ := info_parts intInfo
  obtain ⟨b, of, rfl, hlt, hc⟩ := hk.2 hpos
  refine wpList_append_lies (P := Tryz.prog) (w := w) hgd s x 22 ho B 3 i0 (.int .i64 0) 1 8 Tryz.underlying22 hi hz0 hz1 hz2 rfl (by decide) v zs.length _ hs hown ⟨b, of, none⟩ ks.length c (ks.map (Value.int .i64)) hx (by simp)
    (fun j u hu => by
      obtain ⟨hj, rfl⟩ := List.getElem?_eq_some_iff.1 hu
      rw [List.length_map] at hj
      rw [Addr.add_mid, hc j hj]
      simp [hj]) (fun u hu => by obtain ⟨y, -, rfl⟩ := List.mem_map.1 hu; rfl) hpos (by unfold maxLen; omega) (by omega) hB w.heap.size rfl ?_
  intro g cap w' h1 h2 h3 h4
  refine h _ w' ?_ h2 ?_
  · unfold OwnI
    rw [List.length_append, List.map_append]
    exact h1
  · rcases h3 with h3 | h3
    · exact .inl h3.symm
    · subst h3; exact .inr rfl
/-- The rows of a word. -/
def rowsS (s : ByteArray) : List ByteArray := Lib.splitB ⟨#[47]⟩ 0 (Lib.countB s ⟨#[47]⟩) s
theorem rows_len (s : ByteArray) : (rowsS s).length = Lib.countB s ⟨#[47]⟩ + 1 := Lib.splitB_all ⟨#[47]⟩ (by decide) 0 _ s rfl
theorem rows_count (s : ByteArray) : Lib.countB s ⟨#[47]⟩ ≤ s.size := Lib.countB_le ⟨#[47]⟩ (by decide) _ s (Nat.le_refl _)
theorem split_size (sep : ByteArray) : ∀ (k : Nat) (s x : ByteArray), x ∈ Lib.splitB sep 0 k s → x.size ≤ s.size
  | 0, s, x, h => by rw [Lib.splitB_zero] at h; rw [List.mem_singleton.1 h]; exact Nat.le_refl _
  | k + 1, s, x, h => by
    unfold Lib.splitB at h
    split at h
    · rw [List.mem_singleton.1 h]; exact Nat.le_refl _
    · rcases List.mem_cons.1 h with h | h
      · rw [h, ByteArray.size_extract]; omega
      · have := split_size sep k _ x h
        rw [ByteArray.size_extract] at this; omega
theorem rows_size (s x : ByteArray) (h : x ∈ rowsS s) : x.size ≤ s.size := split_size _ _ s x h
/-- A word that is a grid of digits. -/
def GridT (width height : Int) (s : ByteArray) : Prop := ((rowsS s).length : Int) = height ∧ ∀ x ∈ rowsS s, (x.size : Int) = width ∧ 0 < width ∧ DigT x
def gridL (s : ByteArray) : List Int := (rowsS s).flatMap digL
instance (s : ByteArray) : Decidable (DigT s) := by unfold DigT; infer_instance
instance (W H : Int) (s : ByteArray) : Decidable (GridT W H s) := by unfold GridT; infer_instance
/-- Rows of digits, and the words behind them. -/
def rowsO (W H : Int) : List ByteArray → Option (List Int × List ByteArray)
  | [] => none
  | s :: r => if GridT W H s then some (gridL s, r) else none
set_option maxRecDepth 100000 in
set_option maxHeartbeats 2000000 in
theorem rows_any (B pb : Nat) (wd ht : Int) (ws : List ByteArray) (hm : Mod ws) (w : World) (h : PS B w pb ws) (hw : PW pb w) :
    Calls Tryz.prog 123 #[.pointer (some ⟨pb, 0, none⟩), .int .i64 wd, .int .i64 ht] w (Outs B w pb (rowsO wd ht ws)) := by
  have hpb := h.lt
  obtain ⟨O, hO⟩ : ∃ O, O = rowsO wd ht ws := ⟨_, rfl⟩
  rw [← hO]
  have hok := demand_ok
  have hno := demand_no
  cases ws with
  | nil =>
    have HO := Lib.hid (show O = none from hO)
    have hnx := next_no B pb w h
    clear hok hno hO h hw hm
    go_enter Tryz.func123, Tryz.ntmps123
    go_wp2_with (go_at_call 121; refine hnx.mono ?_; rintro e w' ⟨rfl, rfl⟩)
    exact ⟨rfl, by rw [HO.out], grown_of (Below.refl _ _) _⟩
  | cons s r =>
    have hnx := next_ok B pb s r w (by have := hm.1; simp at this; omega) h
    have HM := Lib.hid (And.intro (hm.2 s (by simp)) (And.intro hw hO))
    clear h hw hm hO
    go_enter Tryz.func123, Tryz.ntmps123
    go_wp2_with fail
    refine hnx.mono ?_
    rintro e w1 ⟨rfl, q1, q2⟩
    have hw1 := HM.out.2.1.grown q2
    obtain ⟨m, hmx⟩ := hw1.lib.mx
    have hsp := Tryz.strings_Split s ⟨#[47]⟩ m w1 (by have := HM.out.1; omega) hmx (by decide)
    have HQ := Lib.hid (And.intro q1 (And.intro q2 hw1))
    clear hnx q1 q2 hw1 hmx
    go_wp2_with fail
    refine hsp.mono ?_
    rintro e w2 ⟨rfl, hw2⟩
    clear hsp
    obtain ⟨n, hn⟩ : ∃ n, n = Lib.countB s ⟨#[47]⟩ + 1 := ⟨_, rfl⟩
    have hrl : n = (rowsS s).length := by rw [rows_len, hn]
    have hb2 : Below w1.heap.size w1 w2 := by rw [hw2]; exact (Below.refl _ _).alloc (Nat.le_refl _) _
    have hg : w1.heap.size < w2.heap.size := by rw [hw2]; simp
    have hc : ∀ i (h : i < n), w2.cell? ⟨w1.heap.size, i, none⟩ = some (.string ((rowsS s).getD i ⟨#[]⟩)) := fun i h => by
      rw [hw2, cell_of_row _ _ i _ _ _ (heap_alloc_new w1 _)]
      show ((rowsS s).map Value.string).toArray[i]? = _
      have : i < (rowsS s).length := by omega
      simp [this]
    have hn6 : n ≤ 10001 := by have := rows_count s; have := HM.out.1; omega
    rw [← hn]
    have J0 := Lib.hid (show PS B w2 pb r ∧ PW pb w2 ∧ w.grownBy w2 (some pb) from ⟨HQ.out.1.other (hb2.mono HQ.out.1.lt.2), HQ.out.2.2.grown (grown_of hb2 _), grown_then HQ.out.2.1 (grown_of hb2 _)⟩)
    obtain ⟨g, hgg⟩ : ∃ g, g = w1.heap.size := ⟨_, rfl⟩
    rw [← hgg] at hg hc ⊢
    have hgw : w.heap.size ≤ g := by rw [hgg]; exact HQ.out.2.1.size
    have HC := Lib.hid (And.intro hrl hc)
    clear hb2 hw2 hn hgg HQ hrl hc
    by_cases h1 : (n : Int) = ht
    · have d1 : ((n : Int) == ht) = true := beq_iff_eq.2 h1
      have R0 := Lib.hid (show ∃ l, OwnI w2 w2.heap.size (.slice none 0 0) l ∧ l = ((rowsS s).take 0).flatMap digL ∧ l.length ≤ 0 * 10000 ∧ (∀ x ∈ (rowsS s).take 0, (x.size : Int) = wd ∧ 0 < wd ∧ DigT x) ∧ Below w2.heap.size w2 w2 from
        ⟨[], OwnI.nil _ _, rfl, by simp, fun x hx => by simp at hx, Below.refl _ _⟩)
      have HT := Lib.hid h1
      clear h1
      go_wp2_with (go_at_call 120; refine (hok _).mono ?_; rintro e w' ⟨rfl, rfl⟩)
      go_loopw [8, 21] (fun v t wr => ∃ k : Nat, t = .int .i64 k ∧ k ≤ n ∧ Hid (∃ l, OwnI wr w2.heap.size v l ∧ l = ((rowsS s).take k).flatMap digL ∧ l.length ≤ k * 10000 ∧ (∀ x ∈ (rowsS s).take k, (x.size : Int) = wd ∧ 0 < wd ∧ DigT x) ∧ Below w2.heap.size w2 wr)) (fun _ t _ => n - (intOf t).toNat)
      case atStart => exact ⟨0, rfl, by omega, R0⟩
      case round =>
        obtain ⟨k, rfl, hk, hr⟩ := hrel
        by_cases hlt : k < n
        · obtain ⟨l, r1, r2, r3, r4, r5⟩ := hr.out
          have q0 := (r5.cell (p := ⟨g, k, none⟩) hg).trans (HC.out.2 k hlt)
          obtain ⟨x, hx⟩ : ∃ x, x = (rowsS s).getD k ⟨#[]⟩ := ⟨_, rfl⟩
          rw [← hx] at q0
          have hkl : k < (rowsS s).length := by have := HC.out.1; omega
          have hxm : x ∈ rowsS s := by rw [hx, List.getD, List.getElem?_eq_getElem hkl]; exact List.getElem_mem hkl
          have hxs : x.size ≤ 10000 := Nat.le_trans (rows_size s x hxm) HM.out.1
          have hfail : ¬ ((x.size : Int) = wd ∧ 0 < wd ∧ DigT x) → O = none := fun hn => by
            rw [HM.out.2.2]
            show (if GridT wd ht s then some (gridL s, r) else none) = none
            rw [if_neg (fun h => hn (h.2 x hxm))]
          have HF := Lib.hid hfail
          have HX := Lib.hid (And.intro hx hxm)
          have HG := Lib.hid (show w.grownBy wr (some pb) from grown_low J0.out.2.2 (r5.mono (by omega)))
          clear hx hxm hfail hkl
          by_cases e1 : (x.size : Int) = wd
          · have t1 : ((x.size : Int) == wd) = true := beq_iff_eq.2 e1
            have E1 := Lib.hid e1
            clear e1
            by_cases e2 : 0 < wd
            · have HR := Lib.hid (And.intro r1 (And.intro r2 (And.intro r3 (And.intro r4 r5))))
              clear hr r1 r2 r3 r4 r5
              go_wp2_with (go_at_call 120; refine (hok _).mono ?_; rintro e w' ⟨rfl, rfl⟩)
              refine (digits_any x (by omega) _).mono ?_
              rintro e w4 ⟨hres, hb4⟩
              rcases hres with ⟨v, rfl, hd, hv⟩ | ⟨rfl, hd⟩
              · obtain ⟨A, c, rfl, hL⟩ := hv.isL
                have hlv : (digL x).length = x.size := by unfold digL; rw [List.length_map]; rfl
                have R4 := Lib.hid (show OwnI w4 w2.heap.size u8 l ∧ Below w2.heap.size w2 w4 from ⟨HR.out.1.keep hb4, HR.out.2.2.2.2.trans (hb4.mono HR.out.2.2.2.2.size)⟩)
                have HP := Lib.hid (show 0 < (digL x).length ∧ l.length + (digL x).length ≤ 1000000000 from ⟨by have := E1.out; omega, by have := HR.out.2.2.1; omega⟩)
                have HD := Lib.hid (And.intro hd (And.intro hL hlv))
                clear hd hL hlv hv hb4
                go_wp2_with (at_builtin; refine append_ints (.tmp 34) (.tmp 36) rfl rfl w2.heap.size _ l (digL x) A c rfl R4.out.1 rfl HD.out.2.1 HP.out.1 HP.out.2 R4.out.2.size ?_)
                intro v' w6 ho6 hg6 hd6
                have R2 := Lib.hid (show ∃ l, OwnI w6 w2.heap.size v' l ∧ l = ((rowsS s).take (k + 1)).flatMap digL ∧ l.length ≤ (k + 1) * 10000 ∧ (∀ x ∈ (rowsS s).take (k + 1), (x.size : Int) = wd ∧ 0 < wd ∧ DigT x) ∧ Below w2.heap.size w2 w6 from by
                  have hkl : k < (rowsS s).length := by have := HC.out.1; omega
                  have et : (rowsS s).take (k + 1) = (rowsS s).take k ++ [x] := by
                    rw [List.take_succ_eq_append_getElem hkl, HX.out.1, List.getD, List.getElem?_eq_getElem hkl]; rfl
                  rw [et]
                  refine ⟨_, ho6, ?_, ?_, fun y hy => ?_, R4.out.2.grown hg6 R4.out.2.size (fun g e => (R4.out.1.lt' g e).1)⟩
                  · rw [List.flatMap_append, ← HR.out.2.1]; simp
                  · rw [List.length_append, HD.out.2.2]; have := HR.out.2.2.1; omega
                  · rcases List.mem_append.1 hy with hy | hy
                    · exact HR.out.2.2.2.1 y hy
                    · rw [List.mem_singleton.1 hy]; exact ⟨E1.out, e2, HD.out.1⟩)
                clear ho6 hg6 hd6 R4 HP HD HR HF HX HG
                go_wp2
                go_roundw
                case rel => exact ⟨k + 1, by go_num, by omega, R2⟩
                case measure => simp [intOf]; omega
              · have HO := Lib.hid (HF.out (fun h => hd h.2.2))
                have HG4 := Lib.hid (grown_then HG.out (grown_of hb4 _))
                clear hd hb4 HF HR
                first
                | exact ⟨rfl, by rw [HO.out], HG4.out⟩
                | (go_wp2; exact ⟨rfl, by rw [HO.out], HG4.out⟩)
            · have HO := Lib.hid (HF.out (fun h => e2 h.2.1))
              have HG2 := HG
              clear hr r1 r2 r3 r4 r5 HF hok
              go_wp2_with (go_at_call 120; refine (hno _).mono ?_; rintro e w' ⟨rfl, rfl⟩)
              exact ⟨rfl, by rw [HO.out], HG2.out⟩
          · have t1 : ((x.size : Int) == wd) = false := beq_eq_false_iff_ne.2 e1
            have HO := Lib.hid (HF.out (fun h => e1 h.1))
            clear e1 hr r1 r2 r3 r4 r5 HF hok
            go_wp2_with (go_at_call 120; refine (hno _).mono ?_; rintro e w' ⟨rfl, rfl⟩)
            exact ⟨rfl, by rw [HO.out], HG.out⟩
        · obtain rfl : k = n := by omega
          obtain ⟨l, r1, r2, r3, r4, r5⟩ := hr.out
          have e0 : (rowsS s).take k = rowsS s := by rw [HC.out.1]; exact List.take_length
          rw [e0] at r2 r4
          have HO := Lib.hid (show O = some (l, r) by
            rw [HM.out.2.2]
            show (if GridT wd ht s then some (gridL s, r) else none) = _
            rw [if_pos ⟨by rw [← HC.out.1]; exact HT.out, r4⟩, r2]; rfl)
          have hb5 : Below w2.heap.size w2 wr := r5
          have HG := Lib.hid (show OwnI wr w.heap.size u8 l ∧ PS B wr pb r ∧ w.grownBy wr (some pb) from ⟨r1.down (by omega), J0.out.1.other (hb5.mono J0.out.1.lt.2), grown_low J0.out.2.2 (hb5.mono (by omega))⟩)
          clear r1 r2 r3 r4 r5 hr hb5 e0
          go_wp2
          go_ret
          exact ⟨by rw [HO.out]; exact ⟨_, rfl, HG.out.1, HG.out.2.1⟩, HG.out.2.2⟩
    · have d1 : ((n : Int) == ht) = false := beq_eq_false_iff_ne.2 h1
      have HO := Lib.hid (show O = none by
        rw [HM.out.2.2]
        show (if GridT wd ht s then some (gridL s, r) else none) = none
        rw [if_neg (fun h => h1 (by rw [HC.out.1]; exact h.1))])
      clear h1 HC hok
      go_wp2_with (go_at_call 120; refine (hno _).mono ?_; rintro e w' ⟨rfl, rfl⟩)
      exact ⟨rfl, by rw [HO.out], J0.out.2.2⟩
end Go.Proofs.YtgmokojdlbdjeaaGreatDoor
