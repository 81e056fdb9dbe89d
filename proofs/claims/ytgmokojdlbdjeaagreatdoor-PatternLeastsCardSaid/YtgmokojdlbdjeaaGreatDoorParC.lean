/-
  THE PROGRAM's PARSER: numbers.
-/
import Derived.Test.YtgmokojdlbdjeaaGreatDoorParB
namespace Go.Proofs.YtgmokojdlbdjeaaGreatDoor
open Go.RowKit
/-- The number that a word is, if it is one. -/
def numV (s : ByteArray) : Option Int := match Lib.atoiAll s.data.toList with
  | .ok n => if Lib.itoa n = s.data.toList ∧ farC n = false then some n else none
  | _ => none
/-- So many numbers, and the words behind them. -/
def numsO : Nat → List ByteArray → Option (List Int × List ByteArray)
  | 0, ws => some ([], ws)
  | _ + 1, [] => none
  | k + 1, s :: ws => match numV s with
    | none => none
    | some n => match numsO k ws with
      | none => none
      | some (l, r) => some (n :: l, r)
/-- The world in which the library's variables hold what they do; the parser is younger. -/
structure PW (pb : Nat) (w : World) : Prop where
  ex : ∃ W0, LibOK W0 ∧ Below W0.heap.size W0 w ∧ W0.heap.size ≤ pb
theorem PW.lib {pb : Nat} {w : World} (h : PW pb w) : LibOK w := by
  obtain ⟨W0, h1, h2, -⟩ := h.ex
  exact h1.below h2
theorem PW.grown {pb : Nat} {w w' : World} (h : PW pb w) (hg : w.grownBy w' (some pb)) : PW pb w' := by
  obtain ⟨W0, h1, h2, h3⟩ := h.ex
  exact ⟨⟨W0, h1, h2.grown hg h2.size (fun g e => by cases e; exact h3), h3⟩⟩
theorem PW.below {pb B : Nat} {w w' : World} (h : PW pb w) (hb : Below B w w') (hB : pb < B) : PW pb w' := by
  obtain ⟨W0, h1, h2, h3⟩ := h.ex
  exact ⟨⟨W0, h1, h2.trans (hb.mono (by omega)), h3⟩⟩
set_option maxRecDepth 100000 in
theorem next_no (B pb : Nat) (w : World) (h : PS B w pb []) :
    Calls Tryz.prog 121 #[.pointer (some ⟨pb, 0, none⟩)] w fun e w' => e = .panicked MalP ∧ w = w' := by
  obtain ⟨A, c, h1, -⟩ := h
  simp only [List.length_nil] at h1
  have hno := demand_no
  go_enter Tryz.func121, Tryz.ntmps121
  go_wp2_with (go_at_call 120; refine (hno _).mono ?_; rintro e w' ⟨rfl, rfl⟩)
  exact ⟨rfl, rfl, rfl⟩
theorem grown_then {w w1 w2 : World} {row : Option Nat} (h : w.grownBy w1 row) (k : w1.grownBy w2 row) : w.grownBy w2 row :=
  ⟨k.os.trans h.os, k.tape.trans h.tape, k.output.trans h.output, Nat.le_trans h.size k.size, fun i hi hne => (k.block i (Nat.lt_of_lt_of_le hi h.size) hne).trans (h.block i hi hne)⟩
theorem grown_low {w w1 w2 : World} {row : Option Nat} (h : w.grownBy w1 row) (k : Below w.heap.size w1 w2) : w.grownBy w2 row :=
  ⟨k.os.trans h.os, k.tape.trans h.tape, k.output.trans h.output, Nat.le_trans h.size k.size, fun i hi hne => (k.block i hi).trans (h.block i hi hne)⟩
theorem grown_of {w w' : World} (h : Below w.heap.size w w') (row : Option Nat) : w.grownBy w' row := ⟨h.os, h.tape, h.output, h.size, fun k hk _ => h.block k hk⟩
/-- The words are of a length that Go can lay. -/
def Mod (ws : List ByteArray) : Prop := ws.length ≤ 1000000 ∧ ∀ s ∈ ws, s.size ≤ 10000
theorem Mod.tail {s : ByteArray} {ws : List ByteArray} (h : Mod (s :: ws)) : Mod ws := ⟨by have := h.1; simp at this; omega, fun x hx => h.2 x (by simp [hx])⟩
/-- What reading some of the words gives: the value and the words behind it, or the panic. -/
def Outs (B : Nat) (w : World) (pb : Nat) (o : Option (List Int × List ByteArray)) (e : Ending) (w' : World) : Prop := (match o with
  | some (l, r) => ∃ v, e = .returned v ∧ OwnI w' w.heap.size v l ∧ PS B w' pb r
  | none => e = .panicked MalP) ∧ w.grownBy w' (some pb)
theorem same_str (a : List UInt8) (s : ByteArray) : ((⟨a.toArray⟩ : ByteArray).toList == s.toList) = (a == s.data.toList) := by
  rw [Lib.toList_data, Lib.toList_data]
set_option maxRecDepth 100000 in
set_option maxHeartbeats 2000000 in
theorem numbers_any (B pb c : Nat) (hc : c ≤ 100) (ws : List ByteArray) (hm : Mod ws) (w : World) (h : PS B w pb ws) (hw : PW pb w) :
    Calls Tryz.prog 122 #[.pointer (some ⟨pb, 0, none⟩), .int .i64 (c : Int)] w (Outs B w pb (numsO c ws)) := by
  have hpb := h.lt
  obtain ⟨O, hO⟩ : ∃ O, O = numsO c ws := ⟨_, rfl⟩
  rw [← hO]
  have R0 := Lib.hid (show ∃ l r, OwnI w w.heap.size (.slice none 0 0) l ∧ l.length = 0 ∧ PS B w pb r ∧ Mod r ∧ PW pb w ∧ w.grownBy w (some pb) ∧ O = (numsO (c - 0) r).map (fun p => (l ++ p.1, p.2)) from
    ⟨[], ws, OwnI.nil _ _, rfl, h, hm, hw, grown_of (Below.refl _ _) _, by rw [hO]; simp⟩)
  have hok := demand_ok
  have hno := demand_no
  clear hO h hw hm
  go_enter Tryz.func122, Tryz.ntmps122
  go_wp2
  go_loopw [5, 10] (fun v t wr => ∃ k : Nat, t = .int .i64 k ∧ k ≤ c ∧ Hid (∃ l r, OwnI wr w.heap.size v l ∧ l.length = k ∧ PS B wr pb r ∧ Mod r ∧ PW pb wr ∧ w.grownBy wr (some pb) ∧ O = (numsO (c - k) r).map (fun p => (l ++ p.1, p.2)))) (fun _ t _ => c - (intOf t).toNat)
  case atStart => exact ⟨0, rfl, by omega, R0⟩
  case round =>
    obtain ⟨k, rfl, hk, hr⟩ := hrel
    by_cases hlt : k < c
    · obtain ⟨l, r, r1, r2, r3, r4, r5, r6, r7⟩ := hr.out
      cases r with
      | nil =>
        have HO := Lib.hid (show O = none by
          rw [r7, show c - k = (c - k - 1) + 1 by omega]; rfl)
        have HG := Lib.hid r6
        have hnx := next_no B pb wr r3
        clear hr r1 r2 r3 r4 r5 r6 r7 hok hno
        go_wp2_with (go_at_call 121; refine hnx.mono ?_; rintro e w' ⟨rfl, rfl⟩)
        exact ⟨rfl, by rw [HO.out], HG.out⟩
      | cons s r =>
        have hnx := next_ok B pb s r wr (by have := r4.1; simp at this; omega) r3
        have HS := Lib.hid (And.intro r1 (And.intro r2 (And.intro r4 (And.intro r5 (And.intro r6 r7)))))
        clear hr r1 r2 r3 r4 r5 r6 r7
        go_wp2_with fail
        refine hnx.mono ?_
        rintro e w1 ⟨rfl, q1, q2⟩
        obtain ⟨r1, r2, r4, r5, r6, r7⟩ := HS.out
        have hown := r1.grown q2 (by
          by_cases hv : Value.ownBlock u5 = some pb
          · exact absurd (r1.lt' _ hv).1 (by omega)
          · exact .inr hv)
        have hat := atoi_any s (Nat.le_trans (r4.2 s (by simp)) (by decide)) w1 (r5.grown q2).lib
        have J1 := Lib.hid (show OwnI w1 w.heap.size u5 l ∧ PS B w1 pb r ∧ Mod r ∧ PW pb w1 ∧ w.grownBy w1 (some pb) from ⟨hown, q1, r4.tail, r5.grown q2, grown_then r6 q2⟩)
        have HL := Lib.hid (And.intro r2 r7)
        clear hown q1 r4 r5 q2 r6 r1 r2 r7 HS hnx
        go_wp2_with fail
        refine hat.mono ?_
        rintro e w2 ⟨v, er, rfl, v0, v1, hres, hb2⟩
        have J2 := Lib.hid (show OwnI w2 w.heap.size u5 l ∧ PS B w2 pb r ∧ Mod r ∧ PW pb w2 ∧ w.grownBy w2 (some pb) from ⟨J1.out.1.keep hb2, J1.out.2.1.other (hb2.mono (J1.out.2.1.lt.2)), J1.out.2.2.1, J1.out.2.2.2.1.grown (grown_of hb2 _), grown_then J1.out.2.2.2.2 (grown_of hb2 _)⟩)
        clear hat hb2 J1
        rcases hres with ⟨rfl, ha⟩ | ⟨⟨N, rfl⟩, ha⟩
        · by_cases hi : Lib.itoa v = s.data.toList
          · have d1 : (Lib.itoa v == s.toList) = true := by rw [Lib.toList_data, beq_iff_eq]; exact hi
            obtain ⟨f, hf⟩ : ∃ f, f = farC v := ⟨_, rfl⟩
            have HA := Lib.hid (And.intro ha (And.intro hi hf))
            clear ha hi hf
            go_wp2_with fail
            refine (itoa_any v v0 v1 w2 J2.out.2.2.2.1.lib).mono ?_
            rintro e w3 ⟨rfl, hb3⟩
            have J3 := Lib.hid (show OwnI w3 w.heap.size u5 l ∧ PS B w3 pb r ∧ Mod r ∧ PW pb w3 ∧ w.grownBy w3 (some pb) from ⟨J2.out.1.keep hb3, J2.out.2.1.other (hb3.mono (J2.out.2.1.lt.2)), J2.out.2.2.1, J2.out.2.2.2.1.grown (grown_of hb3 _), grown_then J2.out.2.2.2.2 (grown_of hb3 _)⟩)
            clear hb3 J2
            go_wp2_with fail
            have hL : IsL (w3.alloc (.cells #[.int .i64 v] 3)) (some ⟨w3.heap.size, 0, none⟩) 1 [v] := (RowI.isL (w := w3.alloc (.cells #[.int .i64 v] 3)) (g := w3.heap.size) (zs := [v]) (Row.new w3 #[.int .i64 v] 3))
            refine (near_any _ 1 1 [v] (by simp) _ hL).mono ?_
            rintro e w5 ⟨rfl, hb5⟩
            have hb6 : Below w3.heap.size w3 w5 := ((Below.refl w3.heap.size w3).alloc (Nat.le_refl _) _).trans (hb5.mono (by simp))
            have J4 := Lib.hid (show OwnI w5 w.heap.size u5 l ∧ PS B w5 pb r ∧ Mod r ∧ PW pb w5 ∧ w.grownBy w5 (some pb) from ⟨J3.out.1.keep hb6, J3.out.2.1.other (hb6.mono (J3.out.2.1.lt.2)), J3.out.2.2.1, J3.out.2.2.2.1.grown (grown_of hb6 _), grown_then J3.out.2.2.2.2 (grown_of hb6 _)⟩)
            rw [show (!([v] : List Int).any farC) = !f by rw [HA.out.2.2]; simp]
            clear hL hb5 hb6 J3
            cases f with
            | true =>
              have HO := Lib.hid (show O = none by
                rw [HL.out.2, show c - k = (c - k - 1) + 1 by omega]
                simp [numsO, numV, HA.out.1, HA.out.2.1, ← HA.out.2.2])
              have HG := Lib.hid J4.out.2.2.2.2
              clear J4 HL HA
              go_wp2_with (go_at_call 120; refine (hno _).mono ?_; rintro e w' ⟨rfl, rfl⟩)
              exact ⟨rfl, by rw [HO.out], HG.out⟩
            | false =>
              have HO := Lib.hid (show O = (numsO (c - (k + 1)) r).map (fun p => ((l ++ [v]) ++ p.1, p.2)) by
                rw [HL.out.2, show c - k = (c - (k + 1)) + 1 by omega]
                simp only [numsO, numV, HA.out.1, HA.out.2.1, ← HA.out.2.2, true_and, if_true]
                cases numsO (c - (k + 1)) r with
                | none => rfl
                | some p => simp)
              have HM := Lib.hid (show (l ++ [v]).length = k + 1 by simp [HL.out.1])
              have HLM := Lib.hid (show l.length ≤ 1000000 by rw [HL.out.1]; omega)
              clear HL HA
              go_wp2_with (first | (go_at_call 120; refine (hok _).mono ?_; rintro e w' ⟨rfl, rfl⟩) | (at_builtin; refine append_i64 (.tmp 33) (.tmp 35) rfl rfl w.heap.size _ _ v w5 rfl rfl J4.out.1 rfl HLM.out J4.out.2.2.2.2.size ?_))
              intro v' w6 ho6 hg6 hd6
              have hb7 : Below w.heap.size w5 w6 := (Below.refl w.heap.size w5).grown hg6 J4.out.2.2.2.2.size (fun g e => (J4.out.1.lt' g e).1)
              have R2 := Lib.hid (show ∃ l r, OwnI w6 w.heap.size v' l ∧ l.length = k + 1 ∧ PS B w6 pb r ∧ Mod r ∧ PW pb w6 ∧ w.grownBy w6 (some pb) ∧ O = (numsO (c - (k + 1)) r).map (fun p => (l ++ p.1, p.2)) from
                ⟨_, r, ho6, HM.out, J4.out.2.1.other (hb7.mono hpb.2), J4.out.2.2.1, J4.out.2.2.2.1.below hb7 (by omega), grown_low J4.out.2.2.2.2 hb7, HO.out⟩)
              clear ho6 hg6 hd6 hb7 J4 HO HM
              go_wp2
              go_roundw
              case rel => exact ⟨k + 1, by go_num, by omega, R2⟩
              case measure => simp [intOf]; omega
          · have d1 : (Lib.itoa v == s.toList) = false := by rw [Lib.toList_data, beq_eq_false_iff_ne]; exact hi
            have HO := Lib.hid (show O = none by
              rw [HL.out.2, show c - k = (c - k - 1) + 1 by omega]
              simp [numsO, numV, ha, hi])
            clear ha hi
            go_wp2_with fail
            refine (itoa_any v v0 v1 w2 J2.out.2.2.2.1.lib).mono ?_
            rintro e w3 ⟨rfl, hb3⟩
            have HG := Lib.hid (grown_then J2.out.2.2.2.2 (grown_of hb3 _))
            clear hb3 J2 HL
            go_wp2_with (go_at_call 120; refine (hno _).mono ?_; rintro e w' ⟨rfl, rfl⟩)
            exact ⟨rfl, by rw [HO.out], HG.out⟩
        · have HO := Lib.hid (show O = none by
            rw [HL.out.2, show c - k = (c - k - 1) + 1 by omega]
            have : numV s = none := by
              unfold numV
              split
              · rename_i n hn; exact absurd hn (ha n)
              · rfl
            simp [numsO, this])
          have HG := Lib.hid J2.out.2.2.2.2
          clear ha J2 HL
          go_wp2_with (go_at_call 120; refine (hno _).mono ?_; rintro e w' ⟨rfl, rfl⟩)
          exact ⟨rfl, by rw [HO.out], HG.out⟩
    · obtain rfl : k = c := by omega
      obtain ⟨l, r, r1, r2, r3, r4, r5, r6, r7⟩ := hr.out
      have HO := Lib.hid (show O = some (l, r) by rw [r7, Nat.sub_self]; simp [numsO])
      have HG := Lib.hid (And.intro r1 (And.intro r3 r6))
      clear r1 r2 r3 r4 r5 r6 r7 hr
      go_wp2
      go_ret
      exact ⟨by rw [HO.out]; exact ⟨_, rfl, HG.out.1, HG.out.2.1⟩, HG.out.2.2⟩
end Go.Proofs.YtgmokojdlbdjeaaGreatDoor
