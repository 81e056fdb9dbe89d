/-
  THE PROGRAM's PARSER: rows.
-/
import Derived.Test.YtgmokojdlbdjeaaGreatDoorParC
import Derived.Deep.MidRow
import Derived.Lib.SplitLaws
namespace Go.Proofs.YtgmokojdlbdjeaaGreatDoor
open Go.RowKit
/-- append(s, ks...) of integers. -/
theorem append_ints {w : World} {ops : Array Oper} {rest : List Oper} {o : Oper} {a : Act} {Q : Exit → Act → World → Prop} (s x : Operand)
    (ho : o.op = .call { callee := .builtin .append, args := #[s, x], argTypes := #[22, 22] }) (hgd : o.guard = none)
    (B : Nat) (v : Value) (zs ks : List Int) (A : Option Addr) (c : Nat) (hs : a.eval s = v) (hown : OwnI w B v zs) (hx : a.eval x = .slice A ks.length c) (hk : IsL w A ks.length ks)
    (hpos : 0 < ks.length) (hn : zs.length + ks.length ≤ 1000000000) (hB : B ≤ w.heap.size)
    (h : ∀ v' w', OwnI w' B v' (zs ++ ks) → w.grownBy w' v.ownBlock → (v'.ownBlock = v.ownBlock ∨ v'.ownBlock = some w.heap.size) → wpList Tryz.prog ops Q rest (a.put o.dst v') w') : wpList Tryz.prog ops Q (o :: rest) a w := by
  obtain ⟨i0, hi, hz0, hz1, hz2⟩ := info_parts intInfo
  obtain ⟨b, of, rfl, hlt, hc⟩ := hk.2 hpos
  refine wpList_append_lies (P := Tryz.prog) (w := w) hgd s x 22 ho B 3 i0 (.int .i64 0) 1 8 Tryz.underlying22 hi hz0 hz1 hz2 rfl (by decide) v zs.length _ hs hown ⟨b, of, none⟩ ks.length c (ks.map (Value.int .i64)) hx (by simp)
    (fun j u hu => by
      obtain ⟨hj, rfl⟩ := List.getElem?_eq_some_iff.1 hu
      rw [List.length_map] at hj
      rw [Addr.add_mid, hc j hj]
      simp [hj]) (fun u hu => by obtain ⟨y, -, rfl⟩ := List.mem_map.1 hu; rfl) hpos (by unfold maxLen; omega) (by omega) hB w.heap.size rfl ?_
  intro g cap w' h1 h2 h3 h4
  refine h _ w' ?_ h2 ?_
  · unfold OwnI
    rw [List.length_append, List.map_append]
    exact h1
  · rcases h3 with h3 | h3
    · exact .inl h3.symm
    · subst h3; exact .inr rfl
/-- The rows of a word. -/
def rowsS (s : ByteArray) : List ByteArray := Lib.splitB ⟨#[47]⟩ 0 (Lib.countB s ⟨#[47]⟩) s
theorem rows_len (s : ByteArray) : (rowsS s).length = Lib.countB s ⟨#[47]⟩ + 1 := Lib.splitB_all ⟨#[47]⟩ (by decide) 0 _ s rfl
theorem rows_count (s : ByteArray) : Lib.countB s ⟨#[47]⟩ ≤ s.size := Lib.countB_le ⟨#[47]⟩ (by decide) _ s (Nat.le_refl _)
theorem split_size (sep : ByteArray) : ∀ (k : Nat) (s x : ByteArray), x ∈ Lib.splitB sep 0 k s → x.size ≤ s.size
  | 0, s, x, h => by rw [Lib.splitB_zero] at h; rw [List.mem_singleton.1 h]; exact Nat.le_refl _
  | k + 1, s, x, h => by
    unfold Lib.splitB at h
    split at h
    · rw [List.mem_singleton.1 h]; exact Nat.le_refl _
    · rcases List.mem_cons.1 h with h | h
      · rw [h, ByteArray.size_extract]; omega
      · have := split_size sep k _ x h
        rw [ByteArray.size_extract] at this; omega
theorem rows_size (s x : ByteArray) (h : x ∈ rowsS s) : x.size ≤ s.size := split_size _ _ s x h
/-- A word that is a grid of digits. -/
def GridT (width height : Int) (s : ByteArray) : Prop := ((rowsS s).length : Int) = height ∧ ∀ x ∈ rowsS s, (x.size : Int) = width ∧ 0 < width ∧ DigT x
def gridL (s : ByteArray) : List Int := (rowsS s).flatMap digL
instance (s : ByteArray) : Decidable (DigT s) := by unfold DigT; infer_instance
instance (W H : Int) (s : ByteArray) : Decidable (GridT W H s) := by unfold GridT; infer_instance
/-- Rows of digits, and the words behind them. -/
def rowsO (W H : Int) : List ByteArray → Option (List Int × List ByteArray)
  | [] => none
  | s :: r => if GridT W H s then some (gridL s, r) else none
set_option maxRecDepth 100000 in
set_option maxHeartbeats 2000000 in
theorem rows_any (B pb : Nat) (wd ht : Int) (ws : List ByteArray) (hm : Mod ws) (w : World) (h : PS B w pb ws) (hw : PW pb w) :
    Calls Tryz.prog 123 #[.pointer (some ⟨pb, 0, none⟩), .int .i64 wd, .int .i64 ht] w (Outs B w pb (rowsO wd ht ws)) := by
  have hpb := h.lt
  obtain ⟨O, hO⟩ : ∃ O, O = rowsO wd ht ws := ⟨_, rfl⟩
  rw [← hO]
  have hok := demand_ok
  have hno := demand_no
  cases ws with
  | nil =>
    have HO := Lib.hid (show O = none from hO)
    have hnx := next_no B pb w h
    clear hok hno hO h hw hm
    go_enter Tryz.func123, Tryz.ntmps123
    go_wp2_with (go_at_call 121; refine hnx.mono ?_; rintro e w' ⟨rfl, rfl⟩)
    exact ⟨rfl, by rw [HO.out], grown_of (Below.refl _ _) _⟩
  | cons s r =>
    have hnx := next_ok B pb s r w (by have := hm.1; simp at this; omega) h
    have HM := Lib.hid (And.intro (hm.2 s (by simp)) (And.intro hw hO))
    clear h hw hm hO
    go_enter Tryz.func123, Tryz.ntmps123
    go_wp2_with fail
    refine hnx.mono ?_
    rintro e w1 ⟨rfl, q1, q2⟩
    have hw1 := HM.out.2.1.grown q2
    obtain ⟨m, hmx⟩ := hw1.lib.mx
    have hsp := Tryz.strings_Split s ⟨#[47]⟩ m w1 (by have := HM.out.1; omega) hmx (by decide)
    have HQ := Lib.hid (And.intro q1 (And.intro q2 hw1))
    clear hnx q1 q2 hw1 hmx
    go_wp2_with fail
    refine hsp.mono ?_
    rintro e w2 ⟨rfl, hw2⟩
    clear hsp
    obtain ⟨n, hn⟩ : ∃ n, n = Lib.countB s ⟨#[47]⟩ + 1 := ⟨_, rfl⟩
    have hrl : n = (rowsS s).length := by rw [rows_len, hn]
    have hb2 : Below w1.heap.size w1 w2 := by rw [hw2]; exact (Below.refl _ _).alloc (Nat.le_refl _) _
    have hg : w1.heap.size < w2.heap.size := by rw [hw2]; simp
    have hc : ∀ i (h : i < n), w2.cell? ⟨w1.heap.size, i, none⟩ = some (.string ((rowsS s).getD i ⟨#[]⟩)) := fun i h => by
      rw [hw2, cell_of_row _ _ i _ _ _ (heap_alloc_new w1 _)]
      show ((rowsS s).map Value.string).toArray[i]? = _
      have : i < (rowsS s).length := by omega
      simp [this]
    have hn6 : n ≤ 10001 := by have := rows_count s; have := HM.out.1; omega
    rw [← hn]
    have J0 := Lib.hid (show PS B w2 pb r ∧ PW pb w2 ∧ w.grownBy w2 (some pb) from ⟨HQ.out.1.other (hb2.mono HQ.out.1.lt.2), HQ.out.2.2.grown (grown_of hb2 _), grown_then HQ.out.2.1 (grown_of hb2 _)⟩)
    obtain ⟨g, hgg⟩ : ∃ g, g = w1.heap.size := ⟨_, rfl⟩
    rw [← hgg] at hg hc ⊢
    have hgw : w.heap.size ≤ g := by rw [hgg]; exact HQ.out.2.1.size
    have HC := Lib.hid (And.intro hrl hc)
    clear hb2 hw2 hn hgg HQ hrl hc
    by_cases h1 : (n : Int) = ht
    · have d1 : ((n : Int) == ht) = true := beq_iff_eq.2 h1
      have R0 := Lib.hid (show ∃ l, OwnI w2 w2.heap.size (.slice none 0 0) l ∧ l = ((rowsS s).take 0).flatMap digL ∧ l.length ≤ 0 * 10000 ∧ (∀ x ∈ (rowsS s).take 0, (x.size : Int) = wd ∧ 0 < wd ∧ DigT x) ∧ Below w2.heap.size w2 w2 from
        ⟨[], OwnI.nil _ _, rfl, by simp, fun x hx => by simp at hx, Below.refl _ _⟩)
      have HT := Lib.hid h1
      clear h1
      go_wp2_with (go_at_call 120; refine (hok _).mono ?_; rintro e w' ⟨rfl, rfl⟩)
      go_loopw [8, 21] (fun v t wr => ∃ k : Nat, t = .int .i64 k ∧ k ≤ n ∧ Hid (∃ l, OwnI wr w2.heap.size v l ∧ l = ((rowsS s).take k).flatMap digL ∧ l.length ≤ k * 10000 ∧ (∀ x ∈ (rowsS s).take k, (x.size : Int) = wd ∧ 0 < wd ∧ DigT x) ∧ Below w2.heap.size w2 wr)) (fun _ t _ => n - (intOf t).toNat)
      case atStart => exact ⟨0, rfl, by omega, R0⟩
      case round =>
        obtain ⟨k, rfl, hk, hr⟩ := hrel
        by_cases hlt : k < n
        · obtain ⟨l, r1, r2, r3, r4, r5⟩ := hr.out
          have q0 := (r5.cell (p := ⟨g, k, none⟩) hg).trans (HC.out.2 k hlt)
          obtain ⟨x, hx⟩ : ∃ x, x = (rowsS s).getD k ⟨#[]⟩ := ⟨_, rfl⟩
          rw [← hx] at q0
          have hkl : k < (rowsS s).length := by have := HC.out.1; omega
          have hxm : x ∈ rowsS s := by rw [hx, List.getD, List.getElem?_eq_getElem hkl]; exact List.getElem_mem hkl
          have hxs : x.size ≤ 10000 := Nat.le_trans (rows_size s x hxm) HM.out.1
          have hfail : ¬ ((x.size : Int) = wd ∧ 0 < wd ∧ DigT x) → O = none := fun hn => by
            rw [HM.out.2.2]
            show (if GridT wd ht s then some (gridL s, r) else none) = none
            rw [if_neg (fun h => hn (h.2 x hxm))]
          have HF := Lib.hid hfail
          have HX := Lib.hid (And.intro hx hxm)
          have HG := Lib.hid (show w.grownBy wr (some pb) from grown_low J0.out.2.2 (r5.mono (by omega)))
          clear hx hxm hfail hkl
          by_cases e1 : (x.size : Int) = wd
          · have t1 : ((x.size : Int) == wd) = true := beq_iff_eq.2 e1
            have E1 := Lib.hid e1
            clear e1
            by_cases e2 : 0 < wd
            · have HR := Lib.hid (And.intro r1 (And.intro r2 (And.intro r3 (And.intro r4 r5))))
              clear hr r1 r2 r3 r4 r5
              go_wp2_with (go_at_call 120; refine (hok _).mono ?_; rintro e w' ⟨rfl, rfl⟩)
              refine (digits_any x (by omega) _).mono ?_
              rintro e w4 ⟨hres, hb4⟩
              rcases hres with ⟨v, rfl, hd, hv⟩ | ⟨rfl, hd⟩
              · obtain ⟨A, c, rfl, hL⟩ := hv.isL
                have hlv : (digL x).length = x.size := by unfold digL; rw [List.length_map]; rfl
                have R4 := Lib.hid (show OwnI w4 w2.heap.size u8 l ∧ Below w2.heap.size w2 w4 from ⟨HR.out.1.keep hb4, HR.out.2.2.2.2.trans (hb4.mono HR.out.2.2.2.2.size)⟩)
                have HP := Lib.hid (show 0 < (digL x).length ∧ l.length + (digL x).length ≤ 1000000000 from ⟨by have := E1.out; omega, by have := HR.out.2.2.1; omega⟩)
                have HD := Lib.hid (And.intro hd (And.intro hL hlv))
                clear hd hL hlv hv hb4
                go_wp2_with (at_builtin; refine append_ints (.tmp 34) (.tmp 36) rfl rfl w2.heap.size _ l (digL x) A c rfl R4.out.1 rfl HD.out.2.1 HP.out.1 HP.out.2 R4.out.2.size ?_)
                intro v' w6 ho6 hg6 hd6
                have R2 := Lib.hid (show ∃ l, OwnI w6 w2.heap.size v' l ∧ l = ((rowsS s).take (k + 1)).flatMap digL ∧ l.length ≤ (k + 1) * 10000 ∧ (∀ x ∈ (rowsS s).take (k + 1), (x.size : Int) = wd ∧ 0 < wd ∧ DigT x) ∧ Below w2.heap.size w2 w6 from by
                  have hkl : k < (rowsS s).length := by have := HC.out.1; omega
                  have et : (rowsS s).take (k + 1) = (rowsS s).take k ++ [x] := by
                    rw [List.take_succ_eq_append_getElem hkl, HX.out.1, List.getD, List.getElem?_eq_getElem hkl]; rfl
                  rw [et]
                  refine ⟨_, ho6, ?_, ?_, fun y hy => ?_, R4.out.2.grown hg6 R4.out.2.size (fun g e => (R4.out.1.lt' g e).1)⟩
                  · rw [List.flatMap_append, ← HR.out.2.1]; simp
                  · rw [List.length_append, HD.out.2.2]; have := HR.out.2.2.1; omega
                  · rcases List.mem_append.1 hy with hy | hy
                    · exact HR.out.2.2.2.1 y hy
                    · rw [List.mem_singleton.1 hy]; exact ⟨E1.out, e2, HD.out.1⟩)
                clear ho6 hg6 hd6 R4 HP HD HR HF HX HG
                go_wp2
                go_roundw
                case rel => exact ⟨k + 1, by go_num, by omega, R2⟩
                case measure => simp [intOf]; omega
              · have HO := Lib.hid (HF.out (fun h => hd h.2.2))
                have HG4 := Lib.hid (grown_then HG.out (grown_of hb4 _))
                clear hd hb4 HF HR
                first
                | exact ⟨rfl, by rw [HO.out], HG4.out⟩
                | (go_wp2; exact ⟨rfl, by rw [HO.out], HG4.out⟩)
            · have HO := Lib.hid (HF.out (fun h => e2 h.2.1))
              have HG2 := HG
              clear hr r1 r2 r3 r4 r5 HF hok
              go_wp2_with (go_at_call 120; refine (hno _).mono ?_; rintro e w' ⟨rfl, rfl⟩)
              exact ⟨rfl, by rw [HO.out], HG2.out⟩
          · have t1 : ((x.size : Int) == wd) = false := beq_eq_false_iff_ne.2 e1
            have HO := Lib.hid (HF.out (fun h => e1 h.1))
            clear e1 hr r1 r2 r3 r4 r5 HF hok
            go_wp2_with (go_at_call 120; refine (hno _).mono ?_; rintro e w' ⟨rfl, rfl⟩)
            exact ⟨rfl, by rw [HO.out], HG.out⟩
        · obtain rfl : k = n := by omega
          obtain ⟨l, r1, r2, r3, r4, r5⟩ := hr.out
          have e0 : (rowsS s).take k = rowsS s := by rw [HC.out.1]; exact List.take_length
          rw [e0] at r2 r4
          have HO := Lib.hid (show O = some (l, r) by
            rw [HM.out.2.2]
            show (if GridT wd ht s then some (gridL s, r) else none) = _
            rw [if_pos ⟨by rw [← HC.out.1]; exact HT.out, r4⟩, r2]; rfl)
          have hb5 : Below w2.heap.size w2 wr := r5
          have HG := Lib.hid (show OwnI wr w.heap.size u8 l ∧ PS B wr pb r ∧ w.grownBy wr (some pb) from ⟨r1.down (by omega), J0.out.1.other (hb5.mono J0.out.1.lt.2), grown_low J0.out.2.2 (hb5.mono (by omega))⟩)
          clear r1 r2 r3 r4 r5 hr hb5 e0
          go_wp2
          go_ret
          exact ⟨by rw [HO.out]; exact ⟨_, rfl, HG.out.1, HG.out.2.1⟩, HG.out.2.2⟩
    · have d1 : ((n : Int) == ht) = false := beq_eq_false_iff_ne.2 h1
      have HO := Lib.hid (show O = none by
        rw [HM.out.2.2]
        show (if GridT wd ht s then some (gridL s, r) else none) = none
        rw [if_neg (fun h => h1 (by rw [HC.out.1]; exact h.1))])
      clear h1 HC hok
      go_wp2_with (go_at_call 120; refine (hno _).mono ?_; rintro e w' ⟨rfl, rfl⟩)
      exact ⟨rfl, by rw [HO.out], J0.out.2.2⟩
end Go.Proofs.YtgmokojdlbdjeaaGreatDoor
