/-
  SLICES OF STRINGS; Split, THE REFERENCE'S.
-/
import Derived.Test.YtlinldbbhdpgcaaGreatDoorTxtC
import Derived.Test.YtlinldbbhdpgcaaGreatDoorOwn
import Derived.Lib.Strings
namespace Go.Proofs.YtlinldbbhdpgcaaGreatDoor
open Go.RowKit Go.Lib
/-- The slice with address A and length n reads as the strings xs. -/
def IsS (w : World) (A : Option Addr) (n : Nat) (xs : List ByteArray) : Prop :=
  xs.length = n ∧ (0 < n → ∃ b o, A = some ⟨b, o, none⟩ ∧ b < w.heap.size ∧ ∀ i (h : i < xs.length), w.cell? ⟨b, o + i, none⟩ = some (.string xs[i]))
theorem IsS.below {w w' : World} {A : Option Addr} {n : Nat} {xs : List ByteArray} (hb : Below w.heap.size w w') (h : IsS w A n xs) : IsS w' A n xs := by
  refine ⟨h.1, fun hn => ?_⟩
  obtain ⟨b, o, rfl, hlt, hc⟩ := h.2 hn
  exact ⟨b, o, rfl, Nat.lt_of_lt_of_le hlt hb.size, fun i hi => (hb.cell (p := ⟨b, o + i, none⟩) hlt).trans (hc i hi)⟩
/-- The slice value v holds the strings xs in memory from block B on, and may be appended to. -/
def OwnS (w : World) (B : Nat) (v : Value) (xs : List ByteArray) : Prop := w.ownsRow B 9 1 v xs.length (xs.map Value.string)
theorem OwnS.nil (w : World) (B : Nat) : OwnS w B (.slice none 0 0) [] := World.ownsRow_nil _ _ _ _
theorem OwnS.isS {w : World} {B : Nat} {v : Value} {xs : List ByteArray} (h : OwnS w B v xs) : ∃ A c, v = .slice A xs.length c ∧ IsS w A xs.length xs ∧ xs.length ≤ c := by
  rcases h.2 with ⟨hv, h0⟩ | ⟨g, cap, cur, hv, hb, hg, hn, -, hs, ht⟩
  · exact ⟨none, 0, by rw [hv, h0], ⟨rfl, fun hp => by omega⟩, by omega⟩
  · subst hv
    have hr := (Row.of_own h).1
    refine ⟨some ⟨g, 0, none⟩, cap, rfl, ⟨rfl, fun _ => ⟨g, 0, rfl, hr.lt, fun i hi => ?_⟩⟩, hn⟩
    rw [Nat.zero_add]
    have := hr.get i (by simpa using hi)
    rw [this]; simp
theorem OwnS.keep {w w' : World} {B : Nat} {v : Value} {xs : List ByteArray} (hb : Below w.heap.size w w') (h : OwnS w B v xs) : OwnS w' B v xs :=
  World.ownsRow.kept h (row := none) ⟨hb.os, hb.tape, hb.output, hb.size, fun k hk _ => hb.block k hk⟩ (by cases v.ownBlock <;> simp)
theorem OwnS.lt {w : World} {B : Nat} {v : Value} {xs : List ByteArray} (h : OwnS w B v xs) : ∀ g, v.ownBlock = some g → B ≤ g ∧ g < w.heap.size := World.ownsRow.lt h
theorem strInfo : (Tryz.prog.info? 9).map (fun i => (i.zero, i.size, i.bytes)) = some (some (.string ByteArray.empty), 1, 16) := by kernel_rfl
/-- append(s, x) of one string: the cell of x lies in the block that was made last. -/
theorem append_str {w : World} {ops : Array Oper} {rest : List Oper} {o : Oper} {a : Act} {Q : Exit → Act → World → Prop} (s x : Operand)
    (ho : o.op = .call { callee := .builtin .append, args := #[s, x], argTypes := #[79, 79] }) (hgd : o.guard = none)
    (B : Nat) (v : Value) (xs : List ByteArray) (k : ByteArray) (W : World) (hW : w = W.alloc (.cells #[.string k] 9)) (hs : a.eval s = v) (hown : OwnS W B v xs) (hx : a.eval x = .slice (some ⟨W.heap.size, 0, none⟩) 1 1)
    (hn : xs.length ≤ 1000000) (hB : B ≤ W.heap.size)
    (h : ∀ v' w', OwnS w' B v' (xs ++ [k]) → W.grownBy w' v.ownBlock → (v'.ownBlock = v.ownBlock ∨ v'.ownBlock = some (W.heap.size + 1)) → wpList Tryz.prog ops Q rest (a.put o.dst v') w') : wpList Tryz.prog ops Q (o :: rest) a w := by
  subst hW
  obtain ⟨i0, hi, hz0, hz1, hz2⟩ := info_parts strInfo
  refine wpList_append_lies (P := Tryz.prog) (w := W.alloc (.cells #[.string k] 9)) hgd s x 79 ho B 9 i0 _ 1 16 Tryz.underlying79 hi hz0 hz1 hz2 rfl (by decide) v xs.length _ hs (World.ownsRow.alloc hown _) ⟨W.heap.size, 0, none⟩ 1 1 [.string k] hx rfl
    (by intro j u hu; match j, hu with | 0, hu => simp at hu; subst hu; simp [Addr.add]) (by intro u hu; simp at hu; subst hu; rfl) (by omega) (by unfold maxLen; omega) (by omega) (by simp; omega) (W.heap.size + 1) (by simp) ?_
  intro g cap w' h1 h2 h3 h4
  refine h _ w' ?_ ?_ ?_
  · unfold OwnS
    rw [List.length_append, List.map_append]
    exact h1
  · exact ⟨h2.os, h2.tape, h2.output, by have := h2.size; simp at this; omega, fun k hk hne => (h2.block k (by simp; omega) hne).trans (heap_alloc_old W _ hk)⟩
  · rcases h3 with h3 | h3
    · exact .inl h3.symm
    · subst h3; exact .inr rfl
end Go.Proofs.YtlinldbbhdpgcaaGreatDoor
/-
  Split, THE REFERENCE'S.
-/
namespace Go.Proofs.YtlinldbbhdpgcaaGreatDoor
open Go.RowKit Go.Lib
/-- The pieces of a text between the separators. -/
def splitL (b : UInt8) : List UInt8 → List (List UInt8)
  | [] => [[]]
  | c :: r => if c = b then [] :: splitL b r else match splitL b r with
    | [] => [[c]]
    | p :: ps => (c :: p) :: ps
/-- .. behind some pieces and the beginning of one. -/
def glue (b : UInt8) (P : List (List UInt8)) (cur r : List UInt8) : List (List UInt8) := match splitL b r with
  | [] => P ++ [cur]
  | p :: ps => P ++ (cur ++ p) :: ps
theorem splitL_ne (b : UInt8) (l : List UInt8) : splitL b l ≠ [] := by
  cases l with
  | nil => simp [splitL]
  | cons c r =>
    simp only [splitL]
    split
    · simp
    · split <;> simp
theorem glue_sep (b : UInt8) (P : List (List UInt8)) (cur r : List UInt8) : glue b P cur (b :: r) = glue b (P ++ [cur]) [] r := by
  unfold glue
  have := splitL_ne b r
  simp only [splitL, if_true]
  cases h : splitL b r with
  | nil => exact absurd h this
  | cons p ps => simp
theorem glue_char {b c : UInt8} (h : c ≠ b) (P : List (List UInt8)) (cur r : List UInt8) : glue b P cur (c :: r) = glue b P (cur ++ [c]) r := by
  unfold glue
  simp only [splitL, if_neg h]
  cases splitL b r <;> simp
theorem glue_start (b : UInt8) (t : List UInt8) : glue b [] [] t = splitL b t := by
  unfold glue
  cases t with
  | nil => simp [splitL]
  | cons c r =>
    cases h : splitL b (c :: r) with
    | nil =>
      simp only [splitL] at h
      split at h
      · cases h
      · split at h <;> cases h
    | cons p ps => simp
theorem glue_end (b : UInt8) (P : List (List UInt8)) (cur : List UInt8) : glue b P cur [] = P ++ [cur] := by simp [glue, splitL]
/-- A list of strings in memory of the call's own. -/
def OutS (w : World) (l : List (List UInt8)) (e : Ending) (w' : World) : Prop :=
  ∃ A c xs, e = .returned (.slice A xs.length c) ∧ IsS w' A xs.length xs ∧ xs.map (·.data.toList) = l ∧ Below w.heap.size w w'
theorem ext_list (s : ByteArray) (i j : Nat) : (s.extract i j).data.toList = (s.data.toList.drop i).take (j - i) := by
  rw [ByteArray.data_extract, Array.toList_extract, List.extract_eq_take_drop]
theorem drop_cons (s : ByteArray) (i : Nat) (h : i < s.size) : s.data.toList.drop i = s[i] :: s.data.toList.drop (i + 1) := by
  rw [List.drop_eq_getElem_cons (by simpa using h)]; rfl
set_option maxRecDepth 100000 in
set_option maxHeartbeats 2000000 in
theorem split_any (s : ByteArray) (b : UInt8) (hs : s.size ≤ 900000) (w : World) :
    Calls Tryz.prog 48 #[.string s, .int .u8 b.toNat] w (OutS w (splitL b s.data.toList)) := by
  go_enter Tryz.func48, Tryz.ntmps48
  go_wp2
  go_loopw [5, 6, 7] (fun v f i wr => ∃ (m k : Nat) (xs : List ByteArray), f = .int .i64 m ∧ i = .int .i64 k ∧ m ≤ k ∧ k ≤ s.size ∧ xs.length ≤ k ∧ Hid (Below w.heap.size w wr ∧ OwnS wr w.heap.size v xs ∧ glue b (xs.map (·.data.toList)) ((s.data.toList.drop m).take (k - m)) (s.data.toList.drop k) = splitL b s.data.toList)) (fun _ _ i _ => s.size - (intOf i).toNat)
  case atStart => exact ⟨0, 0, [], rfl, rfl, by omega, by omega, by simp, Below.refl _ _, OwnS.nil _ _, by simp [glue_start]⟩
  case round =>
    obtain ⟨m, k, xs, rfl, rfl, hmk, hk, hxl, hr⟩ := hrel
    by_cases hlt : k < s.size
    · obtain ⟨c, hc⟩ : ∃ c, s[k] = c := ⟨_, rfl⟩
      have hd := drop_cons s k hlt
      rw [hc] at hd
      have HD := Lib.hid hd
      clear hd
      by_cases hcb : c = b
      · subst hcb
        have hq : ((s[k].toNat : Int) == (c.toNat : Int)) = true := by rw [hc]; simp
        have hx := ext_list s m k
        have hg : glue c ((xs ++ [s.extract m k]).map (·.data.toList)) (((s.data.toList.drop (k + 1)).take (k + 1 - (k + 1)))) (s.data.toList.drop (k + 1)) = splitL c s.data.toList := by
          rw [← hr.out.2.2, HD.out, glue_sep, List.map_append, List.map_cons, List.map_nil, hx]; simp
        have HG := Lib.hid hg
        have hz := hr.out.1.size
        clear hc hx hg
        go_wp2_with (at_builtin; refine append_str (.tmp 19) (.tmp 24) rfl rfl w.heap.size _ xs (s.extract m k) wr rfl rfl hr.out.2.1 rfl (by omega) hz ?_)
        intro v' w1 ho hg' hd'
        have HB := Lib.hid (hr.out.1.grown hg' hz (fun g hg => (hr.out.2.1.lt g hg).1))
        have HO := Lib.hid ho
        clear ho hg' hd'
        go_wp2
        go_roundw
        case rel => exact ⟨k + 1, k + 1, xs ++ [s.extract m k], by go_num, by go_num, by omega, by omega, by simp; omega, HB.out, HO.out, HG.out⟩
        case measure => simp [intOf]; omega
      · have hq : ((s[k].toNat : Int) == (b.toNat : Int)) = false := by
          rw [hc, beq_eq_false_iff_ne]
          intro h
          exact hcb (UInt8.toNat.inj (by omega))
        have hg : glue b (xs.map (·.data.toList)) ((s.data.toList.drop m).take (k + 1 - m)) (s.data.toList.drop (k + 1)) = splitL b s.data.toList := by
          have hk2 : k - m < (s.data.toList.drop m).length := by simp; omega
          have ht : (s.data.toList.drop m).take (k + 1 - m) = (s.data.toList.drop m).take (k - m) ++ [c] := by
            rw [show k + 1 - m = (k - m) + 1 by omega, List.take_succ_eq_append_getElem hk2]
            congr 2
            simp only [List.getElem_drop, show m + (k - m) = k by omega]
            exact hc
          rw [ht, ← hr.out.2.2, HD.out, glue_char hcb]
        have HG := Lib.hid hg
        clear hc hg
        go_wp2
        go_roundw
        case rel => exact ⟨m, k + 1, xs, rfl, by go_num, by omega, by omega, by omega, hr.out.1, hr.out.2.1, HG.out⟩
        case measure => simp [intOf]; omega
    · obtain rfl : k = s.size := by omega
      have hx := ext_list s m s.size
      have hg : (xs ++ [s.extract m s.size]).map (·.data.toList) = splitL b s.data.toList := by
        rw [← hr.out.2.2, List.drop_of_length_le (show s.data.toList.length ≤ s.size by simp), glue_end, List.map_append, List.map_cons, List.map_nil, hx]
      have HG := Lib.hid hg
      have hz := hr.out.1.size
      clear hx hg
      go_wp2_with (at_builtin; refine append_str (.tmp 28) (.tmp 32) rfl rfl w.heap.size _ xs (s.extract m s.size) wr rfl rfl hr.out.2.1 rfl (by omega) hz ?_)
      intro v' w1 ho hg' hd'
      have HB := Lib.hid (hr.out.1.grown hg' hz (fun g hg => (hr.out.2.1.lt g hg).1))
      obtain ⟨A, c, rfl, hI, -⟩ := ho.isS
      have HO := Lib.hid hI
      clear ho hg' hd' hI
      go_wp2
      go_ret
      exact ⟨A, c, _, rfl, HO.out, HG.out, HB.out⟩
end Go.Proofs.YtlinldbbhdpgcaaGreatDoor
