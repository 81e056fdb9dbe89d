/-
  BOOKS: PLAIN. Sums, lines, reading and writing.
-/
import Derived.Test.YtaadelcmhbgpnaaGreatDoorTxtM
import Derived.Test.YtaadelcmhbgpnaaGreatDoorTxtC
import Derived.IntWalk
namespace Go.Proofs.YtaadelcmhbgpnaaGreatDoor
open Go.Lib
/-- The sum of a text. -/
def sumB (s : Int) (c : UInt8) : Int := (s * 257 + (c.toNat : Int) + 1) % 1000003
def sumT (before : Int) (t : List UInt8) : Int := t.foldl sumB (before % 1000003)
theorem sumB_bd (s : Int) (c : UInt8) : 0 ≤ sumB s c ∧ sumB s c < 1000003 := ⟨Int.emod_nonneg _ (by omega), Int.emod_lt_of_pos _ (by omega)⟩
theorem fold_bd : ∀ (t : List UInt8) (s : Int), 0 ≤ s → s < 1000003 → 0 ≤ t.foldl sumB s ∧ t.foldl sumB s < 1000003
  | [], _, h0, h1 => ⟨h0, h1⟩
  | c :: t, s, _, _ => fold_bd t (sumB s c) (sumB_bd s c).1 (sumB_bd s c).2
theorem sumT_bd (b : Int) (t : List UInt8) : 0 ≤ sumT b t ∧ sumT b t < 1000003 := fold_bd t _ (Int.emod_nonneg _ (by omega)) (Int.emod_lt_of_pos _ (by omega))
theorem sumT_app (b : Int) (x y : List UInt8) : sumT (sumT b x) y = sumT b (x ++ y) := by
  obtain ⟨h0, h1⟩ := sumT_bd b x
  unfold sumT at *
  rw [List.foldl_append, Int.emod_eq_of_lt h0 h1]
/-- What is summed of a line, and the line. -/
def lineS (n : Nat) (t : List UInt8) : List UInt8 := itoa (n : Int) ++ 32 :: t
def lineT (n : Nat) (b : Int) (t : List UInt8) : List UInt8 := itoa (n : Int) ++ 32 :: (itoa (sumT b (lineS n t)) ++ 32 :: (t ++ [10]))
/-- The sum that a line has. -/
def lineZ (n : Nat) (b : Int) (t : List UInt8) : Int := sumT b (lineS n t)
/-- A text that a line can have. -/
def rightC (c : UInt8) : Bool := decide (32 ≤ c.toNat) && decide (c.toNat ≤ 126)
def rightT (t : List UInt8) : Bool := decide (t ≠ []) && decide (t.length ≤ 80) && decide (t.head? ≠ some 32) && decide (t.getLast? ≠ some 32) && t.all rightC
theorem rightT_iff {t : List UInt8} : rightT t = true ↔ t ≠ [] ∧ t.length ≤ 80 ∧ t.head? ≠ some 32 ∧ t.getLast? ≠ some 32 ∧ t.all rightC = true := by
  unfold rightT
  simp only [Bool.and_eq_true, decide_eq_true_eq, and_assoc]
theorem right_no {t : List UInt8} (h : rightT t = true) : (10 : UInt8) ∉ t := fun hm => by
  have := List.all_eq_true.1 (rightT_iff.1 h).2.2.2.2 _ hm
  exact absurd this (by decide)
theorem itoa_free {n : Nat} {c : UInt8} (hc : c.toNat < 48) : c ∉ itoa (n : Int) := fun hm => by
  unfold itoa at hm
  rw [if_neg (by omega)] at hm
  have := dec_all _ c hm
  omega
theorem itoa_free' {z : Int} (hz : 0 ≤ z) {c : UInt8} (hc : c.toNat < 48) : c ∉ itoa z := by
  obtain ⟨n, rfl⟩ := Int.eq_ofNat_of_zero_le hz
  exact itoa_free hc
theorem itoa_ne {n : Nat} : itoa (n : Int) ≠ [] := by
  unfold itoa
  rw [if_neg (by omega)]
  exact dec_ne_nil _
theorem itoa_small {z : Int} {k : Nat} (h0 : 0 ≤ z) (h1 : z < 10 ^ k) (hk : 0 < k) : (itoa z).length ≤ k := by
  obtain ⟨n, rfl⟩ := Int.eq_ofNat_of_zero_le h0
  unfold itoa
  rw [if_neg (by omega)]
  have e : ((10 : Int) ^ k) = ((10 ^ k : Nat) : Int) := by rw [Int.natCast_pow]; rfl
  exact dec_length (by rw [e] at h1; omega) hk
/-- The text of the line that a book begins with. -/
def behind1 (c : UInt8) (X : List UInt8) : List UInt8 := (X.dropWhile (fun x => x != c)).drop 1
def textOf (X : List UInt8) : List UInt8 := (behind1 32 (behind1 32 X)).takeWhile (fun x => x != 10)
theorem behind1_app {c : UInt8} : ∀ {a r : List UInt8}, c ∉ a → behind1 c (a ++ c :: r) = r
  | [], r, _ => by simp [behind1]
  | x :: a, r, h => by
    have hx : x ≠ c := fun e => h (by rw [e]; simp)
    have := behind1_app (a := a) (r := r) (fun hm => h (List.mem_cons_of_mem _ hm))
    unfold behind1 at this ⊢
    rw [List.cons_append, List.dropWhile_cons_of_pos (by simp [hx])]
    exact this
theorem until_app {c : UInt8} : ∀ {a r : List UInt8}, c ∉ a → (a ++ c :: r).takeWhile (fun x => x != c) = a
  | [], r, _ => by simp
  | x :: a, r, h => by
    have hx : x ≠ c := fun e => h (by rw [e]; simp)
    rw [List.cons_append, List.takeWhile_cons_of_pos (by simp [hx]), until_app fun hm => h (List.mem_cons_of_mem _ hm)]
theorem line_app (n : Nat) (b : Int) (t r : List UInt8) : lineT n b t ++ r = itoa (n : Int) ++ 32 :: (itoa (lineZ n b t) ++ 32 :: (t ++ 10 :: r)) := by
  unfold lineT lineZ
  simp [List.append_assoc]
theorem text_line {n : Nat} {b : Int} {t r : List UInt8} (h : (10 : UInt8) ∉ t) : textOf (lineT n b t ++ r) = t := by
  rw [line_app]
  unfold textOf
  rw [behind1_app (itoa_free (by decide)), behind1_app (a := itoa (lineZ n b t)) (itoa_free' (sumT_bd _ _).1 (by decide)), until_app h]
/-- The first line of a book, if it has one. -/
def firstB (X : List UInt8) (n : Nat) (b : Int) : Option (List UInt8) :=
  if rightT (textOf X) = true ∧ lineT n b (textOf X) <+: X then some (textOf X) else none
theorem firstB_some {X : List UInt8} {n : Nat} {b : Int} {t : List UInt8} : firstB X n b = some t ↔ rightT t = true ∧ lineT n b t <+: X := by
  unfold firstB
  constructor
  · intro h
    split at h
    · rename_i hc
      injection h with h
      subst h
      exact hc
    · cases h
  · rintro ⟨h1, r, rfl⟩
    rw [text_line (right_no h1), if_pos ⟨h1, r, rfl⟩]
theorem firstB_none {X : List UInt8} {n : Nat} {b : Int} : firstB X n b = none ↔ ∀ t, rightT t = true → ¬ lineT n b t <+: X := by
  constructor
  · intro h t h1 h2
    rw [firstB_some.2 ⟨h1, h2⟩] at h
    cases h
  · intro h
    cases e : firstB X n b with
    | none => rfl
    | some t => exact absurd (firstB_some.1 e).2 (h t (firstB_some.1 e).1)
theorem firstB_app {n : Nat} {b : Int} {t r : List UInt8} (h : rightT t = true) : firstB (lineT n b t ++ r) n b = some t := firstB_some.2 ⟨h, r, rfl⟩
/-- A book's lines by their texts, and the rest. -/
def readB : Nat → Nat → Int → List UInt8 → List (List UInt8) × List UInt8
  | 0, _, _, X => ([], X)
  | k + 1, n, b, X => match firstB X n b with
    | none => ([], X)
    | some t => let r := readB k (n + 1) (lineZ n b t) (X.drop (lineT n b t).length); (t :: r.1, r.2)
def writeB : Nat → Int → List (List UInt8) → List UInt8
  | _, _, [] => []
  | n, b, t :: ts => lineT n b t ++ writeB (n + 1) (lineZ n b t) ts
/-- The sum behind lines. -/
def endZ : Nat → Int → List (List UInt8) → Int
  | _, b, [] => b
  | n, b, t :: ts => endZ (n + 1) (lineZ n b t) ts
/-- The sums of lines. -/
def sumsB : Nat → Int → List (List UInt8) → List Int
  | _, _, [] => []
  | n, b, t :: ts => lineZ n b t :: sumsB (n + 1) (lineZ n b t) ts
theorem sumsB_len : ∀ (ts : List (List UInt8)) (n : Nat) (b : Int), (sumsB n b ts).length = ts.length
  | [], _, _ => rfl
  | _ :: ts, n, b => by simp [sumsB, sumsB_len ts]
theorem readB_none {k n : Nat} {b : Int} {X : List UInt8} (h : firstB X n b = none) : readB k n b X = ([], X) := by
  cases k with
  | zero => rfl
  | succ k => simp [readB, h]
theorem readB_some {k n : Nat} {b : Int} {X t : List UInt8} (h : firstB X n b = some t) : readB (k + 1) n b X = (t :: (readB k (n + 1) (lineZ n b t) (X.drop (lineT n b t).length)).1, (readB k (n + 1) (lineZ n b t) (X.drop (lineT n b t).length)).2) := by
  simp [readB, h]
theorem writeB_app : ∀ (ts us : List (List UInt8)) (n : Nat) (b : Int), writeB n b (ts ++ us) = writeB n b ts ++ writeB (n + ts.length) (endZ n b ts) us
  | [], us, n, b => by simp [writeB, endZ]
  | t :: ts, us, n, b => by
    simp only [List.cons_append, writeB, endZ, List.length_cons, List.append_assoc]
    rw [writeB_app ts us (n + 1), show n + 1 + ts.length = n + (ts.length + 1) by omega]
theorem endZ_app : ∀ (ts us : List (List UInt8)) (n : Nat) (b : Int), endZ n b (ts ++ us) = endZ (n + ts.length) (endZ n b ts) us
  | [], us, n, b => by simp [endZ]
  | t :: ts, us, n, b => by
    simp only [List.cons_append, endZ, List.length_cons]
    rw [endZ_app ts us (n + 1), show n + 1 + ts.length = n + (ts.length + 1) by omega]
theorem sumsB_app : ∀ (ts us : List (List UInt8)) (n : Nat) (b : Int), sumsB n b (ts ++ us) = sumsB n b ts ++ sumsB (n + ts.length) (endZ n b ts) us
  | [], us, n, b => by simp [sumsB, endZ]
  | t :: ts, us, n, b => by
    simp only [List.cons_append, sumsB, endZ, List.length_cons]
    rw [sumsB_app ts us (n + 1), show n + 1 + ts.length = n + (ts.length + 1) by omega]
/-- What has been read: lines, and a rest that is none, or the lines are too many. -/
structure Reads (k n : Nat) (b : Int) (X : List UInt8) (ts : List (List UInt8)) (r : List UInt8) : Prop where
  eq : X = writeB n b ts ++ r
  right : ∀ t ∈ ts, rightT t = true
  len : ts.length ≤ k
  fin : ts.length = k ∨ firstB r (n + ts.length) (endZ n b ts) = none
theorem reads_uniq : ∀ (k n : Nat) (b : Int) (X : List UInt8) (ts : List (List UInt8)) (r : List UInt8), Reads k n b X ts r → readB k n b X = (ts, r)
  | 0, n, b, X, ts, r, h => by
    have := h.len
    obtain rfl : ts = [] := List.length_eq_zero_iff.1 (by omega)
    rw [h.eq]; rfl
  | k + 1, n, b, X, [], r, h => by
    have hn : firstB r n b = none := by
      rcases h.fin with h1 | h1
      · simp at h1
      · exact h1
    have : X = r := h.eq
    rw [this, readB_none hn]
  | k + 1, n, b, X, t :: ts, r, h => by
    have hX : X = lineT n b t ++ (writeB (n + 1) (lineZ n b t) ts ++ r) := by rw [h.eq]; simp [writeB]
    have ht := h.right t (by simp)
    have ih := reads_uniq k (n + 1) (lineZ n b t) (writeB (n + 1) (lineZ n b t) ts ++ r) ts r ⟨rfl, fun u hu => h.right u (by simp [hu]), by have := h.len; simp at this; omega, by
      rcases h.fin with h1 | h1
      · left; simp at h1; omega
      · right
        rw [show n + 1 + ts.length = n + (t :: ts).length by simp; omega]
        exact h1⟩
    rw [hX, readB_some (firstB_app ht), List.drop_left, ih]
theorem reads_of : ∀ (k n : Nat) (b : Int) (X : List UInt8), Reads k n b X (readB k n b X).1 (readB k n b X).2
  | 0, n, b, X => ⟨rfl, by simp [readB], by simp [readB], .inl rfl⟩
  | k + 1, n, b, X => by
    cases h : firstB X n b with
    | none =>
      rw [readB_none h]
      exact ⟨rfl, by simp, by simp, .inr h⟩
    | some t =>
      rw [readB_some h]
      obtain ⟨h1, r, h2⟩ := firstB_some.1 h
      have ih := reads_of k (n + 1) (lineZ n b t) (X.drop (lineT n b t).length)
      have hd : X.drop (lineT n b t).length = r := by rw [← h2, List.drop_left]
      refine ⟨?_, ?_, ?_, ?_⟩
      · have := ih.eq
        simp only [writeB, List.append_assoc]
        rw [← this, hd, h2]
      · intro u hu
        rcases List.mem_cons.1 hu with rfl | hu
        · exact h1
        · exact ih.right u hu
      · have := ih.len
        simp only [List.length_cons]
        omega
      · rcases ih.fin with h3 | h3
        · left; simp only [List.length_cons]; omega
        · right
          simp only [endZ, List.length_cons]
          rw [show n + ((readB k (n + 1) (lineZ n b t) (X.drop (lineT n b t).length)).1.length + 1) = n + 1 + (readB k (n + 1) (lineZ n b t) (X.drop (lineT n b t).length)).1.length by omega]
          exact h3
theorem firstB_nil (n : Nat) (b : Int) : firstB [] n b = none := firstB_none.2 fun t _ h => by
  have := List.eq_nil_of_prefix_nil h
  unfold lineT at this
  simp at this
/-- Books of lines. -/
def Rights (ts : List (List UInt8)) : Prop := ∀ t ∈ ts, rightT t = true
theorem read_write {ts : List (List UInt8)} (h : Rights ts) (hl : ts.length ≤ 200) : readB 200 1 0 (writeB 1 0 ts) = (ts, []) :=
  reads_uniq _ _ _ _ _ _ ⟨by simp, h, hl, .inr (firstB_nil _ _)⟩
/-- One step of a reader. -/
theorem read_step {n : Nat} {b : Int} {X Y : List UInt8} {ts : List (List UInt8)} {k : Nat} (hk : ts.length ≤ k) (hX : X = writeB n b ts ++ Y) (hr : Rights ts) {r : List UInt8} {us : List (List UInt8)} (hn : readB (k - ts.length) (n + ts.length) (endZ n b ts) Y = (us, r)) : readB k n b X = (ts ++ us, r) := by
  have h := reads_of (k - ts.length) (n + ts.length) (endZ n b ts) Y
  rw [hn] at h
  refine reads_uniq _ _ _ _ _ _ ⟨?_, ?_, ?_, ?_⟩
  · rw [hX, writeB_app, List.append_assoc, ← h.eq]
  · intro t ht
    rcases List.mem_append.1 ht with ht | ht
    · exact hr t ht
    · exact h.right t ht
  · have := h.len; rw [List.length_append]; simp only at this; omega
  · rcases h.fin with h1 | h1
    · left; rw [List.length_append]; simp only at h1; omega
    · right
      rw [endZ_app, List.length_append, ← Nat.add_assoc]
      exact h1
end Go.Proofs.YtaadelcmhbgpnaaGreatDoor
/-
  BOOKS: Sum of the program and of the reference.
-/
namespace Go.Proofs.YtaadelcmhbgpnaaGreatDoor
open Go.RowKit
open Go.Lib
theorem tmod_low (n : Int) {d : Int} (hd : 0 < d) : -d < n.tmod d := by
  have h := Int.tmod_lt_of_pos (-n) hd
  rw [Int.neg_tmod] at h
  omega
theorem emod_tmod (n : Int) {d : Int} (hd : 0 < d) : n % d = if n.tmod d < 0 then n.tmod d + d else n.tmod d := by
  have h1 := Int.mul_tdiv_add_tmod n d
  have h2 := tmod_low n hd
  have h3 := Int.tmod_lt_of_pos n hd
  split
  · refine ((Int.ediv_emod_unique hd (q := n.tdiv d - 1)).2 ⟨?_, by omega, by omega⟩).2
    rw [Int.mul_sub, Int.mul_one]; omega
  · exact ((Int.ediv_emod_unique hd (q := n.tdiv d)).2 ⟨by omega, by omega, by omega⟩).2
/-- The sum of a beginning of a text. -/
def sumK (b : Int) (l : List UInt8) (k : Nat) : Int := (l.take k).foldl sumB (b % 1000003)
theorem sumK_zero (b : Int) (l : List UInt8) : sumK b l 0 = b % 1000003 := rfl
theorem sumK_all (b : Int) (l : List UInt8) : sumK b l l.length = sumT b l := by unfold sumK sumT; rw [List.take_length]
theorem sumK_step (b : Int) (s : ByteArray) {k : Nat} (h : k < s.size) : sumK b s.data.toList (k + 1) = (sumK b s.data.toList k * 257 + (s[k].toNat : Int) + 1) % 1000003 := by
  have e := drop_take_snoc s 0 k h (by omega)
  simp only [List.drop_zero, Nat.sub_zero] at e
  unfold sumK
  rw [e, List.foldl_append]
  rfl
theorem sumK_bd (b : Int) (l : List UInt8) (k : Nat) : 0 ≤ sumK b l k ∧ sumK b l k < 1000003 := fold_bd _ _ (Int.emod_nonneg _ (by omega)) (Int.emod_lt_of_pos _ (by omega))
set_option maxRecDepth 100000 in
theorem psum_any (b : Int) (s : ByteArray) (hs : s.size ≤ 1000000) (w : World) :
    Calls Tryz.prog 33 #[.int .i64 b, .string s] w fun e w' => e = .returned (.int .i64 (sumT b s.data.toList)) ∧ w = w' := by
  have hl : s.data.toList.length = s.size := Array.length_toList
  have HA := Lib.hid (show sumK b s.data.toList s.size = sumT b s.data.toList by rw [← hl]; exact sumK_all _ _)
  have he := emod_tmod b (show (0 : Int) < 1000003 by omega)
  have t1 := tmod_low b (show (0 : Int) < 1000003 by omega)
  have t2 := Int.tmod_lt_of_pos b (show (0 : Int) < 1000003 by omega)
  obtain ⟨m, hm⟩ : ∃ m, b.tmod 1000003 = m := ⟨_, rfl⟩
  rw [hm] at he t1 t2
  have HE := Lib.hid (show sumK b s.data.toList 0 = if m < 0 then m + 1000003 else m by rw [sumK_zero]; exact he)
  have HST := Lib.hid (fun k h => sumK_step b s (k := k) h)
  have HBD := Lib.hid (fun k => sumK_bd b s.data.toList k)
  obtain ⟨F, hF⟩ : ∃ F, F = sumK b s.data.toList := ⟨_, rfl⟩
  rw [← hF] at HA HE HST HBD
  have km : IntKind.i64.wrap m = m := IntWalk.i64_in _ (by omega)
  clear he hF hl
  by_cases hneg : m < 0
  · have HE2 := Lib.hid (show m + 1000003 = F 0 by rw [HE.out, if_pos hneg])
    clear HE
    go_enter Tryz.func33, Tryz.ntmps33
    go_upto_region 5 with fail
    clear hm km
    go_loopw [5, 15] (fun u t wr => ∃ (x : Int) (i : Nat), u = .int .i64 x ∧ t = .int .i64 i ∧ i ≤ s.size ∧ 0 ≤ x ∧ x < 1000003 ∧ wr = w ∧ Hid (x = F i)) (fun _ t _ => s.size - (intOf t).toNat)
    case atStart => exact ⟨m + 1000003, 0, rfl, rfl, by omega, by omega, by omega, rfl, HE2⟩
    case round =>
      obtain ⟨x, i, rfl, rfl, hi, hx0, hx1, rfl, hx⟩ := hrel
      by_cases hlt : i < s.size
      · have dl : decide ((i : Int) < (s.size : Int)) = true := decide_eq_true (by omega)
        have HS := Lib.hid (HST.out i hlt)
        have HB2 := Lib.hid (HBD.out (i + 1))
        obtain ⟨u, hu⟩ : ∃ u : Nat, s[i].toNat = u := ⟨_, rfl⟩
        have hu9 : u < 256 := by rw [← hu]; exact s[i].toNat_lt
        rw [hu, ← hx.out] at HS
        have HB3 := Lib.hid (show 0 ≤ (x * 257 + (u : Int) + 1) % 1000003 ∧ (x * 257 + (u : Int) + 1) % 1000003 < 1000003 from ⟨Int.emod_nonneg _ (by omega), Int.emod_lt_of_pos _ (by omega)⟩)
        clear hx
        go_wp2
        go_roundw
        case rel => exact ⟨(x * 257 + (u : Int) + 1) % 1000003, i + 1, by go_num, by go_num, by omega, HB3.out.1, HB3.out.2, trivial, Lib.hid HS.out.symm⟩
        case measure => simp [intOf]; omega
      · obtain rfl : i = s.size := by omega
        have dl : decide ((s.size : Int) < (s.size : Int)) = false := decide_eq_false (by omega)
        have HX := Lib.hid (show x = sumT b s.data.toList by rw [hx.out, HA.out])
        clear hx hlt
        go_wp2
        go_ret
        exact ⟨by rw [← HX.out] <;> rfl, rfl⟩
  · have HE2 := Lib.hid (show m = F 0 by rw [HE.out, if_neg hneg])
    clear HE
    go_enter Tryz.func33, Tryz.ntmps33
    go_upto_region 5 with fail
    clear hm km
    go_loopw [5, 15] (fun u t wr => ∃ (x : Int) (i : Nat), u = .int .i64 x ∧ t = .int .i64 i ∧ i ≤ s.size ∧ 0 ≤ x ∧ x < 1000003 ∧ wr = w ∧ Hid (x = F i)) (fun _ t _ => s.size - (intOf t).toNat)
    case atStart => exact ⟨m, 0, rfl, rfl, by omega, by omega, by omega, rfl, HE2⟩
    case round =>
      obtain ⟨x, i, rfl, rfl, hi, hx0, hx1, rfl, hx⟩ := hrel
      by_cases hlt : i < s.size
      · have dl : decide ((i : Int) < (s.size : Int)) = true := decide_eq_true (by omega)
        have HS := Lib.hid (HST.out i hlt)
        have HB2 := Lib.hid (HBD.out (i + 1))
        obtain ⟨u, hu⟩ : ∃ u : Nat, s[i].toNat = u := ⟨_, rfl⟩
        have hu9 : u < 256 := by rw [← hu]; exact s[i].toNat_lt
        rw [hu, ← hx.out] at HS
        have HB3 := Lib.hid (show 0 ≤ (x * 257 + (u : Int) + 1) % 1000003 ∧ (x * 257 + (u : Int) + 1) % 1000003 < 1000003 from ⟨Int.emod_nonneg _ (by omega), Int.emod_lt_of_pos _ (by omega)⟩)
        clear hx
        go_wp2
        go_roundw
        case rel => exact ⟨(x * 257 + (u : Int) + 1) % 1000003, i + 1, by go_num, by go_num, by omega, HB3.out.1, HB3.out.2, trivial, Lib.hid HS.out.symm⟩
        case measure => simp [intOf]; omega
      · obtain rfl : i = s.size := by omega
        have dl : decide ((s.size : Int) < (s.size : Int)) = false := decide_eq_false (by omega)
        have HX := Lib.hid (show x = sumT b s.data.toList by rw [hx.out, HA.out])
        clear hx hlt
        go_wp2
        go_ret
        exact ⟨by rw [← HX.out] <;> rfl, rfl⟩
set_option maxRecDepth 100000 in
theorem rsum_any (b : Int) (s : ByteArray) (hs : s.size ≤ 1000000) (w : World) :
    Calls Tryz.prog 70 #[.int .i64 b, .string s] w fun e w' => e = .returned (.int .i64 (sumT b s.data.toList)) ∧ w = w' := by
  have hl : s.data.toList.length = s.size := Array.length_toList
  have HA := Lib.hid (show sumK b s.data.toList s.size = sumT b s.data.toList by rw [← hl]; exact sumK_all _ _)
  have he := emod_tmod b (show (0 : Int) < 1000003 by omega)
  have t1 := tmod_low b (show (0 : Int) < 1000003 by omega)
  have t2 := Int.tmod_lt_of_pos b (show (0 : Int) < 1000003 by omega)
  obtain ⟨m, hm⟩ : ∃ m, b.tmod 1000003 = m := ⟨_, rfl⟩
  rw [hm] at he t1 t2
  have HE2 := Lib.hid (show (m + 1000003) % 1000003 = sumK b s.data.toList 0 by
    rw [sumK_zero, he, Int.add_emod_right]
    split
    · have e1 : (m + 1000003) % 1000003 = m + 1000003 := Int.emod_eq_of_lt (by omega) (by omega)
      rw [Int.add_emod_right] at e1
      exact e1
    · exact Int.emod_eq_of_lt (by omega) (by omega))
  have HE3 := Lib.hid (show 0 ≤ (m + 1000003) % 1000003 ∧ (m + 1000003) % 1000003 < 1000003 from ⟨Int.emod_nonneg _ (by omega), Int.emod_lt_of_pos _ (by omega)⟩)
  have HST := Lib.hid (fun k h => sumK_step b s (k := k) h)
  have HBD := Lib.hid (fun k => sumK_bd b s.data.toList k)
  obtain ⟨F, hF⟩ : ∃ F, F = sumK b s.data.toList := ⟨_, rfl⟩
  rw [← hF] at HA HE2 HST HBD
  have km : IntKind.i64.wrap m = m := IntWalk.i64_in _ (by omega)
  clear he hF hl
  go_enter Tryz.func70, Tryz.ntmps70
  go_upto_region 3 with fail
  have x0 := HE3.out.1
  have x1 := HE3.out.2
  obtain ⟨y, hy⟩ : ∃ y, y = (m + 1000003) % 1000003 := ⟨_, rfl⟩
  rw [← hy] at HE2 x0 x1 ⊢
  clear hy
  go_upto_region 3 with fail
  clear hm km
  go_loopw [5, 6] (fun u t wr => ∃ (x : Int) (i : Nat), u = .int .i64 x ∧ t = .int .i64 i ∧ i ≤ s.size ∧ 0 ≤ x ∧ x < 1000003 ∧ wr = w ∧ Hid (x = F i)) (fun _ t _ => s.size - (intOf t).toNat)
  case atStart => exact ⟨y, 0, rfl, rfl, by omega, by omega, by omega, rfl, HE2⟩
  case round =>
    obtain ⟨x, i, rfl, rfl, hi, hx0, hx1, rfl, hx⟩ := hrel
    by_cases hlt : i < s.size
    · have dl : decide ((i : Int) < (s.size : Int)) = true := decide_eq_true (by omega)
      have HS := Lib.hid (HST.out i hlt)
      have HB2 := Lib.hid (HBD.out (i + 1))
      obtain ⟨u, hu⟩ : ∃ u : Nat, s[i].toNat = u := ⟨_, rfl⟩
      have hu9 : u < 256 := by rw [← hu]; exact s[i].toNat_lt
      rw [hu, ← hx.out] at HS
      have HB3 := Lib.hid (show 0 ≤ (x * 257 + (u : Int) + 1) % 1000003 ∧ (x * 257 + (u : Int) + 1) % 1000003 < 1000003 from ⟨Int.emod_nonneg _ (by omega), Int.emod_lt_of_pos _ (by omega)⟩)
      clear hx
      go_wp2
      go_roundw
      case rel => exact ⟨(x * 257 + (u : Int) + 1) % 1000003, i + 1, by go_num, by go_num, by omega, HB3.out.1, HB3.out.2, trivial, Lib.hid HS.out.symm⟩
      case measure => simp [intOf]; omega
    · obtain rfl : i = s.size := by omega
      have dl : decide ((s.size : Int) < (s.size : Int)) = false := decide_eq_false (by omega)
      have HX := Lib.hid (show x = sumT b s.data.toList by rw [hx.out, HA.out])
      clear hx hlt
      go_wp2
      go_ret
      exact ⟨by rw [← HX.out] <;> rfl, rfl⟩
end Go.Proofs.YtaadelcmhbgpnaaGreatDoor
