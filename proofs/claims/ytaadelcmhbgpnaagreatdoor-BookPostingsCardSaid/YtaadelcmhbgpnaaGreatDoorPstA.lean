/-
  BOOKS: the postings of a book's lines: PLAIN; lists of postings that may be appended to.
-/
import Derived.Test.YtaadelcmhbgpnaaGreatDoorBokX
import Derived.Test.YtaadelcmhbgpnaaGreatDoorBolA
namespace Go.Proofs.YtaadelcmhbgpnaaGreatDoor
open Go.RowKit
open Go.Lib
/-- What a text is read as. -/
noncomputable def parseP (t : List UInt8) : Option Po := open Classical in if h : ∃ y, valPo [y] = 0 ∧ postT y = t then some h.choose else none
theorem parseP_of {t : List UInt8} {x : Po} {z : Int} (h : PrsP t x z) : (z = 0 ∧ parseP t = some x) ∨ (z = 3 ∧ x = noPo ∧ parseP t = none) := by
  rcases h with ⟨rfl, h1, h2⟩ | ⟨rfl, rfl, h3⟩
  · refine .inl ⟨rfl, ?_⟩
    have he : ∃ y, valPo [y] = 0 ∧ postT y = t := ⟨x, h1, h2⟩
    unfold parseP
    rw [dif_pos he]
    have := he.choose_spec
    rw [postT_inj this.1 h1 (this.2.trans h2.symm)]
  · refine .inr ⟨rfl, rfl, ?_⟩
    unfold parseP
    rw [dif_neg]
    rintro ⟨y, h1, h2⟩
    exact h3 y h1 h2
def isPost (t : List UInt8) : Bool := hasPrefix t [112, 111, 115, 116, 32]
noncomputable def postL : List (List UInt8) → Option (List Po)
  | [] => some []
  | t :: ts => if isPost t = true then (match parseP t with
    | none => none
    | some x => (postL ts).map (x :: ·)) else postL ts
theorem postL_skip {ts : List (List UInt8)} {k : Nat} (h : k < ts.length) (hp : isPost ts[k] = false) : postL (ts.drop k) = postL (ts.drop (k + 1)) := by
  rw [List.drop_eq_getElem_cons h, postL, if_neg (by rw [hp]; simp)]
theorem postL_none {ts : List (List UInt8)} {k : Nat} (h : k < ts.length) (hp : isPost ts[k] = true) (hn : parseP ts[k] = none) : postL (ts.drop k) = none := by
  rw [List.drop_eq_getElem_cons h, postL, if_pos hp, hn]
theorem postL_some {ts : List (List UInt8)} {k : Nat} (h : k < ts.length) (hp : isPost ts[k] = true) {x : Po} (hn : parseP ts[k] = some x) : postL (ts.drop k) = (postL (ts.drop (k + 1))).map (x :: ·) := by
  rw [List.drop_eq_getElem_cons h, postL, if_pos hp, hn]
theorem map_snoc {o : Option (List Po)} {l : List Po} {x : Po} : (o.map (x :: ·)).map (l ++ ·) = o.map ((l ++ [x]) ++ ·) := by
  cases o <;> simp
/-- What Postings returns. -/
noncomputable def postsV (X : List UInt8) : List Po × Int :=
  if (readB 200 1 0 X).2 ≠ [] then ([], 15)
  else match postL (readB 200 1 0 X).1 with
    | none => ([], 3)
    | some l => if 64 < l.length then ([], 4) else (l, 0)
/-- The slice value v holds postings in memory from block B on, and may be appended to. -/
def OwnPo (w : World) (B : Nat) (v : Value) (l : List Po) : Prop := w.ownsRow B 65 3 v l.length (flatP l)
theorem OwnPo.nil (w : World) (B : Nat) : OwnPo w B (.slice none 0 0) [] := World.ownsRow_nil _ _ _ _
theorem OwnPo.keep {w w' : World} {B : Nat} {v : Value} {l : List Po} (hb : Below w.heap.size w w') (h : OwnPo w B v l) : OwnPo w' B v l :=
  World.ownsRow.kept h (row := none) ⟨hb.os, hb.tape, hb.output, hb.size, fun k hk _ => hb.block k hk⟩ (by cases v.ownBlock <;> simp)
theorem OwnPo.lt {w : World} {B : Nat} {v : Value} {l : List Po} (h : OwnPo w B v l) : ∀ g, v.ownBlock = some g → B ≤ g ∧ g < w.heap.size := World.ownsRow.lt h
theorem OwnPo.parts {w : World} {B : Nat} {v : Value} {l : List Po} (h : OwnPo w B v l) : ∃ A c, v = .slice A l.length c ∧ IsPo w A l ∧ l.length ≤ c := by
  rcases h.2 with ⟨hv, h0⟩ | ⟨g, cap, cur, hv, hB, hg, hn, -, hs, ht⟩
  · exact ⟨none, 0, by rw [hv, h0], fun hp => by omega, by omega⟩
  · subst hv
    have hr := (Row.of_own h).1
    refine ⟨some ⟨g, 0, none⟩, cap, rfl, fun _ => ⟨g, 0, rfl, hr.lt, fun k hk => ?_⟩, hn⟩
    obtain ⟨h1, h2, h3⟩ := flatP_at l k hk
    have hl := flatP_len l
    have q1 := hr.get (k * 3) (by omega)
    have q2 := hr.get (k * 3 + 1) (by omega)
    have q3 := hr.get (k * 3 + 2) (by omega)
    rw [List.getElem?_eq_getElem (by omega)] at h1 h2 h3
    simp only [Nat.zero_add]
    exact ⟨q1.trans h1, q2.trans h2, q3.trans h3⟩
theorem poInfo : (Tryz.prog.info? 65).map (fun i => (i.zero, i.size, i.bytes)) = some (some (.agg #[.string ByteArray.empty, .string ByteArray.empty, .int .i64 0]), 3, 40) := by kernel_rfl
/-- append(s, x) of one posting. -/
theorem append_post {w : World} {ops : Array Oper} {rest : List Oper} {o : Oper} {a : Act} {Q : Exit → Act → World → Prop} (s x : Operand)
    (ho : o.op = .call { callee := .builtin .append, args := #[s, x], argTypes := #[26, 26] }) (hgd : o.guard = none)
    (B : Nat) (v : Value) (l : List Po) (p : Po) (W : World) (hW : w = W.alloc (.cells #[.string p.d, .string p.c, .int .i64 p.p] 65)) (hs : a.eval s = v) (hown : OwnPo W B v l) (hx : a.eval x = .slice (some ⟨W.heap.size, 0, none⟩) 1 1)
    (hn : l.length ≤ 1000000) (hB : B ≤ W.heap.size)
    (h : ∀ v' w', OwnPo w' B v' (l ++ [p]) → W.grownBy w' v.ownBlock → (v'.ownBlock = v.ownBlock ∨ v'.ownBlock = some (W.heap.size + 1)) → wpList Tryz.prog ops Q rest (a.put o.dst v') w') : wpList Tryz.prog ops Q (o :: rest) a w := by
  subst hW
  obtain ⟨i0, hi, hz0, hz1, hz2⟩ := info_parts poInfo
  refine wpList_append_lies (P := Tryz.prog) (w := W.alloc (.cells #[.string p.d, .string p.c, .int .i64 p.p] 65)) hgd s x 26 ho B 65 i0 (.agg #[.string ByteArray.empty, .string ByteArray.empty, .int .i64 0]) 3 40 Tryz.underlying26 hi hz0 hz1 hz2 rfl (by decide) v l.length _ hs (World.ownsRow.alloc hown _) ⟨W.heap.size, 0, none⟩ 1 1 [.string p.d, .string p.c, .int .i64 p.p] hx rfl
    (by intro j u hu; match j, hu with | 0, hu => simp at hu; subst hu; simp [Addr.add] | 1, hu => simp at hu; subst hu; simp [Addr.add] | 2, hu => simp at hu; subst hu; simp [Addr.add]) (by intro u hu; simp at hu; rcases hu with rfl | rfl | rfl <;> rfl) (by omega) (by unfold maxLen; omega) (by omega) (by simp; omega) (W.heap.size + 1) (by simp) ?_
  intro g cap w' h1 h2 h3 h4
  refine h _ w' ?_ ?_ ?_
  · unfold OwnPo
    rw [List.length_append, flatP_app]
    exact h1
  · exact ⟨h2.os, h2.tape, h2.output, by have := h2.size; simp at this; omega, fun k hk hne => (h2.block k (by simp; omega) hne).trans (heap_alloc_old W _ hk)⟩
  · rcases h3 with h3 | h3
    · exact .inl h3.symm
    · subst h3; exact .inr rfl
end Go.Proofs.YtaadelcmhbgpnaaGreatDoor
