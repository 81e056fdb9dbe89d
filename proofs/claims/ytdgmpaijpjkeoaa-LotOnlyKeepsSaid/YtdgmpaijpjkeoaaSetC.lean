/-
  elders (the program's): a closure that calls itself.
-/
import Derived.Test.YtdgmpaijpjkeoaaSetM
import Derived.Test.YtdgmpaijpjkeoaaRefC
import Derived.Test.YtdgmpaijpjkeoaaLotD
import Derived.Laws.EntriesVeiled
import Derived.Test.YtdgmpaijpjkeoaaBools
import Derived.Test.YtdgmpaijpjkeoaaMixB
import Derived.Deep.MidRow
import Derived.Test.YtdgmpaijpjkeoaaRclM
import Derived.Test.YtdgmpaijpjkeoaaLotP
namespace Go.Proofs.Ytdgmpaijpjkeoaa
open Go.RowKit
theorem RowB.at {w : World} {g : Nat} {bs : List Bool} (h : RowB w g bs) (i : Nat) (hi : i < bs.length) : w.cell? ⟨g, i, none⟩ = some (.bool (bs.getD i false)) := by
  have := Row.get h i (by simpa using hi)
  rw [this]
  simp [hi]
/-- The world of the closure visit: its boxes, the marks. -/
structure EW (w0 w : World) (ob lb vb rb : Nat) (l : List LotD) (A : Option Addr) (c : Nat) (B : Nat → Bool) : Prop where
  c1 : w.cell? ⟨ob, 0, none⟩ = some (.slice (some ⟨rb, 0, none⟩) l.length l.length)
  c2 : w.cell? ⟨lb, 0, none⟩ = some (.slice A l.length c)
  c3 : w.cell? ⟨vb, 0, none⟩ = some (.func (.func 109) #[] #[.pointer (some ⟨ob, 0, none⟩), .pointer (some ⟨lb, 0, none⟩), .pointer (some ⟨vb, 0, none⟩)])
  oz : ob < w.heap.size
  lz : lb < w.heap.size
  vz : vb < w.heap.size
  on : ob ≠ rb
  ln : lb ≠ rb
  vn : vb ≠ rb
  row : RowB w rb (rowB l.length B)
  b : Below w0.heap.size w0 w
  rz : w0.heap.size ≤ rb
  lots : LotsIn w0 A l
section
variable {w0 w w' : World} {ob lb vb rb : Nat} {l : List LotD} {A : Option Addr} {c : Nat} {B B' : Nat → Bool}
theorem EW.keep (h : EW w0 w ob lb vb rb l A c B) (hb : Below w.heap.size w w') : EW w0 w' ob lb vb rb l A c B :=
  ⟨(hb.cell (p := ⟨ob, 0, none⟩) h.oz).trans h.c1, (hb.cell (p := ⟨lb, 0, none⟩) h.lz).trans h.c2, (hb.cell (p := ⟨vb, 0, none⟩) h.vz).trans h.c3, Nat.lt_of_lt_of_le h.oz hb.size, Nat.lt_of_lt_of_le h.lz hb.size, Nat.lt_of_lt_of_le h.vz hb.size, h.on, h.ln, h.vn, Row.keep hb h.row, h.b.trans (hb.mono h.b.size), h.rz, h.lots⟩
theorem EW.set (h : EW w0 w ob lb vb rb l A c B) {i : Nat} (hB : ∀ j, B' j = if j = i then true else B j) : EW w0 (w.setCell ⟨rb, i, none⟩ (.bool true)) ob lb vb rb l A c B' := by
  have hc : ∀ b, b ≠ rb → (w.setCell ⟨rb, i, none⟩ (.bool true)).cell? ⟨b, 0, none⟩ = w.cell? ⟨b, 0, none⟩ := fun b hb => World.cell?_of_block (a := ⟨b, 0, none⟩) (Below.heap_setCell w ⟨rb, i, none⟩ (.bool true) b hb)
  have hs : (w.setCell ⟨rb, i, none⟩ (.bool true)).heap.size = w.heap.size := by simp [World.setCell]
  refine ⟨(hc ob h.on).trans h.c1, (hc lb h.ln).trans h.c2, (hc vb h.vn).trans h.c3, by rw [hs]; exact h.oz, by rw [hs]; exact h.lz, by rw [hs]; exact h.vz, h.on, h.ln, h.vn, ?_, h.b.setCell h.rz _, h.rz, h.lots⟩
  have := h.row.set i true
  rwa [rowB_set hB] at this
end
def VisOK (w0 : World) (ob lb vb rb : Nat) (l : List LotD) (A : Option Addr) (c i : Nat) : Prop :=
  ∀ (w : World) (B : Nat → Bool), EW w0 w ob lb vb rb l A c B → Closed l B i →
    Calls Try.prog 109 #[.int .i64 i, .pointer (some ⟨ob, 0, none⟩), .pointer (some ⟨lb, 0, none⟩), .pointer (some ⟨vb, 0, none⟩)] w fun e w' => e = .returned (.tuple #[]) ∧ EW w0 w' ob lb vb rb l A c (fun j => B j || elB l j i)
set_option maxRecDepth 100000 in
set_option maxHeartbeats 1000000 in
theorem visit_step (w0 : World) (ob lb vb rb : Nat) (l : List LotD) (hl : l.length ≤ 24) (hg : GoodAll l) (A : Option Addr) (c i : Nat) (hi : i < l.length) (ih : ∀ p < i, VisOK w0 ob lb vb rb l A c p) : VisOK w0 ob lb vb rb l A c i := by
  intro w B hE hC
  have HE := Lib.hid hE
  have HC := Lib.hid hC
  have HIH := Lib.hid ih
  have HG := Lib.hid hg
  obtain ⟨q1, q2, q3, q4, q5, q6, q7, q8, q9, -⟩ := id hE
  have r1 := RowB.at hE.row i (by rw [rowB_length]; exact hi)
  rw [rowB_get hi] at r1
  have r2 : w.frozen? ⟨rb, i, none⟩ = false := Row.free hE.row i
  have r3 := Row.lt hE.row
  obtain ⟨x, hx⟩ : ∃ x, x = B i := ⟨_, rfl⟩
  rw [← hx] at r1
  have HX := Lib.hid hx
  clear hE hC ih hg hx
  cases x with
  | true =>
    have HS := Lib.hid (closed_skip HC.out HX.out.symm)
    go_enter Try.func109, Try.ntmps109
    go_wp2
    refine bodyPost_ret (results_none rfl _ _ _) rfl ?_
    rw [HS.out]
    exact ⟨rfl, HE.out⟩
  | false =>
    have hps := psN_lt HG.out i
    obtain ⟨ps, hpe⟩ : ∃ ps, ps = l[i].parts := ⟨_, rfl⟩
    have hgd := HG.out i hi
    have HPT := Lib.hid hgd.part
    rw [← hpe] at HPT
    have HPL := Lib.hid (show (psN l i).length = ps.length by unfold psN; rw [getD_at' hi, hpe]; simp)
    have HPG := Lib.hid (show ∀ (m : Nat) (hm : m < ps.length), (psN l i)[m]? = some (ps[m].1.toNat, ps[m].2.toNat) from fun m hm => by unfold psN; simp only [getD_at' hi, ← hpe]; rw [List.getElem?_map, List.getElem?_eq_getElem hm]; rfl)
    have hpl : ps.length ≤ 6 := by rw [hpe]; exact hgd.plen
    have HPE := Lib.hid hpe
    clear hps hpe hgd
    go_enter Try.func109, Try.ntmps109
    go_upto_region 2 with fail
    obtain ⟨W, hW⟩ : ∃ W, W = w.setCell ⟨rb, i, none⟩ (.bool true) := ⟨_, rfl⟩
    rw [← hW]
    have H0 := Lib.hid (show EW w0 W ob lb vb rb l A c (visB l B i 0) from by
      rw [hW]
      exact HE.out.set (fun j => by rw [visB_start]; simp only []; by_cases h : j = i <;> simp [h]))
    clear hW q1 q2 q3 q4 q5 q6 q7 q8 q9 r1 r2 r3 HE HX
    obtain ⟨q1, q2, q3, q4, q5, q6, q7, q8, q9, -⟩ := H0.out
    obtain ⟨b, o, rfl, hc⟩ := H0.out.lots (by omega)
    obtain ⟨e1, e2, e3, e4, e5, A', c', e6, e8, e7⟩ := hc i hi
    rw [← HPE.out] at e6 e7 e8
    replace e6 := (H0.out.b.cell (p := ⟨b, _, none⟩) e3).trans e6
    replace e3 := Nat.lt_of_lt_of_le e3 H0.out.b.size
    have HP7 := Lib.hid e7
    clear hc e1 e2 e4 e5 e7
    go_wp2
    go_loopw [20] (fun t wr => ∃ m : Nat, t = .int .i64 m ∧ m ≤ ps.length ∧ Hid (EW w0 wr ob lb vb rb l (some ⟨b, o, none⟩) c (visB l B i m))) (fun t _ => ps.length - (intOf t).toNat)
    case atStart => exact ⟨0, rfl, by omega, H0⟩
    case round =>
      clear H0 q1 q2 q3 q4 q5 q6 e6 e3
      obtain ⟨m, rfl, hm, hr⟩ := hrel
      by_cases hml : m < ps.length
      · obtain ⟨b', o', rfl, hb', hcc⟩ := (HP7.out.below hr.out.b).2 (by omega)
        obtain ⟨z0, z1⟩ := hcc m hml
        have hpt := HPT.out _ (List.getElem_mem hml)
        have hpg := HPG.out m hml
        obtain ⟨P, hP⟩ : ∃ P, P = ps[m] := ⟨_, rfl⟩
        rw [← hP] at z0 z1 hpt hpg
        obtain ⟨p1, p2⟩ := P
        simp only at z0 z1 hpt hpg
        obtain ⟨pn, rfl⟩ : ∃ pn : Nat, p1 = pn := ⟨p1.toNat, by omega⟩
        rw [Int.toNat_natCast] at hpg
        have hpi : pn < i := by omega
        have HST := Lib.hid (visB_step (B := B) hpg)
        clear hcc hP hpg
        obtain ⟨q1, q2, q3, q4, q5, q6, -⟩ := hr.out
        go_upto_region 5 with fail
        obtain ⟨wd, hwd⟩ : ∃ wd, wd = wr.alloc (.cells #[.int .i64 pn, .int .i64 p2] 39) := ⟨_, rfl⟩
        rw [← hwd]
        have k0 : wd.cell? ⟨wr.heap.size, 0, none⟩ = some (.int .i64 pn) := by rw [hwd]; simp
        have kz : wr.heap.size < wd.heap.size := by rw [hwd]; simp
        have HD := Lib.hid (hr.out.keep (w' := wd) (by rw [hwd]; exact (Below.refl _ _).alloc (Nat.le_refl _) _))
        clear hwd q1 q2 q3 q4 q5 q6 z0 z1 hb' hr
        obtain ⟨q1, q2, q3, q4, q5, q6, -⟩ := HD.out
        go_wp2_with fail
        refine (HIH.out pn hpi wd _ HD.out (visB_closed HG.out HC.out pn hpi)).mono ?_
        rintro e w5 ⟨rfl, hE5⟩
        simp only [← HST.out] at hE5
        have H5 := Lib.hid hE5
        clear hE5 HD q1 q2 q3 q4 q5 q6 k0 kz
        go_wp2
        go_roundw
        case rel => exact ⟨m + 1, by go_num, by omega, H5⟩
        case measure => simp [intOf]; omega
      · obtain rfl : m = ps.length := by omega
        have HD := Lib.hid (visB_done HG.out (B := B) (i := i) (m := ps.length) (by rw [HPL.out]; exact Nat.le_refl _))
        go_wp2
        go_end0
        rw [← HD.out]
        exact ⟨rfl, hr.out⟩
theorem visit_any (w0 : World) (ob lb vb rb : Nat) (l : List LotD) (hl : l.length ≤ 24) (hg : GoodAll l) (A : Option Addr) (c : Nat) : ∀ i, i < l.length → VisOK w0 ob lb vb rb l A c i := by
  intro i
  induction i using Nat.strongRecOn with
  | _ i ih => exact fun hi => visit_step w0 ob lb vb rb l hl hg A c i hi (fun p hp => ih p hp (by omega))
set_option maxRecDepth 100000 in
set_option maxHeartbeats 1000000 in
theorem elders_any (l : List LotD) (hl : l.length ≤ 24) (hg : GoodAll l) (A : Option Addr) (c : Nat) (O : Option Addr) (n d : Nat) (xs : List Int) (w : World) (hL : LotsIn w A l) (hO : IsL w O n xs) (hn : n ≤ 1000000) (hx : ∀ x ∈ xs, 0 ≤ x ∧ x < l.length) :
    Calls Try.prog 83 #[.slice A l.length c, .slice O n d] w fun e w' => ∃ rb, e = .returned (.slice (some ⟨rb, 0, none⟩) l.length l.length) ∧ RowB w' rb (rowB l.length (oldB l xs)) ∧ Below w.heap.size w w' ∧ w.heap.size ≤ rb := by
  have hmf : ∀ (fn : Fn) (first cap : Array Value) (w : World), (Instr.makeFunc fn first cap).run Try.prog w = .ok (.func fn first cap) w := fun _ _ _ _ => rfl
  have hmk := fun w => make_b l.length (by omega) w
  have HL := Lib.hid hL
  have HO := Lib.hid hO
  have HX := Lib.hid hx
  have HG := Lib.hid hg
  clear hL hO hx hg
  go_enter Try.func83, Try.ntmps83
  go_upto_region 3 with fail
  obtain ⟨W, hW⟩ : ∃ W, W = (((w.alloc (.cells #[.slice A l.length c] 22)).alloc (.cells (fcells l.length) 4)).alloc (.cells #[.slice (some ⟨w.heap.size + 1, 0, none⟩) l.length l.length] 83)).alloc (.cells #[.nilFunc] 124) := ⟨_, rfl⟩
  rw [← hW]
  have h3 : W.heap[w.heap.size + 1 + 1 + 1]? = some (.cells #[.nilFunc] 124 (0, 0)) := by rw [hW]; exact push_last _ _ _ (by simp)
  have k0 : W.cell? ⟨w.heap.size + 1 + 1 + 1, 0, none⟩ = some .nilFunc := (cell_of_row W _ 0 _ _ _ h3).trans rfl
  have k1 : W.frozen? ⟨w.heap.size + 1 + 1 + 1, 0, none⟩ = false := frozen_of_row W _ 0 _ _ h3
  have k2 : w.heap.size + 1 + 1 + 1 < W.heap.size := by rw [hW]; simp
  have hb := Lib.hid (show Below w.heap.size w W by rw [hW]; exact (by repeat' (first | (with_reducible exact Below.refl _ _) | (with_reducible assumption) | (with_reducible refine below_drewN ?_ _) | (with_reducible refine below_step (by assumption) ?_ ?_) | (with_reducible refine Below.alloc ?_ ?_ _) | (with_reducible refine Below.setCell ?_ ?_ _) | (with_reducible refine Below.drew ?_) | go_size | (exact Below.size (by assumption)) | (refine Nat.le_trans (Below.size (by assumption)) ?_))))
  have hbl := Lib.hid (show W.heap[w.heap.size]? = some (.cells #[.slice A l.length c] 22 (0, 0)) ∧ W.heap[w.heap.size + 1]? = some (.cells (fcells l.length) 4 (0, 0)) ∧ W.heap[w.heap.size + 1 + 1]? = some (.cells #[.slice (some ⟨w.heap.size + 1, 0, none⟩) l.length l.length] 83 (0, 0)) by
    rw [hW]
    refine ⟨?_, ?_, ?_⟩
    · exact (push_old _ _ _ (by simp; omega)).trans ((push_old _ _ _ (by simp; omega)).trans ((push_old _ _ _ (by simp)).trans (push_last _ _ _ rfl)))
    · exact (push_old _ _ _ (by simp)).trans ((push_old _ _ _ (by simp)).trans (push_last _ _ _ (by simp)))
    · exact (push_old _ _ _ (by simp)).trans (push_last _ _ _ (by simp)))
  clear hW h3
  go_upto_region 4 with fail
  obtain ⟨W2, hW2⟩ : ∃ W2, W2 = W.setCell ⟨w.heap.size + 1 + 1 + 1, 0, none⟩ (.func (.func 109) #[] #[.pointer (some ⟨w.heap.size + 1 + 1, 0, none⟩), .pointer (some ⟨w.heap.size, 0, none⟩), .pointer (some ⟨w.heap.size + 1 + 1 + 1, 0, none⟩)]) := ⟨_, rfl⟩
  rw [← hW2]
  have hB0 := (show rowB l.length (fun _ => false) = List.replicate l.length false by unfold rowB; rw [List.map_const', List.length_range])
  have E0 := Lib.hid (show EW w W2 (w.heap.size + 1 + 1) w.heap.size (w.heap.size + 1 + 1 + 1) (w.heap.size + 1) l A c (oldB l (xs.take 0)) by
    have hbk : ∀ g, g ≠ w.heap.size + 1 + 1 + 1 → W2.heap[g]? = W.heap[g]? := fun g hg => by rw [hW2]; exact Below.heap_setCell W _ _ g hg
    have hs : W2.heap.size = W.heap.size := by rw [hW2]; simp [World.setCell]
    obtain ⟨j0, j1, j2⟩ := hbl.out
    refine ⟨?_, ?_, ?_, by omega, by omega, by omega, by omega, by omega, by omega, ?_, ?_, by omega, HL.out⟩
    · exact (cell_of_row W2 _ 0 _ _ (0, 0) ((hbk _ (by omega)).trans j2)).trans rfl
    · exact (cell_of_row W2 _ 0 _ _ (0, 0) ((hbk _ (by omega)).trans j0)).trans rfl
    · rw [hW2]; exact World.cell?_setCell_same _ _ _ k0
    · rw [show oldB l (xs.take 0) = fun _ => false from funext fun j => by simp [oldB], hB0]
      exact ⟨fcells l.length, _, (hbk _ (by omega)).trans j1, by simp [fcells], by simp [fcells]⟩
    · rw [hW2]; exact hb.out.setCell (by simp; omega) _)
  clear hW2 hbl hb k0 k1 k2 hB0
  obtain ⟨ob, hob⟩ : ∃ ob, ob = w.heap.size + 1 + 1 := ⟨_, rfl⟩
  obtain ⟨vb, hvb⟩ : ∃ vb, vb = w.heap.size + 1 + 1 + 1 := ⟨_, rfl⟩
  rw [← hvb, ← hob] at E0 ⊢
  clear hob hvb
  go_wp2
  go_loopw [15] (fun t wr => ∃ k : Nat, t = .int .i64 k ∧ k ≤ n ∧ Hid (EW w wr ob w.heap.size vb (w.heap.size + 1) l A c (oldB l (xs.take k)))) (fun t _ => n - (intOf t).toNat)
  case atStart => exact ⟨0, rfl, by omega, E0⟩
  case round =>
    clear E0
    obtain ⟨k, rfl, hk, hr⟩ := hrel
    obtain ⟨q1, q2, q3, q4, q5, q6, -⟩ := hr.out
    by_cases hlt : k < n
    · obtain ⟨b, o, rfl, hbz, hc⟩ := (HO.out.below hr.out.b).2 (by omega)
      have h0 := hc k hlt
      have hlen := HO.out.1
      have hx := HX.out (xs.getD k 0) (by rw [List.getD_eq_getElem?_getD, List.getElem?_eq_getElem (by omega)]; exact List.getElem_mem _)
      have hst := oldB_snoc l (xs.take k) (xs.getD k 0)
      rw [show xs.take k ++ [xs.getD k 0] = xs.take (k + 1) by rw [List.take_succ_eq_append_getElem (by omega), List.getD_eq_getElem?_getD, List.getElem?_eq_getElem (by omega)]; rfl] at hst
      obtain ⟨x, hxx⟩ : ∃ x, xs.getD k 0 = x := ⟨_, rfl⟩
      rw [hxx] at h0 hst hx
      obtain ⟨x, rfl⟩ : ∃ y : Nat, x = y := ⟨x.toNat, by omega⟩
      rw [Int.toNat_natCast] at hst
      have HST := Lib.hid hst
      have hxl : x < l.length := by omega
      have hvis := visit_any w ob w.heap.size vb (w.heap.size + 1) l hl HG.out A c x hxl wr _ hr.out (oldB_closed HG.out _ x)
      rw [← HST.out] at hvis
      have HV := Lib.hid hvis
      clear hc hst hxx hvis hlen
      go_wp2_with fail
      refine HV.out.mono ?_
      rintro e w5 ⟨rfl, hE5⟩
      have H5 := Lib.hid hE5
      clear hE5 HV hr q1 q2 q3 q4 q5 q6 h0 hbz
      go_wp2
      go_roundw
      case rel => exact ⟨k + 1, by go_num, by omega, H5⟩
      case measure => simp [intOf]; omega
    · obtain rfl : k = n := by omega
      have hrw := hr.out.row
      have hrb := hr.out.b
      rw [← HO.out.1, List.take_length] at hrw
      have HR := Lib.hid (And.intro hrw hrb)
      clear hrw hrb hr
      go_wp2
      go_ret
      exact ⟨w.heap.size + 1, rfl, HR.out.1, HR.out.2, by omega⟩
end Go.Proofs.Ytdgmpaijpjkeoaa
/-
  THE REFERENCE: inside.
-/
namespace Go.Proofs.Ytdgmpaijpjkeoaa
open Go.RowKit
/-- append(s, x...) of some truths, to an empty slice. -/
theorem append_bools {w : World} {ops : Array Oper} {rest : List Oper} {o : Oper} {a : Act} {Q : Exit → Act → World → Prop} (s x : Operand)
    (ho : o.op = .call { callee := .builtin .append, args := #[s, x], argTypes := #[83, 83] }) (hgd : o.guard = none)
    (B : Nat) (v : Value) (bs : List Bool) (M : Option Addr) (c : Nat) (hs : a.eval s = v) (hown : OwnB w B v []) (hx : a.eval x = .slice M bs.length c) (hM : IsB w M bs.length bs)
    (hp : 0 < bs.length) (hn : bs.length ≤ 1000000) (hB : B ≤ w.heap.size)
    (h : ∀ g cap w', OwnB w' B (.slice (some ⟨g, 0, none⟩) bs.length cap) bs → w.grownBy w' v.ownBlock → wpList Try.prog ops Q rest (a.put o.dst (.slice (some ⟨g, 0, none⟩) bs.length cap)) w') : wpList Try.prog ops Q (o :: rest) a w := by
  obtain ⟨i0, hi, hz0, hz1, hz2⟩ := info_parts boolInfo
  obtain ⟨b, of, rfl, hlt, hc⟩ := hM.2 hp
  refine wpList_append_lies (P := Try.prog) (w := w) hgd s x 83 ho B 4 i0 (.bool false) 1 1 Try.underlying83 hi hz0 hz1 hz2 rfl (by decide) v 0 [] hs hown ⟨b, of, none⟩ bs.length c (bs.map Value.bool) hx (by simp)
    (by
      intro j u hu
      obtain ⟨hj, rfl⟩ := List.getElem?_eq_some_iff.1 hu
      rw [List.length_map] at hj
      have := hc j hj
      rw [Addr.add_mid, this]
      simp [hj]) (by intro u hu; obtain ⟨y, -, rfl⟩ := List.mem_map.1 hu; rfl) hp (by unfold maxLen; omega) (by omega) hB _ rfl ?_
  intro g cap w' h1 h2 h3 h4
  rw [Nat.zero_add] at h1 ⊢
  exact h g cap w' (by unfold OwnB; exact h1) h2
def insP (l : List LotD) (B : Nat → Bool) (k m j : Nat) : Bool := insB l B k j || (insB l B k (l.length - 1 - k) && ((psN l (l.length - 1 - k)).take m).any fun p => p.1 == j)
section
variable {l : List LotD} {B : Nat → Bool} {k m : Nat}
theorem insP_zero : insP l B k 0 = insB l B k := by funext j; simp [insP]
theorem insP_full (h : (psN l (l.length - 1 - k)).length ≤ m) : insP l B k m = insB l B (k + 1) := by funext j; rw [insP, List.take_of_length_le h]; rfl
theorem insP_no (h : insB l B k (l.length - 1 - k) = false) : insB l B (k + 1) = insB l B k := by funext j; rw [insB, h]; simp
theorem insP_self (hg : GoodAll l) : insP l B k m (l.length - 1 - k) = insB l B k (l.length - 1 - k) := by
  unfold insP
  have : (((psN l (l.length - 1 - k)).take m).any fun p => p.1 == l.length - 1 - k) = false := by
    rw [List.any_eq_false]
    intro p hp
    have := psN_lt hg _ p (List.mem_of_mem_take hp)
    simp
    omega
  rw [this, Bool.and_false, Bool.or_false]
theorem insP_step (h : insB l B k (l.length - 1 - k) = true) {p : Nat × Nat} (hp : (psN l (l.length - 1 - k))[m]? = some p) (j : Nat) : insP l B k (m + 1) j = if j = p.1 then true else insP l B k m j := by
  obtain ⟨hm, rfl⟩ := List.getElem?_eq_some_iff.1 hp
  unfold insP
  rw [h, List.take_succ_eq_append_getElem hm, List.any_append]
  simp only [Bool.true_and, List.any_cons, List.any_nil, Bool.or_false]
  by_cases hj : j = (psN l (l.length - 1 - k))[m].1
  · rw [if_pos hj, hj]; simp
  · rw [if_neg hj, show ((psN l (l.length - 1 - k))[m].1 == j) = false by rw [beq_eq_false_iff_ne]; exact fun e => hj e.symm, Bool.or_false]
end
set_option maxRecDepth 100000 in
set_option maxHeartbeats 1000000 in
theorem inside_any (l : List LotD) (hl : l.length ≤ 24) (hg : GoodAll l) (hp : 0 < l.length) (A : Option Addr) (c : Nat) (M : Option Addr) (d : Nat) (B : Nat → Bool) (w : World) (hL : LotsIn w A l) (hM : IsB w M l.length (rowB l.length B)) :
    Calls Try.prog 84 #[.slice A l.length c, .slice M l.length d] w fun e w' => ∃ rb cap, e = .returned (.slice (some ⟨rb, 0, none⟩) l.length cap) ∧ RowB w' rb (rowB l.length (resB l B)) ∧ Below w.heap.size w w' ∧ w.heap.size ≤ rb := by
  have HL := Lib.hid hL
  have HM := Lib.hid hM
  have HG := Lib.hid hg
  clear hL hM hg
  have hown : OwnB (w.alloc (.cells #[] 4)) w.heap.size (.slice (some ⟨w.heap.size, 0, none⟩) 0 0) [] := ⟨rfl, .inr ⟨w.heap.size, 0, #[], rfl, Nat.le_refl _, push_last _ _ _ rfl, Nat.le_refl _, Nat.zero_le _, rfl, rfl⟩⟩
  have HO := Lib.hid hown
  have hMa := HM.out.below ((Below.refl w.heap.size w).alloc (Nat.le_refl _) (.cells #[] 4))
  have hlen := rowB_length l.length B
  clear hown
  go_enter Try.func84, Try.ntmps84
  go_upto_region 2 with (at_builtin; refine append_bools (.tmp 8) (.tmp 9) rfl rfl w.heap.size _ (rowB l.length B) M d rfl HO.out (by rw [hlen]; rfl) (by rw [hlen]; exact hMa) (by omega) (by omega) (by simp) ?_; intro rb cap W hown hg)
  have H0 := Lib.hid (show RowB W rb (rowB l.length (insB l B 0)) ∧ Below w.heap.size w W ∧ w.heap.size ≤ rb from by
    refine ⟨(Row.of_own hown).1, below_grown ((Below.refl _ _).alloc (Nat.le_refl _) _) hg (Nat.le_refl _) (by simp), (hown.lt rb rfl).1⟩)
  clear hown hg hMa hlen HO
  go_wp2
  go_loopw [6] (fun t wr => ∃ k : Nat, t = .int .i64 ((l.length : Int) - 1 - k) ∧ k ≤ l.length ∧ Hid (RowB wr rb (rowB l.length (insB l B k)) ∧ Below w.heap.size w wr ∧ w.heap.size ≤ rb)) (fun t _ => ((intOf t) + 1).toNat)
  case atStart => exact ⟨0, by go_num, by omega, H0⟩
  case round =>
    clear H0
    obtain ⟨k, rfl, hk, hr⟩ := hrel
    by_cases hlt : k < l.length
    · obtain ⟨i, hi⟩ : ∃ i : Nat, i = l.length - 1 - k := ⟨_, rfl⟩
      have hii : (l.length : Int) - 1 - k = i := by omega
      have hil : i < l.length := by omega
      rw [hii]
      obtain ⟨b, o, rfl, hc⟩ := HL.out hp
      obtain ⟨e1, e2, e3, e4, e5, A', c', e6, e8, e7⟩ := hc i hil
      have hgd := HG.out i hil
      have hpl := hgd.plen
      have hpt := hgd.part
      have hpe : psN l i = l[i].parts.map fun p => (p.1.toNat, p.2.toNat) := by unfold psN; rw [getD_at' hil]
      obtain ⟨ps, hps⟩ : ∃ ps, ps = l[i].parts := ⟨_, rfl⟩
      rw [← hps] at e6 e7 e8 hpl hpt hpe
      have HPT := Lib.hid hpt
      have HPE := Lib.hid hpe
      have HP7 := Lib.hid e7
      have HI := Lib.hid hi
      obtain ⟨x, hx⟩ : ∃ x, x = insB l B k i := ⟨_, rfl⟩
      have HX := Lib.hid hx
      clear hc e1 e2 e4 e5 e7 hgd hpt hpe hps hx hii hi
      have P0 := Lib.hid (show RowB wr rb (rowB l.length (insP l B k 0)) ∧ Below w.heap.size w wr ∧ w.heap.size ≤ rb by rw [insP_zero]; exact hr.out)
      clear hr
      go_wp2
      go_loopw [7] (fun t wq => ∃ m : Nat, t = .int .i64 m ∧ m ≤ ps.length ∧ (x = false → m = 0) ∧ Hid (RowB wq rb (rowB l.length (insP l B k m)) ∧ Below w.heap.size w wq ∧ w.heap.size ≤ rb)) (fun t _ => ps.length - (intOf t).toNat)
      case atStart => exact ⟨0, rfl, by omega, fun _ => rfl, P0⟩
      case round =>
        clear P0
        obtain ⟨m, rfl, hm, hx0, hq⟩ := hrel
        have q6 := (hq.out.2.1.cell (p := ⟨b, _, none⟩) e3).trans e6
        have q3 := Nat.lt_of_lt_of_le e3 hq.out.2.1.size
        have r1 := RowB.at hq.out.1 i (by rw [rowB_length]; exact hil)
        rw [rowB_get hil, show insP l B k m i = x by rw [HX.out, HI.out]; exact insP_self HG.out] at r1
        have r3 := Row.lt hq.out.1
        by_cases hml : m < ps.length
        · cases x with
          | true =>
            obtain ⟨b', o', rfl, hb', hcc⟩ := (HP7.out.below hq.out.2.1).2 (by omega)
            obtain ⟨z0, z1⟩ := hcc m hml
            have hpt := HPT.out _ (List.getElem_mem hml)
            have hpg : (psN l i)[m]? = some (ps[m].1.toNat, ps[m].2.toNat) := by rw [HPE.out, List.getElem?_map, List.getElem?_eq_getElem hml]; rfl
            obtain ⟨P, hP⟩ : ∃ P, P = ps[m] := ⟨_, rfl⟩
            rw [← hP] at z0 z1 hpt hpg
            obtain ⟨p1, p2⟩ := P
            simp only at z0 z1 hpt hpg
            obtain ⟨pn, rfl⟩ : ∃ pn : Nat, p1 = pn := ⟨p1.toNat, by omega⟩
            rw [Int.toNat_natCast] at hpg
            have hpi : pn < i := by omega
            have hpn : pn < l.length := by omega
            have hst := rowB_set (n := l.length) (i := pn) (insP_step (B := B) (k := k) (m := m) (by rw [← HI.out]; exact HX.out.symm) (by rw [← HI.out]; exact hpg))
            have HST := Lib.hid hst
            have r4 := RowB.at hq.out.1 pn (by rw [rowB_length]; exact hpn)
            have r5 : wr.frozen? ⟨rb, pn, none⟩ = false := Row.free hq.out.1 pn
            obtain ⟨y, hy⟩ : ∃ y, y = (rowB l.length (insP l B k m)).getD pn false := ⟨_, rfl⟩
            rw [← hy] at r4
            have H2 := Lib.hid (show RowB (wr.setCell ⟨rb, pn, none⟩ (.bool true)) rb (rowB l.length (insP l B k (m + 1))) ∧ Below w.heap.size w (wr.setCell ⟨rb, pn, none⟩ (.bool true)) ∧ w.heap.size ≤ rb from ⟨by rw [← HST.out]; exact hq.out.1.set pn true, hq.out.2.1.setCell hq.out.2.2 _, hq.out.2.2⟩)
            clear hcc hP hpg hst hy hq
            go_wp2
            go_roundw
            case rel => exact ⟨m + 1, by go_num, by omega, fun h => (by cases h), H2⟩
            case measure => simp [intOf]; omega
          | false =>
            obtain rfl := hx0 rfl
            have H2 := hq.out
            rw [insP_zero, ← insP_no (by rw [← HI.out]; exact HX.out.symm)] at H2
            have H3 := Lib.hid H2
            clear H2 hq
            go_wp2
            go_roundw
            case rel => exact ⟨k + 1, congrArg (Value.int .i64) (by have := HI.out; omega), by omega, H3⟩
            case measure => simp [intOf]
        · obtain rfl : m = ps.length := by omega
          have H2 := hq.out
          rw [insP_full (by rw [← HI.out, HPE.out]; simp)] at H2
          have H3 := Lib.hid H2
          clear H2 hq
          go_wp2
          go_roundw
          case rel => exact ⟨k + 1, congrArg (Value.int .i64) (by have := HI.out; omega), by omega, H3⟩
          case measure => simp [intOf]
    · obtain rfl : k = l.length := by omega
      have hz : (l.length : Int) - 1 - l.length = -1 := by omega
      rw [hz]
      have HR := Lib.hid hr.out
      have hres : rowB l.length (insB l B l.length) = rowB l.length (resB l B) := List.map_congr_left fun j hj => insB_res HG.out (by simpa using hj)
      rw [hres] at HR
      clear hz hr hres
      go_wp2
      go_ret
      exact ⟨rb, cap, rfl, HR.out⟩
end Go.Proofs.Ytdgmpaijpjkeoaa
/-
  Sources, Descend (the program's).
-/
namespace Go.Proofs.Ytdgmpaijpjkeoaa
open Go.RowKit
theorem OwnI.blk {w : World} {B : Nat} {v : Value} {zs : List Int} (h : OwnI w B v zs) : ∀ g, v.ownBlock = some g → B ≤ g ∧ g < w.heap.size := World.ownsRow.lt h
theorem rowB_old1 {l : List LotD} {n : Nat} (j : Nat) : oldB l [(n : Int)] j = elB l j n := by simp [oldB]
set_option maxRecDepth 100000 in
set_option maxHeartbeats 1000000 in
theorem sources_any (l : List LotD) (hl : l.length ≤ 1000) (hps : ∀ x ∈ l, x.parts.length ≤ 1000) (n : Int) (a : List Int) (z : Int) (hm : srcE l n = (a, z)) (hn : -9223372036854775808 ≤ n) (kn : n ≤ 9223372036854775807) (A : Option Addr) (c : Nat) (w : World) (hL : LotsIn w A l) :
    Calls Try.prog 52 #[.slice A l.length c, .int .i64 n] w (OutI w a z) := by
  have HM := Lib.hid hm
  have HL := Lib.hid hL
  have HPS := Lib.hid hps
  clear hm hL hps
  go_enter Try.func52, Try.ntmps52
  go_wp2_with fail
  obtain ⟨W, hW⟩ : ∃ W, W = w.alloc (.cells #[.int .i64 n] 3) := ⟨_, rfl⟩
  rw [← hW]
  have hb := Lib.hid (show Below w.heap.size w W by rw [hW]; exact (by repeat' (first | (with_reducible exact Below.refl _ _) | (with_reducible assumption) | (with_reducible refine below_drewN ?_ _) | (with_reducible refine below_step (by assumption) ?_ ?_) | (with_reducible refine Below.alloc ?_ ?_ _) | (with_reducible refine Below.setCell ?_ ?_ _) | (with_reducible refine Below.drew ?_) | go_size | (exact Below.size (by assumption)) | (refine Nat.le_trans (Below.size (by assumption)) ?_))))
  have hI := Lib.hid (show IsL W (some ⟨w.heap.size, 0, none⟩) 1 [n] by rw [hW]; exact isL_one w n _)
  clear hW
  obtain ⟨E, hE⟩ : ∃ E, E = chkE l [n] := ⟨_, rfl⟩
  have HE := Lib.hid hE
  clear hE
  refine (check_any l hl HPS.out A c _ 1 1 [n] W (HL.out.below hb.out) hI.out (by omega) (fun x hx => by simp at hx; subst hx; exact ⟨by omega, by omega⟩)).mono ?_
  rw [← HE.out]
  rintro e w1 ⟨rfl, hb1⟩
  have ib := Lib.hid (hb.out.trans (hb1.mono hb.out.size))
  clear hb1 hI hb
  by_cases hz : E = 0
  · subst hz
    have hm2 := HM.out
    unfold srcE at hm2
    rw [if_neg (by rw [← HE.out]; decide)] at hm2
    obtain ⟨hgl, hin⟩ := chk_zero HE.out.symm
    have h1 := hin n (by simp)
    obtain ⟨n, rfl⟩ : ∃ k : Nat, n = k := ⟨n.toNat, by omega⟩
    rw [Int.toNat_natCast] at hm2
    have HM2 := Lib.hid hm2
    have HG := Lib.hid hgl.lot
    have hl24 := hgl.len
    have hn : n < l.length := by omega
    clear hm2 hgl hin h1 HM
    go_wp2_with fail
    obtain ⟨W2, hW2⟩ : ∃ W2, W2 = w1.alloc (.cells #[.int .i64 n] 3) := ⟨_, rfl⟩
    rw [← hW2]
    have jb := Lib.hid (show Below w.heap.size w W2 by rw [hW2]; exact ib.out.alloc ib.out.size _)
    have hI2 := Lib.hid (show IsL W2 (some ⟨w1.heap.size, 0, none⟩) 1 [(n : Int)] by rw [hW2]; exact isL_one w1 n _)
    clear hW2 ib
    refine (elders_any l hl24 HG.out A c _ 1 1 [(n : Int)] W2 (HL.out.below jb.out) hI2.out (by omega) (fun x hx => by simp at hx; subst hx; exact ⟨by omega, by omega⟩)).mono ?_
    rintro e w3 ⟨rb, rfl, hrow, hb3, hrb⟩
    have H3 := Lib.hid (And.intro hrow (jb.out.trans (hb3.mono jb.out.size)))
    have R0 := Lib.hid (show OwnI w3 w3.heap.size (.slice none 0 0) (selL (srcP l n) 0) ∧ Below w3.heap.size w3 w3 from ⟨OwnI.nil _ _, Below.refl _ _⟩)
    clear hrow hb3 hrb hI2 jb
    go_wp2
    go_loopw [7, 22] (fun v t wr => ∃ k : Nat, t = .int .i64 k ∧ k ≤ l.length ∧ Hid (OwnI wr w3.heap.size v (selL (srcP l n) k) ∧ Below w3.heap.size w3 wr)) (fun _ t _ => l.length - (intOf t).toNat)
    case atStart => exact ⟨0, rfl, by omega, R0⟩
    case round =>
      clear R0
      obtain ⟨k, rfl, hk, hr⟩ := hrel
      by_cases hlt : k < l.length
      · have hrw := Row.below hr.out.2 (Row.lt H3.out.1) H3.out.1
        have r1 := RowB.at (show RowB wr rb (rowB l.length (oldB l [(n : Int)])) from hrw) k (by rw [rowB_length]; exact hlt)
        rw [rowB_get hlt, rowB_old1] at r1
        have r3 := Row.lt hrw
        obtain ⟨b, o, rfl, hc⟩ := (HL.out.below (H3.out.2.trans (hr.out.2.mono H3.out.2.size))) (by omega)
        obtain ⟨e1, e2, e3, e4, e5, A', c', e6, e8, e7⟩ := hc k hlt
        have hyd : l.getD k default = l[k] := getD_at' hlt
        have hsel : srcP l n k = (elB l k n && decide (l[k].parts.length = 0)) := by rw [srcP, hyd]
        obtain ⟨x, hx⟩ : ∃ x, x = elB l k n := ⟨_, rfl⟩
        obtain ⟨m, hm⟩ : ∃ m, m = l[k].parts.length := ⟨_, rfl⟩
        rw [← hx, ← hm] at hsel
        rw [← hx] at r1
        rw [← hm] at e6
        have hsz := hr.out.2.size
        have HLM := Lib.hid (show (selL (srcP l n) k).length ≤ 1000000 by have := selL_length (srcP l n) k; omega)
        clear hc e1 e2 e4 e5 e7 e8 hyd hx hm hrw
        cases x with
        | false =>
          have hs := selL_no (P := srcP l n) (k := k) (by rw [hsel]; rfl)
          rw [← hs] at hr
          clear hs hsel
          go_wp2
          go_roundw
          case rel => exact ⟨k + 1, by go_num, by omega, hr⟩
          case measure => simp [intOf]; omega
        | true =>
          by_cases h0 : m = 0
          · have d1 : ((m : Int) == 0) = true := by rw [beq_iff_eq]; omega
            have HS := Lib.hid (selL_yes (P := srcP l n) (k := k) (by rw [hsel, decide_eq_true h0]; rfl))
            clear hsel
            go_wp2_with (at_builtin; refine append_i64 (.tmp 37) (.tmp 39) rfl rfl w3.heap.size _ _ k wr rfl rfl hr.out.1 rfl HLM.out hsz ?_)
            intro v' w6 ho6 hg6 hd6
            rw [← HS.out] at ho6
            have R2 := Lib.hid (And.intro ho6 (hr.out.2.grown hg6 hsz (fun g hg => (hr.out.1.blk g hg).1)))
            clear ho6 hg6 hd6 hr
            go_wp2
            go_roundw
            case rel => exact ⟨k + 1, by go_num, by omega, R2⟩
            case measure => simp [intOf]; omega
          · have d1 : ((m : Int) == 0) = false := by rw [beq_eq_false_iff_ne]; omega
            have hs := selL_no (P := srcP l n) (k := k) (by rw [hsel, decide_eq_false h0]; rfl)
            rw [← hs] at hr
            clear hs hsel
            go_wp2
            go_roundw
            case rel => exact ⟨k + 1, by go_num, by omega, hr⟩
            case measure => simp [intOf]; omega
      · obtain rfl : k = l.length := by omega
        obtain ⟨A', c', rfl, hi⟩ := hr.out.1.isL
        have HI := Lib.hid hi
        have HB := Lib.hid (H3.out.2.trans (hr.out.2.mono H3.out.2.size))
        clear hr hi H3
        go_wp2
        go_ret2
        obtain ⟨rfl, rfl⟩ := Prod.mk.inj HM2.out
        exact ⟨A', c', rfl, HI.out, HB.out⟩
  · have hm2 := HM.out
    unfold srcE at hm2
    rw [if_pos (by rw [← HE.out]; exact hz), ← HE.out] at hm2
    have HM2 := Lib.hid hm2
    have d1 : (E == 0) = false := by rw [beq_eq_false_iff_ne]; exact hz
    have d2 : (E != 0) = true := by rw [bne_iff_ne]; exact hz
    clear hm2 hz
    go_wp2
    go_ret2
    exact OutI.no HM2.out ib.out
set_option maxRecDepth 100000 in
set_option maxHeartbeats 1000000 in
theorem descend_any (l : List LotD) (hl : l.length ≤ 1000) (hps : ∀ x ∈ l, x.parts.length ≤ 1000) (n : Int) (a : List Int) (z : Int) (hm : desE l n = (a, z)) (hn : -9223372036854775808 ≤ n) (kn : n ≤ 9223372036854775807) (A : Option Addr) (c : Nat) (w : World) (hL : LotsIn w A l) :
    Calls Try.prog 54 #[.slice A l.length c, .int .i64 n] w (OutI w a z) := by
  have HM := Lib.hid hm
  have HL := Lib.hid hL
  have HPS := Lib.hid hps
  clear hm hL hps
  go_enter Try.func54, Try.ntmps54
  go_wp2_with fail
  obtain ⟨W, hW⟩ : ∃ W, W = w.alloc (.cells #[.int .i64 n] 3) := ⟨_, rfl⟩
  rw [← hW]
  have hb := Lib.hid (show Below w.heap.size w W by rw [hW]; exact (by repeat' (first | (with_reducible exact Below.refl _ _) | (with_reducible assumption) | (with_reducible refine below_drewN ?_ _) | (with_reducible refine below_step (by assumption) ?_ ?_) | (with_reducible refine Below.alloc ?_ ?_ _) | (with_reducible refine Below.setCell ?_ ?_ _) | (with_reducible refine Below.drew ?_) | go_size | (exact Below.size (by assumption)) | (refine Nat.le_trans (Below.size (by assumption)) ?_))))
  have hI := Lib.hid (show IsL W (some ⟨w.heap.size, 0, none⟩) 1 [n] by rw [hW]; exact isL_one w n _)
  clear hW
  obtain ⟨E, hE⟩ : ∃ E, E = chkE l [n] := ⟨_, rfl⟩
  have HE := Lib.hid hE
  clear hE
  refine (check_any l hl HPS.out A c _ 1 1 [n] W (HL.out.below hb.out) hI.out (by omega) (fun x hx => by simp at hx; subst hx; exact ⟨by omega, by omega⟩)).mono ?_
  rw [← HE.out]
  rintro e w1 ⟨rfl, hb1⟩
  have ib := Lib.hid (hb.out.trans (hb1.mono hb.out.size))
  clear hb1 hI hb
  by_cases hz : E = 0
  · subst hz
    have hm2 := HM.out
    unfold desE at hm2
    rw [if_neg (by rw [← HE.out]; decide)] at hm2
    obtain ⟨hgl, hin⟩ := chk_zero HE.out.symm
    have h1 := hin n (by simp)
    obtain ⟨n, rfl⟩ : ∃ k : Nat, n = k := ⟨n.toNat, by omega⟩
    rw [Int.toNat_natCast] at hm2
    have HM2 := Lib.hid hm2
    have HG := Lib.hid hgl.lot
    have hl24 := hgl.len
    have hn : n < l.length := by omega
    clear hm2 hgl hin h1 HM
    have R0 := Lib.hid (show OwnI w1 w.heap.size (.slice none 0 0) (selL (desP l n) (n + 1)) ∧ Below w.heap.size w w1 from ⟨by rw [selL_none (fun j hj => by simp [desP]; omega)]; exact OwnI.nil _ _, ib.out⟩)
    clear ib
    go_wp2
    go_loopw [7, 8] (fun v t wr => ∃ k : Nat, t = .int .i64 k ∧ n < k ∧ k ≤ l.length ∧ Hid (OwnI wr w.heap.size v (selL (desP l n) k) ∧ Below w.heap.size w wr)) (fun _ t _ => l.length - (intOf t).toNat)
    case atStart => exact ⟨n + 1, by go_num, by omega, by omega, R0⟩
    case round =>
      clear R0
      obtain ⟨k, rfl, hnk, hk, hr⟩ := hrel
      by_cases hlt : k < l.length
      · go_wp2_with fail
        obtain ⟨W2, hW2⟩ : ∃ W2, W2 = wr.alloc (.cells #[.int .i64 k] 3) := ⟨_, rfl⟩
        rw [← hW2]
        have hb2 : Below wr.heap.size wr W2 := by rw [hW2]; exact (Below.refl _ _).alloc (Nat.le_refl _) _
        have hI2 := Lib.hid (show IsL W2 (some ⟨wr.heap.size, 0, none⟩) 1 [(k : Int)] by rw [hW2]; exact isL_one wr k _)
        have R1 := Lib.hid (And.intro (hr.out.1.keep hb2) (hr.out.2.trans (hb2.mono hr.out.2.size)))
        clear hW2 hb2 hr
        refine (elders_any l hl24 HG.out A c _ 1 1 [(k : Int)] W2 (HL.out.below R1.out.2) hI2.out (by omega) (fun x hx => by simp at hx; subst hx; exact ⟨by omega, by omega⟩)).mono ?_
        rintro e w3 ⟨rb, rfl, hrow, hb3, hrb⟩
        have R2 := Lib.hid (And.intro (R1.out.1.keep hb3) (R1.out.2.trans (hb3.mono R1.out.2.size)))
        have r1 := RowB.at hrow n (by rw [rowB_length]; exact hn)
        rw [rowB_get hn, rowB_old1] at r1
        have r3 := Row.lt hrow
        have hsel : desP l n k = elB l n k := by rw [desP, decide_eq_true hnk]; rfl
        obtain ⟨x, hx⟩ : ∃ x, x = elB l n k := ⟨_, rfl⟩
        rw [← hx] at hsel r1
        have hsz := R2.out.2.size
        have HLM := Lib.hid (show (selL (desP l n) k).length ≤ 1000000 by have := selL_length (desP l n) k; omega)
        clear hx hrow hb3 hrb hI2 R1
        cases x with
        | false =>
          have hs := selL_no (P := desP l n) (k := k) hsel
          rw [← hs] at R2
          clear hs hsel
          go_wp2
          go_roundw
          case rel => exact ⟨k + 1, by go_num, by omega, by omega, R2⟩
          case measure => simp [intOf]; omega
        | true =>
          have HS := Lib.hid (selL_yes (P := desP l n) (k := k) hsel)
          clear hsel
          go_wp2_with (at_builtin; refine append_i64 (.tmp 31) (.tmp 33) rfl rfl w.heap.size _ _ k w3 rfl rfl R2.out.1 rfl HLM.out hsz ?_)
          intro v' w6 ho6 hg6 hd6
          rw [← HS.out] at ho6
          have R3 := Lib.hid (And.intro ho6 (R2.out.2.grown hg6 hsz (fun g hg => (R2.out.1.blk g hg).1)))
          clear ho6 hg6 hd6 R2
          go_wp2
          go_roundw
          case rel => exact ⟨k + 1, by go_num, by omega, by omega, R3⟩
          case measure => simp [intOf]; omega
      · obtain rfl : k = l.length := by omega
        obtain ⟨A', c', rfl, hi⟩ := hr.out.1.isL
        have HI := Lib.hid hi
        have HB := Lib.hid hr.out.2
        clear hr hi
        go_wp2
        go_ret2
        obtain ⟨rfl, rfl⟩ := Prod.mk.inj HM2.out
        exact ⟨A', c', rfl, HI.out, HB.out⟩
  · have hm2 := HM.out
    unfold desE at hm2
    rw [if_pos (by rw [← HE.out]; exact hz), ← HE.out] at hm2
    have HM2 := Lib.hid hm2
    have d1 : (E == 0) = false := by rw [beq_eq_false_iff_ne]; exact hz
    have d2 : (E != 0) = true := by rw [bne_iff_ne]; exact hz
    clear hm2 hz
    go_wp2
    go_ret2
    exact OutI.no HM2.out ib.out
end Go.Proofs.Ytdgmpaijpjkeoaa
