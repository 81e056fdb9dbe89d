/-
  elders (the program's): a closure that calls itself.
-/
import Derived.Test.YtdgmpaijpjkeoaaSetM
import Derived.Test.YtdgmpaijpjkeoaaRefC
import Derived.Test.YtdgmpaijpjkeoaaLotC
import Derived.Laws.EntriesVeiled
namespace Go.Proofs.Ytdgmpaijpjkeoaa
open Go.RowKit
theorem RowB.at {w : World} {g : Nat} {bs : List Bool} (h : RowB w g bs) (i : Nat) (hi : i < bs.length) : w.cell? ⟨g, i, none⟩ = some (.bool (bs.getD i false)) := by
  have := Row.get h i (by simpa using hi)
  rw [this]
  simp [hi]
/-- The world of the closure visit: its boxes, the marks. -/
structure EW (w0 w : World) (ob lb vb rb : Nat) (l : List LotD) (A : Option Addr) (c : Nat) (B : Nat → Bool) : Prop where
  c1 : w.cell? ⟨ob, 0, none⟩ = some (.slice (some ⟨rb, 0, none⟩) l.length l.length)
  c2 : w.cell? ⟨lb, 0, none⟩ = some (.slice A l.length c)
  c3 : w.cell? ⟨vb, 0, none⟩ = some (.func (.func 109) #[] #[.pointer (some ⟨ob, 0, none⟩), .pointer (some ⟨lb, 0, none⟩), .pointer (some ⟨vb, 0, none⟩)])
  oz : ob < w.heap.size
  lz : lb < w.heap.size
  vz : vb < w.heap.size
  on : ob ≠ rb
  ln : lb ≠ rb
  vn : vb ≠ rb
  row : RowB w rb (rowB l.length B)
  b : Below w0.heap.size w0 w
  rz : w0.heap.size ≤ rb
  lots : LotsIn w0 A l
section
variable {w0 w w' : World} {ob lb vb rb : Nat} {l : List LotD} {A : Option Addr} {c : Nat} {B B' : Nat → Bool}
theorem EW.keep (h : EW w0 w ob lb vb rb l A c B) (hb : Below w.heap.size w w') : EW w0 w' ob lb vb rb l A c B :=
  ⟨(hb.cell (p := ⟨ob, 0, none⟩) h.oz).trans h.c1, (hb.cell (p := ⟨lb, 0, none⟩) h.lz).trans h.c2, (hb.cell (p := ⟨vb, 0, none⟩) h.vz).trans h.c3, Nat.lt_of_lt_of_le h.oz hb.size, Nat.lt_of_lt_of_le h.lz hb.size, Nat.lt_of_lt_of_le h.vz hb.size, h.on, h.ln, h.vn, Row.keep hb h.row, h.b.trans (hb.mono h.b.size), h.rz, h.lots⟩
theorem EW.set (h : EW w0 w ob lb vb rb l A c B) {i : Nat} (hB : ∀ j, B' j = if j = i then true else B j) : EW w0 (w.setCell ⟨rb, i, none⟩ (.bool true)) ob lb vb rb l A c B' := by
  have hc : ∀ b, b ≠ rb → (w.setCell ⟨rb, i, none⟩ (.bool true)).cell? ⟨b, 0, none⟩ = w.cell? ⟨b, 0, none⟩ := fun b hb => World.cell?_of_block (a := ⟨b, 0, none⟩) (Below.heap_setCell w ⟨rb, i, none⟩ (.bool true) b hb)
  have hs : (w.setCell ⟨rb, i, none⟩ (.bool true)).heap.size = w.heap.size := by simp [World.setCell]
  refine ⟨(hc ob h.on).trans h.c1, (hc lb h.ln).trans h.c2, (hc vb h.vn).trans h.c3, by rw [hs]; exact h.oz, by rw [hs]; exact h.lz, by rw [hs]; exact h.vz, h.on, h.ln, h.vn, ?_, h.b.setCell h.rz _, h.rz, h.lots⟩
  have := h.row.set i true
  rwa [rowB_set hB] at this
end
def VisOK (w0 : World) (ob lb vb rb : Nat) (l : List LotD) (A : Option Addr) (c i : Nat) : Prop :=
  ∀ (w : World) (B : Nat → Bool), EW w0 w ob lb vb rb l A c B → Closed l B i →
    Calls Try.prog 109 #[.int .i64 i, .pointer (some ⟨ob, 0, none⟩), .pointer (some ⟨lb, 0, none⟩), .pointer (some ⟨vb, 0, none⟩)] w fun e w' => e = .returned (.tuple #[]) ∧ EW w0 w' ob lb vb rb l A c (fun j => B j || elB l j i)
set_option maxRecDepth 100000 in
set_option maxHeartbeats 1000000 in
theorem visit_step (w0 : World) (ob lb vb rb : Nat) (l : List LotD) (hl : l.length ≤ 24) (hg : GoodAll l) (A : Option Addr) (c i : Nat) (hi : i < l.length) (ih : ∀ p < i, VisOK w0 ob lb vb rb l A c p) : VisOK w0 ob lb vb rb l A c i := by
  intro w B hE hC
  have HE := Lib.hid hE
  have HC := Lib.hid hC
  have HIH := Lib.hid ih
  have HG := Lib.hid hg
  obtain ⟨q1, q2, q3, q4, q5, q6, q7, q8, q9, -⟩ := id hE
  have r1 := RowB.at hE.row i (by rw [rowB_length]; exact hi)
  rw [rowB_get hi] at r1
  have r2 : w.frozen? ⟨rb, i, none⟩ = false := Row.free hE.row i
  have r3 := Row.lt hE.row
  obtain ⟨x, hx⟩ : ∃ x, x = B i := ⟨_, rfl⟩
  rw [← hx] at r1
  have HX := Lib.hid hx
  clear hE hC ih hg hx
  cases x with
  | true =>
    have HS := Lib.hid (closed_skip HC.out HX.out.symm)
    go_enter Try.func109, Try.ntmps109
    go_wp2
    refine bodyPost_ret (results_none rfl _ _ _) rfl ?_
    rw [HS.out]
    exact ⟨rfl, HE.out⟩
  | false =>
    have hps := psN_lt HG.out i
    obtain ⟨ps, hpe⟩ : ∃ ps, ps = l[i].parts := ⟨_, rfl⟩
    have hgd := HG.out i hi
    have HPT := Lib.hid hgd.part
    rw [← hpe] at HPT
    have HPL := Lib.hid (show (psN l i).length = ps.length by unfold psN; rw [getD_at' hi, hpe]; simp)
    have HPG := Lib.hid (show ∀ (m : Nat) (hm : m < ps.length), (psN l i)[m]? = some (ps[m].1.toNat, ps[m].2.toNat) from fun m hm => by unfold psN; simp only [getD_at' hi, ← hpe]; rw [List.getElem?_map, List.getElem?_eq_getElem hm]; rfl)
    have hpl : ps.length ≤ 6 := by rw [hpe]; exact hgd.plen
    have HPE := Lib.hid hpe
    clear hps hpe hgd
    go_enter Try.func109, Try.ntmps109
    go_upto_region 2 with fail
    obtain ⟨W, hW⟩ : ∃ W, W = w.setCell ⟨rb, i, none⟩ (.bool true) := ⟨_, rfl⟩
    rw [← hW]
    have H0 := Lib.hid (show EW w0 W ob lb vb rb l A c (visB l B i 0) from by
      rw [hW]
      exact HE.out.set (fun j => by rw [visB_start]; simp only []; by_cases h : j = i <;> simp [h]))
    clear hW q1 q2 q3 q4 q5 q6 q7 q8 q9 r1 r2 r3 HE HX
    obtain ⟨q1, q2, q3, q4, q5, q6, q7, q8, q9, -⟩ := H0.out
    obtain ⟨b, o, rfl, hc⟩ := H0.out.lots (by omega)
    obtain ⟨e1, e2, e3, e4, e5, A', c', e6, e8, e7⟩ := hc i hi
    rw [← HPE.out] at e6 e7 e8
    replace e6 := (H0.out.b.cell (p := ⟨b, _, none⟩) e3).trans e6
    replace e3 := Nat.lt_of_lt_of_le e3 H0.out.b.size
    have HP7 := Lib.hid e7
    clear hc e1 e2 e4 e5 e7
    go_wp2
    go_loopw [20] (fun t wr => ∃ m : Nat, t = .int .i64 m ∧ m ≤ ps.length ∧ Hid (EW w0 wr ob lb vb rb l (some ⟨b, o, none⟩) c (visB l B i m))) (fun t _ => ps.length - (intOf t).toNat)
    case atStart => exact ⟨0, rfl, by omega, H0⟩
    case round =>
      clear H0 q1 q2 q3 q4 q5 q6 e6 e3
      obtain ⟨m, rfl, hm, hr⟩ := hrel
      by_cases hml : m < ps.length
      · obtain ⟨b', o', rfl, hb', hcc⟩ := (HP7.out.below hr.out.b).2 (by omega)
        obtain ⟨z0, z1⟩ := hcc m hml
        have hpt := HPT.out _ (List.getElem_mem hml)
        have hpg := HPG.out m hml
        obtain ⟨P, hP⟩ : ∃ P, P = ps[m] := ⟨_, rfl⟩
        rw [← hP] at z0 z1 hpt hpg
        obtain ⟨p1, p2⟩ := P
        simp only at z0 z1 hpt hpg
        obtain ⟨pn, rfl⟩ : ∃ pn : Nat, p1 = pn := ⟨p1.toNat, by omega⟩
        rw [Int.toNat_natCast] at hpg
        have hpi : pn < i := by omega
        have HST := Lib.hid (visB_step (B := B) hpg)
        clear hcc hP hpg
        obtain ⟨q1, q2, q3, q4, q5, q6, -⟩ := hr.out
        go_upto_region 5 with fail
        obtain ⟨wd, hwd⟩ : ∃ wd, wd = wr.alloc (.cells #[.int .i64 pn, .int .i64 p2] 39) := ⟨_, rfl⟩
        rw [← hwd]
        have k0 : wd.cell? ⟨wr.heap.size, 0, none⟩ = some (.int .i64 pn) := by rw [hwd]; simp
        have kz : wr.heap.size < wd.heap.size := by rw [hwd]; simp
        have HD := Lib.hid (hr.out.keep (w' := wd) (by rw [hwd]; exact (Below.refl _ _).alloc (Nat.le_refl _) _))
        clear hwd q1 q2 q3 q4 q5 q6 z0 z1 hb' hr
        obtain ⟨q1, q2, q3, q4, q5, q6, -⟩ := HD.out
        go_wp2_with fail
        refine (HIH.out pn hpi wd _ HD.out (visB_closed HG.out HC.out pn hpi)).mono ?_
        rintro e w5 ⟨rfl, hE5⟩
        simp only [← HST.out] at hE5
        have H5 := Lib.hid hE5
        clear hE5 HD q1 q2 q3 q4 q5 q6 k0 kz
        go_wp2
        go_roundw
        case rel => exact ⟨m + 1, by go_num, by omega, H5⟩
        case measure => simp [intOf]; omega
      · obtain rfl : m = ps.length := by omega
        have HD := Lib.hid (visB_done HG.out (B := B) (i := i) (m := ps.length) (by rw [HPL.out]; exact Nat.le_refl _))
        go_wp2
        go_end0
        rw [← HD.out]
        exact ⟨rfl, hr.out⟩
theorem visit_any (w0 : World) (ob lb vb rb : Nat) (l : List LotD) (hl : l.length ≤ 24) (hg : GoodAll l) (A : Option Addr) (c : Nat) : ∀ i, i < l.length → VisOK w0 ob lb vb rb l A c i := by
  intro i
  induction i using Nat.strongRecOn with
  | _ i ih => exact fun hi => visit_step w0 ob lb vb rb l hl hg A c i hi (fun p hp => ih p hp (by omega))
set_option maxRecDepth 100000 in
set_option maxHeartbeats 1000000 in
theorem elders_any (l : List LotD) (hl : l.length ≤ 24) (hg : GoodAll l) (A : Option Addr) (c : Nat) (O : Option Addr) (n d : Nat) (xs : List Int) (w : World) (hL : LotsIn w A l) (hO : IsL w O n xs) (hn : n ≤ 1000000) (hx : ∀ x ∈ xs, 0 ≤ x ∧ x < l.length) :
    Calls Try.prog 83 #[.slice A l.length c, .slice O n d] w fun e w' => ∃ rb, e = .returned (.slice (some ⟨rb, 0, none⟩) l.length l.length) ∧ RowB w' rb (rowB l.length (oldB l xs)) ∧ Below w.heap.size w w' ∧ w.heap.size ≤ rb := by
  have hmf : ∀ (fn : Fn) (first cap : Array Value) (w : World), (Instr.makeFunc fn first cap).run Try.prog w = .ok (.func fn first cap) w := fun _ _ _ _ => rfl
  have hmk := fun w => make_b l.length (by omega) w
  have HL := Lib.hid hL
  have HO := Lib.hid hO
  have HX := Lib.hid hx
  have HG := Lib.hid hg
  clear hL hO hx hg
  go_enter Try.func83, Try.ntmps83
  go_upto_region 3 with fail
  obtain ⟨W, hW⟩ : ∃ W, W = (((w.alloc (.cells #[.slice A l.length c] 22)).alloc (.cells (fcells l.length) 4)).alloc (.cells #[.slice (some ⟨w.heap.size + 1, 0, none⟩) l.length l.length] 83)).alloc (.cells #[.nilFunc] 124) := ⟨_, rfl⟩
  rw [← hW]
  have h3 : W.heap[w.heap.size + 1 + 1 + 1]? = some (.cells #[.nilFunc] 124 (0, 0)) := by rw [hW]; exact push_last _ _ _ (by simp)
  have k0 : W.cell? ⟨w.heap.size + 1 + 1 + 1, 0, none⟩ = some .nilFunc := (cell_of_row W _ 0 _ _ _ h3).trans rfl
  have k1 : W.frozen? ⟨w.heap.size + 1 + 1 + 1, 0, none⟩ = false := frozen_of_row W _ 0 _ _ h3
  have k2 : w.heap.size + 1 + 1 + 1 < W.heap.size := by rw [hW]; simp
  have hb := Lib.hid (show Below w.heap.size w W by rw [hW]; exact (by repeat' (first | (with_reducible exact Below.refl _ _) | (with_reducible assumption) | (with_reducible refine below_drewN ?_ _) | (with_reducible refine below_step (by assumption) ?_ ?_) | (with_reducible refine Below.alloc ?_ ?_ _) | (with_reducible refine Below.setCell ?_ ?_ _) | (with_reducible refine Below.drew ?_) | go_size | (exact Below.size (by assumption)) | (refine Nat.le_trans (Below.size (by assumption)) ?_))))
  have hbl := Lib.hid (show W.heap[w.heap.size]? = some (.cells #[.slice A l.length c] 22 (0, 0)) ∧ W.heap[w.heap.size + 1]? = some (.cells (fcells l.length) 4 (0, 0)) ∧ W.heap[w.heap.size + 1 + 1]? = some (.cells #[.slice (some ⟨w.heap.size + 1, 0, none⟩) l.length l.length] 83 (0, 0)) by
    rw [hW]
    refine ⟨?_, ?_, ?_⟩
    · exact (push_old _ _ _ (by simp; omega)).trans ((push_old _ _ _ (by simp; omega)).trans ((push_old _ _ _ (by simp)).trans (push_last _ _ _ rfl)))
    · exact (push_old _ _ _ (by simp)).trans ((push_old _ _ _ (by simp)).trans (push_last _ _ _ (by simp)))
    · exact (push_old _ _ _ (by simp)).trans (push_last _ _ _ (by simp)))
  clear hW h3
  go_upto_region 4 with fail
  obtain ⟨W2, hW2⟩ : ∃ W2, W2 = W.setCell ⟨w.heap.size + 1 + 1 + 1, 0, none⟩ (.func (.func 109) #[] #[.pointer (some ⟨w.heap.size + 1 + 1, 0, none⟩), .pointer (some ⟨w.heap.size, 0, none⟩), .pointer (some ⟨w.heap.size + 1 + 1 + 1, 0, none⟩)]) := ⟨_, rfl⟩
  rw [← hW2]
  have hB0 := (show rowB l.length (fun _ => false) = List.replicate l.length false by unfold rowB; rw [List.map_const', List.length_range])
  have E0 := Lib.hid (show EW w W2 (w.heap.size + 1 + 1) w.heap.size (w.heap.size + 1 + 1 + 1) (w.heap.size + 1) l A c (oldB l (xs.take 0)) by
    have hbk : ∀ g, g ≠ w.heap.size + 1 + 1 + 1 → W2.heap[g]? = W.heap[g]? := fun g hg => by rw [hW2]; exact Below.heap_setCell W _ _ g hg
    have hs : W2.heap.size = W.heap.size := by rw [hW2]; simp [World.setCell]
    obtain ⟨j0, j1, j2⟩ := hbl.out
    refine ⟨?_, ?_, ?_, by omega, by omega, by omega, by omega, by omega, by omega, ?_, ?_, by omega, HL.out⟩
    · exact (cell_of_row W2 _ 0 _ _ (0, 0) ((hbk _ (by omega)).trans j2)).trans rfl
    · exact (cell_of_row W2 _ 0 _ _ (0, 0) ((hbk _ (by omega)).trans j0)).trans rfl
    · rw [hW2]; exact World.cell?_setCell_same _ _ _ k0
    · rw [show oldB l (xs.take 0) = fun _ => false from funext fun j => by simp [oldB], hB0]
      exact ⟨fcells l.length, _, (hbk _ (by omega)).trans j1, by simp [fcells], by simp [fcells]⟩
    · rw [hW2]; exact hb.out.setCell (by simp; omega) _)
  clear hW2 hbl hb k0 k1 k2 hB0
  obtain ⟨ob, hob⟩ : ∃ ob, ob = w.heap.size + 1 + 1 := ⟨_, rfl⟩
  obtain ⟨vb, hvb⟩ : ∃ vb, vb = w.heap.size + 1 + 1 + 1 := ⟨_, rfl⟩
  rw [← hvb, ← hob] at E0 ⊢
  clear hob hvb
  go_wp2
  go_loopw [15] (fun t wr => ∃ k : Nat, t = .int .i64 k ∧ k ≤ n ∧ Hid (EW w wr ob w.heap.size vb (w.heap.size + 1) l A c (oldB l (xs.take k)))) (fun t _ => n - (intOf t).toNat)
  case atStart => exact ⟨0, rfl, by omega, E0⟩
  case round =>
    clear E0
    obtain ⟨k, rfl, hk, hr⟩ := hrel
    obtain ⟨q1, q2, q3, q4, q5, q6, -⟩ := hr.out
    by_cases hlt : k < n
    · obtain ⟨b, o, rfl, hbz, hc⟩ := (HO.out.below hr.out.b).2 (by omega)
      have h0 := hc k hlt
      have hlen := HO.out.1
      have hx := HX.out (xs.getD k 0) (by rw [List.getD_eq_getElem?_getD, List.getElem?_eq_getElem (by omega)]; exact List.getElem_mem _)
      have hst := oldB_snoc l (xs.take k) (xs.getD k 0)
      rw [show xs.take k ++ [xs.getD k 0] = xs.take (k + 1) by rw [List.take_succ_eq_append_getElem (by omega), List.getD_eq_getElem?_getD, List.getElem?_eq_getElem (by omega)]; rfl] at hst
      obtain ⟨x, hxx⟩ : ∃ x, xs.getD k 0 = x := ⟨_, rfl⟩
      rw [hxx] at h0 hst hx
      obtain ⟨x, rfl⟩ : ∃ y : Nat, x = y := ⟨x.toNat, by omega⟩
      rw [Int.toNat_natCast] at hst
      have HST := Lib.hid hst
      have hxl : x < l.length := by omega
      have hvis := visit_any w ob w.heap.size vb (w.heap.size + 1) l hl HG.out A c x hxl wr _ hr.out (oldB_closed HG.out _ x)
      rw [← HST.out] at hvis
      have HV := Lib.hid hvis
      clear hc hst hxx hvis hlen
      go_wp2_with fail
      refine HV.out.mono ?_
      rintro e w5 ⟨rfl, hE5⟩
      have H5 := Lib.hid hE5
      clear hE5 HV hr q1 q2 q3 q4 q5 q6 h0 hbz
      go_wp2
      go_roundw
      case rel => exact ⟨k + 1, by go_num, by omega, H5⟩
      case measure => simp [intOf]; omega
    · obtain rfl : k = n := by omega
      have hrw := hr.out.row
      have hrb := hr.out.b
      rw [← HO.out.1, List.take_length] at hrw
      have HR := Lib.hid (And.intro hrw hrb)
      clear hrw hrb hr
      go_wp2
      go_ret
      exact ⟨w.heap.size + 1, rfl, HR.out.1, HR.out.2, by omega⟩
end Go.Proofs.Ytdgmpaijpjkeoaa
