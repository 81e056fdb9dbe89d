/-
  THE REFERENCE: mixture.
-/
import Derived.Test.YtdgmpaijpjkeoaaWho
import Derived.Test.YtdgmpaijpjkeoaaRefB
import Derived.Test.YtdgmpaijpjkeoaaRegB
import Derived.Deep.CutBlock
namespace Go.Proofs.Ytdgmpaijpjkeoaa
open Go.RowKit
attribute [local go_sem] grow_cell grow_frozen
/-- The slice with address A and length n reads as the truth values bs. -/
def IsB (w : World) (A : Option Addr) (n : Nat) (bs : List Bool) : Prop :=
  bs.length = n ∧ (0 < n → ∃ b o, A = some ⟨b, o, none⟩ ∧ b < w.heap.size ∧ ∀ i, i < n → w.cell? ⟨b, o + i, none⟩ = some (.bool (bs.getD i false)))
theorem IsB.below {w w' : World} {A : Option Addr} {n : Nat} {bs : List Bool} (hb : Below w.heap.size w w') (h : IsB w A n bs) : IsB w' A n bs := by
  refine ⟨h.1, fun hn => ?_⟩
  obtain ⟨b, o, rfl, hlt, hc⟩ := h.2 hn
  exact ⟨b, o, rfl, Nat.lt_of_lt_of_le hlt hb.size, fun i hi => (hb.cell (p := ⟨b, o + i, none⟩) hlt).trans (hc i hi)⟩
/-- A whole number's digits do not lie in v's row. -/
def Sep (A : Option Addr) (n : Nat) (v : Value) : Prop := 0 < n → ∀ b o, A = some ⟨b, o, none⟩ → some b ≠ v.ownBlock
theorem IsW.grownSep {w w' : World} {A : Option Addr} {n a : Nat} {v : Value} (h : IsW w A n a) (hs : Sep A n v) (hg : w.grownBy w' v.ownBlock) : IsW w' A n a := by
  obtain ⟨zs, h1, h2, h3, h4⟩ := h
  refine ⟨zs, h1, h2, h3, fun hn => ?_⟩
  obtain ⟨b, o, hA, hb, hc⟩ := h4 hn
  have hh := hg.block b hb (hs hn b o hA)
  exact ⟨b, o, hA, Nat.lt_of_lt_of_le hb hg.size, fun i hi => (World.cell?_of_block (a := ⟨b, o + i, none⟩) hh).trans (hc i hi)⟩
theorem IsW.lt {w : World} {A : Option Addr} {n a b o : Nat} (h : IsW w A n a) (hn : 0 < n) (hA : A = some ⟨b, o, none⟩) : b < w.heap.size := by
  obtain ⟨zs, h1, h2, h3, h4⟩ := h
  obtain ⟨b', o', hA', hb, -⟩ := h4 hn
  rw [hA] at hA'
  cases hA'
  exact hb
/-- The numerators of the lots below k. -/
def OfR (w0 w : World) (v : Value) (k : Nat) (f : Nat → Nat) : Prop :=
  ∃ vals, w.ownsRow w0.heap.size 80 1 v k vals ∧ ∀ i, i < k → ∃ A n c, vals[i]? = some (.slice A n c) ∧ IsW w A n (f i) ∧ Sep A n v
theorem OfR.nil (w : World) (w0 : World) (f : Nat → Nat) : OfR w0 w (.slice none 0 0) 0 f := ⟨[], World.ownsRow_nil _ _ _ _, fun i hi => absurd hi (by omega)⟩
theorem OfR.keep {w0 w w' : World} {v : Value} {k : Nat} {f : Nat → Nat} (h : OfR w0 w v k f) (hb : Below w.heap.size w w') : OfR w0 w' v k f := by
  obtain ⟨vals, h1, h2⟩ := h
  refine ⟨vals, World.ownsRow.kept h1 (row := none) ⟨hb.os, hb.tape, hb.output, hb.size, fun k hk _ => hb.block k hk⟩ (by cases v.ownBlock <;> simp), fun i hi => ?_⟩
  obtain ⟨A, n, c, e1, e2, e3⟩ := h2 i hi
  exact ⟨A, n, c, e1, e2.below hb, e3⟩
theorem OfR.at_ {w0 w : World} {v : Value} {k : Nat} {f : Nat → Nat} (h : OfR w0 w v k f) (hk : 0 < k) : ∃ g cap, v = .slice (some ⟨g, 0, none⟩) k cap ∧ w0.heap.size ≤ g ∧ g < w.heap.size ∧ ∀ i, i < k → ∃ A n c, w.cell? ⟨g, i, none⟩ = some (.slice A n c) ∧ IsW w A n (f i) := by
  obtain ⟨vals, h1, h2⟩ := h
  rcases h1.2 with ⟨_, h0⟩ | ⟨g, cap, cur, rfl, -⟩
  · omega
  · obtain ⟨hr, -, hg⟩ := Row.of_own h1
    refine ⟨g, cap, rfl, hg, hr.lt, fun i hi => ?_⟩
    obtain ⟨A, n, c, e1, e2, -⟩ := h2 i hi
    obtain ⟨hlt, he⟩ := List.getElem?_eq_some_iff.1 e1
    exact ⟨A, n, c, by rw [hr.get i hlt, he], e2⟩
theorem OfR.lt {w0 w : World} {v : Value} {k : Nat} {f : Nat → Nat} (h : OfR w0 w v k f) : ∀ g, v.ownBlock = some g → w0.heap.size ≤ g ∧ g < w.heap.size := by
  obtain ⟨vals, h1, -⟩ := h
  exact World.ownsRow.lt h1
theorem sep_fresh {w0 w : World} {v : Value} {k : Nat} {f : Nat → Nat} (h : OfR w0 w v k f) {A : Option Addr} {n : Nat} (hf : ∀ x : Addr, A = some x → w.heap.size ≤ x.block) : Sep A n v := by
  intro _ b o hA he
  have h1 := hf _ hA
  have h2 := (h.lt b he.symm).2
  simp at h1
  omega
theorem wholeInfo : (Try.prog.info? 80).map (fun i => (i.zero, i.size, i.bytes)) = some (some (.slice none 0 0), 1, 24) := by kernel_rfl
/-- append(of, n). -/
theorem append_v {w : World} {ops : Array Oper} {rest : List Oper} {o : Oper} {a : Act} {Q : Exit → Act → World → Prop} (s x : Operand)
    (ho : o.op = .call { callee := .builtin .append, args := #[s, x], argTypes := #[113, 113] }) (hgd : o.guard = none)
    (w0 : World) (v : Value) (k : Nat) (f : Nat → Nat) (A : Option Addr) (n c : Nat) (W : World) (hW : w = W.alloc (.cells #[.slice A n c] 80)) (hs : a.eval s = v) (hown : OfR w0 W v k f) (hx : a.eval x = .slice (some ⟨W.heap.size, 0, none⟩) 1 1)
    (hI : IsW W A n (f k)) (hsep : Sep A n v) (hn : k ≤ 1000000) (hB : w0.heap.size ≤ W.heap.size)
    (h : ∀ v' w', OfR w0 w' v' (k + 1) f → W.grownBy w' v.ownBlock → (v'.ownBlock = v.ownBlock ∨ v'.ownBlock = some (W.heap.size + 1)) → wpList Try.prog ops Q rest (a.put o.dst v') w') : wpList Try.prog ops Q (o :: rest) a w := by
  subst hW
  obtain ⟨i0, hi, hz0, hz1, hz2⟩ := info_parts wholeInfo
  obtain ⟨vals, h1, h2⟩ := hown
  have hl : vals.length = k := by have := h1.1; omega
  refine wpList_append_lies (P := Try.prog) (w := W.alloc (.cells #[.slice A n c] 80)) hgd s x 113 ho w0.heap.size 80 i0 (.slice none 0 0) 1 24 Try.underlying113 hi hz0 hz1 hz2 rfl (by decide) v k _ hs (h1.alloc _) ⟨W.heap.size, 0, none⟩ 1 1 [.slice A n c] hx rfl
    (by intro j u hu; match j, hu with | 0, hu => simp at hu; subst hu; simp [Addr.add]) (by intro u hu; simp at hu; subst hu; rfl) (by omega) (by unfold maxLen; omega) (by omega) (by simp; omega) (W.heap.size + 1) (by simp) ?_
  intro g cap w' g1 g2 g3 g4
  have hgr : W.grownBy w' v.ownBlock := ⟨g2.os, g2.tape, g2.output, by have := g2.size; simp at this; omega, fun k hk hne => (g2.block k (by simp; omega) hne).trans (heap_alloc_old W _ hk)⟩
  have hnew : (Value.slice (some ⟨g, 0, none⟩) (k + 1) cap).ownBlock = v.ownBlock ∨ (Value.slice (some ⟨g, 0, none⟩) (k + 1) cap).ownBlock = some (W.heap.size + 1) := by
    rcases g3 with g3 | g3
    · exact .inl g3.symm
    · subst g3; exact .inr rfl
  have hsp : ∀ (A : Option Addr) (n a : Nat), IsW W A n a → Sep A n v → Sep A n (Value.slice (some ⟨g, 0, none⟩) (k + 1) cap) := by
    intro A n a hI hS hn b o hA he
    rcases hnew with e | e
    · rw [e] at he; exact hS hn b o hA he
    · rw [e] at he
      have := hI.lt hn hA
      injection he with he
      omega
  refine h _ w' ⟨vals ++ [.slice A n c], g1, fun i hi => ?_⟩ hgr hnew
  by_cases hik : i < k
  · obtain ⟨A', n', c', e1, e2, e3⟩ := h2 i hik
    exact ⟨A', n', c', by rw [List.getElem?_append_left (by omega)]; exact e1, e2.grownSep e3 hgr, hsp _ _ _ e2 e3⟩
  · obtain rfl : i = k := by omega
    exact ⟨A, n, c, by rw [List.getElem?_append_right (by omega), hl]; simp, hI.grownSep hsep hgr, hsp _ _ _ hI hsep⟩
theorem Sep.app {W : World} {A : Option Addr} {n a : Nat} {v v' : Value} (hI : IsW W A n a) (hS : Sep A n v) (h : v'.ownBlock = v.ownBlock ∨ v'.ownBlock = some (W.heap.size + 1)) : Sep A n v' := by
  intro hn b o hA he
  rcases h with e | e
  · rw [e] at he; exact hS hn b o hA he
  · rw [e] at he
    have := hI.lt hn hA
    injection he with he
    omega
/-- What mixture returns. -/
def RetM (w : World) (a b : Nat) (e : Ending) (w' : World) : Prop := ∃ A n c B n' c', e = .returned (.tuple #[.slice A n c, .slice B n' c']) ∧ IsW w' A n a ∧ IsW w' B n' b ∧ Below w.heap.size w w'
theorem tN_of {l : List LotD} {k : Nat} (hk : k < l.length) : tN l k = if sumP l[k].parts = 0 then 1 else (sumP l[k].parts).toNat := by unfold tN; rw [getD_at' hk]
theorem pr_top {l : List LotD} (hg : GoodAll l) (hl : l.length ≤ 24) {a b : Nat} (hb : b ≤ l.length) : Pr (tN l) a b * 600000 < topW := by
  have h1 := pr_big hg hl (a := a) hb
  have h2 : 600000 ^ 24 * 600000 < topW := by unfold topW; decide +kernel
  exact Nat.lt_of_le_of_lt (Nat.mul_le_mul_right 600000 h1) h2
/-- The sum over the first m parts. -/
def sF (l : List LotD) (f : Nat → Nat) (i m : Nat) : Nat := (((psN l i).take m).map fun p => f p.1 * p.2).sum
theorem sF_succ {l : List LotD} {f : Nat → Nat} {i m : Nat} (hm : m < (psN l i).length) : sF l f i (m + 1) = sF l f i m + f (psN l i)[m].1 * (psN l i)[m].2 := by
  unfold sF
  rw [List.take_succ_eq_append_getElem hm, List.map_append, List.sum_append]
  simp
theorem sum_take_le {ps : List (Nat × Nat)} (m : Nat) : ((ps.take m).map (·.2)).sum ≤ (ps.map (·.2)).sum := by
  conv => rhs; rw [← List.take_append_drop m ps]
  rw [List.map_append, List.sum_append]; omega
theorem sF_le {l : List LotD} (hg : GoodAll l) {f : Nat → Nat} {T i m : Nat} (hf : ∀ j, j < i → f j ≤ T) : sF l f i m ≤ T * tN l i := by
  unfold sF
  have h1 := sum_map_le ((psN l i).take m) (fun p => f p.1 * p.2) (fun p => p.2 * T) (fun p hp => by
    show f p.1 * p.2 ≤ p.2 * T
    rw [Nat.mul_comm]
    exact Nat.mul_le_mul_left _ (hf _ (psN_lt hg i p (List.mem_of_mem_take hp))))
  rw [sum_map_mul_right] at h1
  have h2 := sum_take_le (ps := psN l i) m
  have h3 := psN_sum hg i
  refine Nat.le_trans h1 ?_
  rw [Nat.mul_comm T]
  exact Nat.mul_le_mul_right _ (Nat.le_trans h2 h3)
end Go.Proofs.Ytdgmpaijpjkeoaa
/-
  THE REFERENCE: mixture, the walk.
-/
namespace Go.Proofs.Ytdgmpaijpjkeoaa
open Go.RowKit
attribute [local go_sem] grow_cell grow_frozen
section
variable {P : Program} {ops : Array Oper} {C : World → Prop} {L : Act → World → Prop} {rest : List Oper} {o : Oper} {a : Act} {w : World}
theorem plain_call (f : FuncId) (args : Array Value) (hw : Region.wanted o (yielded ops a.tmps) = true) (he : (execOp a.eval o).run P w = .ok (.enter f args) w) (hC : C w)
    (h : Calls P f args w fun e w'' => ∃ v, e = .returned v ∧ plainList P ops C L rest (a.put o.dst v) w'') : plainList P ops C L (o :: rest) a w := by
  refine ⟨hC, ?_⟩
  unfold stepC
  rw [if_pos hw, he]
  exact h
theorem plain_assign (x : Operand) (ho : o.op = .assign x) (hw : Region.wanted o (yielded ops a.tmps) = true) (hC : C w) (h : plainList P ops C L rest (a.put o.dst (a.eval x)) w) : plainList P ops C L (o :: rest) a w := by
  refine ⟨hC, ?_⟩
  unfold stepC
  rw [if_pos hw]
  unfold execOp
  simp only [ho, Sem.run_pure]
  exact h
end
set_option maxRecDepth 100000 in
set_option maxHeartbeats 2000000 in
theorem mixture_any (l : List LotD) (hl : l.length ≤ 24) (hg : GoodAll l) (A : Option Addr) (c : Nat) (M : Option Addr) (n c' : Nat) (bs : List Bool) (inn : Nat) (hi : inn < l.length) (hn : inn < n) (hn2 : n ≤ 1000) (f : Nat → Nat)
    (hf : ∀ i, i ≤ inn → f i = stepR (t := tN l) (ps := psN l) (fun j => bs.getD j false) (Pr (tN l) 0 (inn + 1)) i f) (hfb : ∀ i, i ≤ inn → f i ≤ Pr (tN l) 0 (inn + 1)) (w : World) (hL : LotsIn w A l) (hM : IsB w M n bs) :
    Calls Try.prog 62 #[.slice A l.length c, .slice M n c', .int .i64 inn] w (RetM w (f inn) (Pr (tN l) 0 (inn + 1))) := by
  have HL := Lib.hid hL
  have HG := Lib.hid hg
  have HF := Lib.hid hf
  have HFB := Lib.hid hfb
  have HM := Lib.hid hM
  obtain ⟨b, o, rfl, hcs⟩ := hL (by omega)
  have HC := Lib.hid hcs
  clear hL hg hf hfb hM hcs
  go_enter Try.func62, Try.ntmps62
  go_wp2_with fail
  refine (wsmall_any 1 (by omega) _).mono ?_
  rintro e w1 ⟨A1, n1, c1, rfl, hw1, hb1, -⟩
  have H1 := Lib.hid (show IsW w1 A1 n1 (Pr (tN l) 0 0) ∧ Below w.heap.size w w1 from ⟨by rw [Pr_self]; exact hw1, hb1⟩)
  clear hw1 hb1
  go_wp2
  go_loopw [8, 9] (fun v i wr => ∃ (A : Option Addr) (n c k : Nat), v = .slice A n c ∧ i = .int .i64 k ∧ k ≤ inn + 1 ∧ Hid (IsW wr A n (Pr (tN l) 0 k) ∧ Below w.heap.size w wr)) (fun _ i _ => inn + 1 - (intOf i).toNat)
  case atStart => exact ⟨A1, n1, c1, 0, rfl, rfl, by omega, H1⟩
  case round =>
    clear H1
    obtain ⟨A1, n1, c1, k, rfl, rfl, hk, hr⟩ := hrel
    by_cases hlt : k ≤ inn
    · obtain ⟨e1, e2, e3, e4, e5, A', c2, e6, e8, e7⟩ := HC.out k (by omega)
      replace e4 := (hr.out.2.cell (p := ⟨b, _, none⟩) e3).trans e4
      replace e5 := (hr.out.2.cell (p := ⟨b, _, none⟩) e3).trans e5
      replace e6 := (hr.out.2.cell (p := ⟨b, _, none⟩) e3).trans e6
      have ebz := Nat.lt_of_lt_of_le e3 hr.out.2.size
      have hsg := sum_good HG.out k
      have hps := fun p hp => part_good HG.out (i := k) (p := p) hp
      have hpl := plen_good HG.out k
      have htn := tN_of (show k < l.length by omega)
      have hsucc := Pr_succ (t := tN l) (a := 0) (b := k) (by omega)
      have hP1 := pr_top HG.out hl (a := 0) (b := k) (by omega)
      rw [getD_at' (show k < l.length by omega)] at hsg hps hpl
      obtain ⟨x, hx⟩ : ∃ x, x = l[k] := ⟨_, rfl⟩
      rw [← hx] at e1 e2 e4 e5 e6 e7 e8 hsg hps hpl htn
      obtain ⟨kd, ms, ps⟩ := x
      simp only at e1 e2 e4 e5 e6 e8 hsg hpl htn
      have HP := Lib.hid e7
      have HPS := Lib.hid hps
      have HT := Lib.hid htn
      have HSU := Lib.hid hsucc
      have HP1 := Lib.hid hP1
      clear hps htn hsucc hP1 hx e7
      by_cases hz : ps.length = 0
      · have hpn : ps = [] := List.eq_nil_of_length_eq_zero hz
        have HT2 := Lib.hid (show tN l k = 1 by rw [HT.out, hpn]; rfl)
        clear hpn
        have d0 : decide ((0 : Int) < (ps.length : Int)) = false := decide_eq_false (by omega)
        have d1 : decide (k ≤ inn) = true := decide_eq_true hlt
        rw [hz] at e6
        go_wp2
        go_roundw
        case rel => exact ⟨A1, n1, c1, k + 1, rfl, by go_num, by omega, Lib.hid ⟨by rw [HSU.out, HT2.out, Nat.mul_one]; exact hr.out.1, hr.out.2⟩⟩
        case measure => simp [intOf]; omega
      · have hpp : 0 < ps.length := by omega
        have hsp := sumP_pos (ps := ps) (fun p hp => (HPS.out p hp).2.2) (fun e => hz (by rw [e]; rfl))
        obtain ⟨S, hS⟩ : ∃ S : Nat, (S : Int) = sumP ps := ⟨(sumP ps).toNat, by omega⟩
        have htk := rtakes_any ⟨kd, ms, ps⟩ A' c2 wr (HP.out.below hr.out.2) ⟨by show ps.length ≤ _; omega, fun p hp => by have := HPS.out p hp; omega⟩
        simp only [← hS] at htk hsp hsg
        have HT2 := Lib.hid (show tN l k = S by rw [HT.out, if_neg (by omega)]; omega)
        have HTK := Lib.hid htk
        have d1 : decide (k ≤ inn) = true := decide_eq_true hlt
        have hPT := Lib.hid (show Pr (tN l) 0 k < topW by have := HP1.out; omega)
        clear hz htk hS
        go_wp2_with fail
        refine HTK.out.mono ?_
        rintro e w2 ⟨rfl, hb2⟩
        have H2 := Lib.hid (show IsW w2 A1 n1 (Pr (tN l) 0 k) ∧ Below w.heap.size w w2 from ⟨hr.out.1.below hb2, hr.out.2.trans (hb2.mono hr.out.2.size)⟩)
        clear hb2 hr e4 e5 e6
        go_wp2_with fail
        refine (wtimes_any A1 n1 c1 _ S (by omega) hPT.out _ H2.out.1).mono ?_
        rintro e w3 ⟨A3, n3, c3, rfl, hw3, hb3, -⟩
        have H3 := Lib.hid (show IsW w3 A3 n3 (Pr (tN l) 0 (k + 1)) ∧ Below w.heap.size w w3 from ⟨by rw [HSU.out, HT2.out]; exact hw3, H2.out.2.trans (hb3.mono H2.out.2.size)⟩)
        clear hw3 hb3 H2
        go_wp2
        go_roundw
        case rel => exact ⟨A3, n3, c3, k + 1, rfl, by go_num, by omega, H3⟩
        case measure => simp [intOf]; omega
    · obtain rfl : k = inn + 1 := by omega
      obtain ⟨T, hT⟩ : ∃ T, T = Pr (tN l) 0 (inn + 1) := ⟨_, rfl⟩
      have hTT := pr_top HG.out hl (a := 0) (b := inn + 1) (by omega)
      rw [← hT] at hr hTT
      have HTT := Lib.hid hTT
      have HF2 := Lib.hid (show ∀ i, i ≤ inn → f i = stepR (t := tN l) (ps := psN l) (fun j => bs.getD j false) T i f from by rw [hT]; exact HF.out)
      have HFB2 := Lib.hid (show ∀ i, i ≤ inn → f i ≤ T from by rw [hT]; exact HFB.out)
      have HTE := Lib.hid hT
      have dk : decide (((inn + 1 : Nat) : Int) ≤ (inn : Int)) = false := decide_eq_false (by omega)
      have dk2 : decide (inn + 1 ≤ inn) = false := decide_eq_false (by omega)
      clear hT hTT HF HFB
      go_wp2
      go_loopw [10, 11] (fun v i wr => ∃ k : Nat, i = .int .i64 k ∧ k ≤ inn + 1 ∧ Hid (OfR w wr v k f ∧ IsW wr A1 n1 T ∧ Sep A1 n1 v ∧ Below w.heap.size w wr)) (fun _ i _ => inn + 1 - (intOf i).toNat)
      case atStart => exact ⟨0, rfl, by omega, Lib.hid ⟨OfR.nil _ _ _, hr.out.1, fun _ b o _ => by simp [Value.ownBlock], hr.out.2⟩⟩
      case round =>
        clear hr dk dk2 hlt hk
        obtain ⟨k, rfl, hk, hr⟩ := hrel
        by_cases hlt : k ≤ inn
        · obtain ⟨b', o', hMA, hMb, hMc⟩ := (HM.out.below hr.out.2.2.2).2 (by omega)
          subst hMA
          have m0 := hMc k (by omega)
          obtain ⟨bk, hbk⟩ : ∃ bk, bk = bs.getD k false := ⟨_, rfl⟩
          rw [← hbk] at m0
          have HBK := Lib.hid hbk
          have hfk := HF2.out k hlt
          have HFK := Lib.hid hfk
          have hsz := hr.out.2.2.2.size
          have dk : decide (k ≤ inn) = true := decide_eq_true hlt
          clear hMc hbk hfk
          go_upto_if 42 with fail
          go_cut [12] (fun t wx => ∃ (A : Option Addr) (n c : Nat), t = .slice A n c ∧ Hid (IsW wx A n (f k) ∧ Sep A n u10 ∧ OfR w wx u10 k f ∧ IsW wx A1 n1 T ∧ Below w.heap.size w wx))
          case first =>
            cases bk with
            | true =>
              have HT := Lib.hid (show f k = T by rw [HFK.out, stepR, if_pos HBK.out.symm])
              go_wp2_with fail
              go_meet
              exact ⟨A1, n1, c1, rfl, Lib.hid ⟨by rw [HT.out]; exact hr.out.2.1, hr.out.2.2.1, hr.out.1, hr.out.2.1, hr.out.2.2.2⟩⟩
            | false =>
              have HSR := Lib.hid (show f k = if psN l k = [] then 0 else ((psN l k).map fun p => f p.1 * p.2).sum / tN l k by rw [HFK.out, stepR, if_neg (by rw [← HBK.out]; decide)])
              obtain ⟨e1, e2, e3, e4, e5, A', c2, e6, e8, e7⟩ := HC.out k (by omega)
              have hps := fun p hp => part_good HG.out (i := k) (p := p) hp
              have hpl := plen_good HG.out k
              have hsg := sum_good HG.out k
              have htn := tN_of (show k < l.length by omega)
              have hpsn : psN l k = (l.getD k default).parts.map fun p => (p.1.toNat, p.2.toNat) := rfl
              rw [getD_at' (show k < l.length by omega)] at hps hpl hpsn hsg
              obtain ⟨x, hx⟩ : ∃ x, x = l[k] := ⟨_, rfl⟩
              rw [← hx] at e1 e2 e4 e5 e6 e7 e8 hps hpl hpsn hsg htn
              obtain ⟨kd, ms, ps⟩ := x
              simp only at e1 e2 e4 e5 e6 e8 hpl hpsn hsg htn
              have EW := Lib.hid (show b < w.heap.size ∧ w.cell? ⟨b, o + k * 3, none⟩ = some (.int .i64 kd) ∧ w.cell? ⟨b, o + k * 3 + 1, none⟩ = some (.int .i64 ms) ∧ w.cell? ⟨b, o + k * 3 + 2, none⟩ = some (.slice A' ps.length c2) from ⟨e3, e4, e5, e6⟩)
              have e6' := (hr.out.2.2.2.cell (p := ⟨b, _, none⟩) e3).trans e6
              have ebz := Nat.lt_of_lt_of_le e3 hr.out.2.2.2.size
              have HP := Lib.hid e7
              have HPS := Lib.hid hps
              have HPN := Lib.hid hpsn
              have HTN := Lib.hid htn
              have hle := fun m => sF_le HG.out (f := f) (T := T) (i := k) (m := m) (fun j hj => HFB2.out j (by omega))
              have HLE := Lib.hid hle
              clear hps hpsn hx e7 hle htn e3 e4 e5 e6
              go_wp2
              go_loopw [12, 13] (fun t j wq => ∃ (A : Option Addr) (n c m : Nat), t = .slice A n c ∧ j = .int .i64 m ∧ m ≤ ps.length ∧ Hid (IsW wq A n (sF l f k m) ∧ Sep A n u10 ∧ OfR w wq u10 k f ∧ IsW wq A1 n1 T ∧ Below w.heap.size w wq)) (fun _ j _ => ps.length - (intOf j).toNat)
              case atStart => exact ⟨none, 0, 0, 0, rfl, rfl, by omega, Lib.hid ⟨IsW.zero, fun h => absurd h (by omega), hr.out.1, hr.out.2.1, hr.out.2.2.2⟩⟩
              case round =>
                have hr2 := Lib.hid hr.out.2.2.1
                clear hr m0 hMb hsz e6' ebz
                obtain ⟨A2, n2, c3, m, rfl, rfl, hm, hq⟩ := hrel
                have f4 := (hq.out.2.2.2.2.cell (p := ⟨b, _, none⟩) EW.out.1).trans EW.out.2.1
                have f5 := (hq.out.2.2.2.2.cell (p := ⟨b, _, none⟩) EW.out.1).trans EW.out.2.2.1
                have f6 := (hq.out.2.2.2.2.cell (p := ⟨b, _, none⟩) EW.out.1).trans EW.out.2.2.2
                have fbz := Nat.lt_of_lt_of_le EW.out.1 hq.out.2.2.2.2.size
                by_cases hml : m < ps.length
                · obtain ⟨b2, o2, rfl, hb2, hcc⟩ := (HP.out.below hq.out.2.2.2.2).2 (by omega)
                  obtain ⟨q0, q1⟩ := hcc m hml
                  have hpg := HPS.out _ (List.getElem_mem hml)
                  have hml2 : m < (psN l k).length := by rw [HPN.out]; simpa using hml
                  have hsucc := sF_succ (f := f) hml2
                  have hget : (psN l k)[m] = (ps[m].1.toNat, ps[m].2.toNat) := by simp [HPN.out]
                  rw [hget] at hsucc
                  obtain ⟨p, hp⟩ : ∃ p, p = ps[m] := ⟨_, rfl⟩
                  rw [← hp] at q0 q1 hpg hsucc
                  obtain ⟨p1, p2⟩ := p
                  simp only at q0 q1 hpg hsucc
                  obtain ⟨a, rfl⟩ : ∃ a : Nat, p1 = a := ⟨p1.toNat, by omega⟩
                  obtain ⟨q, rfl⟩ : ∃ q : Nat, p2 = q := ⟨p2.toNat, by omega⟩
                  rw [Int.toNat_natCast, Int.toNat_natCast] at hsucc
                  have ha : a < k := by omega
                  have hq5 : q ≤ 100000 := by omega
                  obtain ⟨g, cap, hv, hg1, hg2, hgc⟩ := hq.out.2.2.1.at_ (by omega)
                  obtain ⟨A4, n4, c4, r0, r1⟩ := hgc a ha
                  have HSU := Lib.hid hsucc
                  have HV := Lib.hid hv
                  have R1 := Lib.hid r1
                  have hfa := HFB2.out a (by omega)
                  have FT := Lib.hid (show f a < topW by have := HTT.out; omega)
                  have hs1 := HLE.out m
                  have htk := tN_le HG.out k
                  have hmul : T * tN l k ≤ T * 600000 := Nat.mul_le_mul_left _ htk
                  have ST := Lib.hid (show sF l f k m < topW by have := HTT.out; omega)
                  have hs2 := HLE.out (m + 1)
                  have PT := Lib.hid (show f a * q < topW by have := HTT.out; omega)
                  clear hcc hpg hml2 hsucc hget hp hgc r1 hfa hs1 htk hmul hs2
                  rw [HV.out]
                  go_upto_region 17 with fail
                  refine region_mix (C := fun w' => ∃ x, w' = grow wr x) 22 (by kernel_rfl) (by kernel_rfl) (grow_start wr) ?_
                  simp only [List.take_succ_cons, List.take_zero, List.drop_succ_cons, List.drop_zero]
                  repeat (go_big_quiet_step (fail))
                  refine wpQuiet_nil ?_
                  rintro w5 ⟨xg, hxg⟩
                  have hb5 := below_grow wr xg
                  rw [← hxg] at hb5
                  refine plain_call 91 #[.slice A4 n4 c4, .int .i64 q] rfl (by go_simp) ⟨xg, hxg⟩ ?_
                  refine (wtimes_any A4 n4 c4 (f a) q (by omega) FT.out _ (R1.out.below hb5)).mono ?_
                  rintro e w6 ⟨A6, n6, c6, rfl, hw6, hb6, hf6⟩
                  refine ⟨_, rfl, ?_⟩
                  have hb6' := hb5.trans (hb6.mono hb5.size)
                  refine plain_call 92 #[.slice A2 n2 c3, .slice A6 n6 c6] rfl (by go_simp) (grow_of_below hb6') ?_
                  refine (wplus_any A2 n2 c3 _ A6 n6 c6 _ ST.out PT.out _ (hq.out.1.below hb6') hw6).mono ?_
                  rintro e w7 ⟨A7, n7, c7, rfl, hw7, hb7, hf7⟩
                  refine ⟨_, rfl, ?_⟩
                  have hb7' := hb6'.trans (hb7.mono hb6'.size)
                  refine plain_assign _ rfl rfl (grow_of_below hb7') ?_
                  refine ⟨grow_of_below hb7', ?_⟩
                  have H7 := Lib.hid (show IsW w7 A7 n7 (sF l f k (m + 1)) ∧ Sep A7 n7 u10 ∧ OfR w w7 u10 k f ∧ IsW w7 A1 n1 T ∧ Below w.heap.size w w7 from ⟨by rw [HSU.out]; exact hw7, sep_fresh (hq.out.2.2.1.keep hb6') hf7, hq.out.2.2.1.keep hb7', hq.out.2.2.2.1.below hb7', hq.out.2.2.2.2.trans (hb7'.mono hq.out.2.2.2.2.size)⟩)
                  clear hxg hb5 hw6 hb6 hf6 hb6' hw7 hb7 hf7 hb7' q0 q1 r0 f4 f5 f6 fbz hb2 hv hg1 hg2 hq
                  go_simp
                  go_wp2
                  go_roundw
                  case rel => first | exact ⟨A7, n7, c7, m + 1, rfl, by go_num, by omega, HV.out ▸ H7⟩ | ((repeat apply Exists.intro); exact ⟨⟨A7, n7, c7, m + 1, rfl, by go_num, by omega, HV.out ▸ H7⟩, rfl⟩)
                  case measure => simp [intOf]; omega
                · obtain rfl : m = ps.length := by omega
                  have hlen : (psN l k).length = ps.length := by rw [HPN.out]; simp
                  by_cases hz : ps.length = 0
                  · have HE := Lib.hid (show sF l f k ps.length = f k by
                      rw [HSR.out, if_pos (List.eq_nil_of_length_eq_zero (by omega)), hz]; rfl)
                    have d0 : decide ((0 : Int) < (ps.length : Int)) = false := decide_eq_false (by omega)
                    clear hlen
                    go_wp2_with fail
                    go_meet
                    exact ⟨A2, n2, c3, rfl, Lib.hid ⟨by rw [← HE.out]; exact hq.out.1, hq.out.2⟩⟩
                  · have hpp : 0 < ps.length := by omega
                    have hsp := sumP_pos (ps := ps) (fun p hp => (HPS.out p hp).2.2) (fun e => hz (by rw [e]; rfl))
                    obtain ⟨S, hS⟩ : ∃ S : Nat, (S : Int) = sumP ps := ⟨(sumP ps).toNat, by omega⟩
                    have htk := rtakes_any ⟨kd, ms, ps⟩ A' c2 wr (HP.out.below hq.out.2.2.2.2) ⟨by show ps.length ≤ _; omega, fun p hp => by have := HPS.out p hp; omega⟩
                    simp only [← hS] at htk hsp hsg
                    have HT2 := Lib.hid (show tN l k = S by rw [HTN.out, if_neg (by omega)]; omega)
                    have HE := Lib.hid (show sF l f k ps.length / S = f k by
                      rw [HSR.out, if_neg (fun e => hz (by rw [← hlen, e]; rfl)), HT2.out, sF, List.take_of_length_le (by omega)])
                    have HTK := Lib.hid htk
                    have hsn : n2 ≤ 1000 := by
                      have h1 := HLE.out ps.length
                      have h2 := Nat.mul_le_mul_left T (tN_le HG.out k)
                      have := hq.out.1.len (show sF l f k ps.length < topW by have := HTT.out; omega)
                      omega
                    clear hz htk hS hlen
                    go_wp2_with fail
                    refine HTK.out.mono ?_
                    rintro e w5 ⟨rfl, hb5⟩
                    have H5 := Lib.hid (show IsW w5 A2 n2 (sF l f k ps.length) ∧ OfR w w5 u10 k f ∧ IsW w5 A1 n1 T ∧ Below w.heap.size w w5 from ⟨hq.out.1.below hb5, hq.out.2.2.1.keep hb5, hq.out.2.2.2.1.below hb5, hq.out.2.2.2.2.trans (hb5.mono hq.out.2.2.2.2.size)⟩)
                    clear hb5 hq f4 f5 f6
                    go_wp2_with fail
                    refine (wby_any A2 n2 c3 _ S (by omega) (by omega) (by omega) _ H5.out.1).mono ?_
                    rw [HE.out]
                    rintro e w6 ⟨A6, n6, c6, rfl, hw6, hb6, hf6⟩
                    have H6 := Lib.hid (show IsW w6 A6 n6 (f k) ∧ Sep A6 n6 u10 ∧ OfR w w6 u10 k f ∧ IsW w6 A1 n1 T ∧ Below w.heap.size w w6 from ⟨hw6, sep_fresh H5.out.2.1 hf6, H5.out.2.1.keep hb6, H5.out.2.2.1.below hb6, H5.out.2.2.2.trans (hb6.mono H5.out.2.2.2.size)⟩)
                    clear hw6 hb6 hf6 H5
                    go_wp2_with fail
                    go_meet
                    exact ⟨A6, n6, c6, rfl, H6⟩
          case rest =>
            obtain ⟨A2, n2, c2, rfl, hq⟩ := hcut
            have hr2 := Lib.hid hr.out.2.2.1
            clear hr m0 hMb hsz
            have hsz := hq.out.2.2.2.2.size
            go_wp2_with (at_builtin; refine append_v (.tmp 92) (.tmp 94) rfl rfl w _ k f A2 n2 c2 wc rfl rfl hq.out.2.2.1 rfl hq.out.1 hq.out.2.1 (by omega) hsz ?_; intro v' w4 ho hg hnb)
            have H4 := Lib.hid (show OfR w w4 v' (k + 1) f ∧ IsW w4 A1 n1 T ∧ Sep A1 n1 v' ∧ Below w.heap.size w w4 from ⟨ho, hq.out.2.2.2.1.grownSep hr2.out hg, hr2.out.app hq.out.2.2.2.1 hnb, hq.out.2.2.2.2.grown hg hsz (fun g hg' => (hq.out.2.2.1.lt g hg').1)⟩)
            clear ho hg hnb
            go_wp2
            go_roundw
            case rel => first | exact ⟨k + 1, by go_num, by omega, H4⟩ | ((repeat apply Exists.intro); exact ⟨⟨k + 1, by go_num, by omega, H4⟩, rfl⟩)
            case measure => simp [intOf]; omega
        · obtain rfl : k = inn + 1 := by omega
          obtain ⟨g, cap, hv, hg1, hg2, hgc⟩ := hr.out.1.at_ (by omega)
          subst hv
          obtain ⟨A2, n2, c2, q0, q1⟩ := hgc inn (by omega)
          have Q1 := Lib.hid q1
          have dk : decide (((inn + 1 : Nat) : Int) ≤ (inn : Int)) = false := decide_eq_false (by omega)
          have dk2 : decide (inn + 1 ≤ inn) = false := decide_eq_false (by omega)
          clear hgc q1
          go_wp2
          go_ret2
          exact ⟨A2, n2, c2, A1, n1, c1, rfl, Q1.out, by rw [← HTE.out]; exact hr.out.2.1, hr.out.2.2.2⟩
end Go.Proofs.Ytdgmpaijpjkeoaa
