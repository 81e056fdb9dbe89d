/-
  THE REFERENCE: inside.
-/
import Derived.Test.YtdgmpaijpjkeoaaSetA
import Derived.Test.YtdgmpaijpjkeoaaBools
import Derived.Test.YtdgmpaijpjkeoaaMixA
import Derived.Deep.MidRow
namespace Go.Proofs.Ytdgmpaijpjkeoaa
open Go.RowKit
/-- append(s, x...) of some truths, to an empty slice. -/
theorem append_bools {w : World} {ops : Array Oper} {rest : List Oper} {o : Oper} {a : Act} {Q : Exit → Act → World → Prop} (s x : Operand)
    (ho : o.op = .call { callee := .builtin .append, args := #[s, x], argTypes := #[83, 83] }) (hgd : o.guard = none)
    (B : Nat) (v : Value) (bs : List Bool) (M : Option Addr) (c : Nat) (hs : a.eval s = v) (hown : OwnB w B v []) (hx : a.eval x = .slice M bs.length c) (hM : IsB w M bs.length bs)
    (hp : 0 < bs.length) (hn : bs.length ≤ 1000000) (hB : B ≤ w.heap.size)
    (h : ∀ g cap w', OwnB w' B (.slice (some ⟨g, 0, none⟩) bs.length cap) bs → w.grownBy w' v.ownBlock → wpList Try.prog ops Q rest (a.put o.dst (.slice (some ⟨g, 0, none⟩) bs.length cap)) w') : wpList Try.prog ops Q (o :: rest) a w := by
  obtain ⟨i0, hi, hz0, hz1, hz2⟩ := info_parts boolInfo
  obtain ⟨b, of, rfl, hlt, hc⟩ := hM.2 hp
  refine wpList_append_lies (P := Try.prog) (w := w) hgd s x 83 ho B 4 i0 (.bool false) 1 1 Try.underlying83 hi hz0 hz1 hz2 rfl (by decide) v 0 [] hs hown ⟨b, of, none⟩ bs.length c (bs.map Value.bool) hx (by simp)
    (by
      intro j u hu
      obtain ⟨hj, rfl⟩ := List.getElem?_eq_some_iff.1 hu
      rw [List.length_map] at hj
      have := hc j hj
      rw [Addr.add_mid, this]
      simp [hj]) (by intro u hu; obtain ⟨y, -, rfl⟩ := List.mem_map.1 hu; rfl) hp (by unfold maxLen; omega) (by omega) hB _ rfl ?_
  intro g cap w' h1 h2 h3 h4
  rw [Nat.zero_add] at h1 ⊢
  exact h g cap w' (by unfold OwnB; exact h1) h2
def insP (l : List LotD) (B : Nat → Bool) (k m j : Nat) : Bool := insB l B k j || (insB l B k (l.length - 1 - k) && ((psN l (l.length - 1 - k)).take m).any fun p => p.1 == j)
section
variable {l : List LotD} {B : Nat → Bool} {k m : Nat}
theorem insP_zero : insP l B k 0 = insB l B k := by funext j; simp [insP]
theorem insP_full (h : (psN l (l.length - 1 - k)).length ≤ m) : insP l B k m = insB l B (k + 1) := by funext j; rw [insP, List.take_of_length_le h]; rfl
theorem insP_no (h : insB l B k (l.length - 1 - k) = false) : insB l B (k + 1) = insB l B k := by funext j; rw [insB, h]; simp
theorem insP_self (hg : GoodAll l) : insP l B k m (l.length - 1 - k) = insB l B k (l.length - 1 - k) := by
  unfold insP
  have : (((psN l (l.length - 1 - k)).take m).any fun p => p.1 == l.length - 1 - k) = false := by
    rw [List.any_eq_false]
    intro p hp
    have := psN_lt hg _ p (List.mem_of_mem_take hp)
    simp
    omega
  rw [this, Bool.and_false, Bool.or_false]
theorem insP_step (h : insB l B k (l.length - 1 - k) = true) {p : Nat × Nat} (hp : (psN l (l.length - 1 - k))[m]? = some p) (j : Nat) : insP l B k (m + 1) j = if j = p.1 then true else insP l B k m j := by
  obtain ⟨hm, rfl⟩ := List.getElem?_eq_some_iff.1 hp
  unfold insP
  rw [h, List.take_succ_eq_append_getElem hm, List.any_append]
  simp only [Bool.true_and, List.any_cons, List.any_nil, Bool.or_false]
  by_cases hj : j = (psN l (l.length - 1 - k))[m].1
  · rw [if_pos hj, hj]; simp
  · rw [if_neg hj, show ((psN l (l.length - 1 - k))[m].1 == j) = false by rw [beq_eq_false_iff_ne]; exact fun e => hj e.symm, Bool.or_false]
end
set_option maxRecDepth 100000 in
set_option maxHeartbeats 1000000 in
theorem inside_any (l : List LotD) (hl : l.length ≤ 24) (hg : GoodAll l) (hp : 0 < l.length) (A : Option Addr) (c : Nat) (M : Option Addr) (d : Nat) (B : Nat → Bool) (w : World) (hL : LotsIn w A l) (hM : IsB w M l.length (rowB l.length B)) :
    Calls Try.prog 84 #[.slice A l.length c, .slice M l.length d] w fun e w' => ∃ rb cap, e = .returned (.slice (some ⟨rb, 0, none⟩) l.length cap) ∧ RowB w' rb (rowB l.length (resB l B)) ∧ Below w.heap.size w w' ∧ w.heap.size ≤ rb := by
  have HL := Lib.hid hL
  have HM := Lib.hid hM
  have HG := Lib.hid hg
  clear hL hM hg
  have hown : OwnB (w.alloc (.cells #[] 4)) w.heap.size (.slice (some ⟨w.heap.size, 0, none⟩) 0 0) [] := ⟨rfl, .inr ⟨w.heap.size, 0, #[], rfl, Nat.le_refl _, push_last _ _ _ rfl, Nat.le_refl _, Nat.zero_le _, rfl, rfl⟩⟩
  have HO := Lib.hid hown
  have hMa := HM.out.below ((Below.refl w.heap.size w).alloc (Nat.le_refl _) (.cells #[] 4))
  have hlen := rowB_length l.length B
  clear hown
  go_enter Try.func84, Try.ntmps84
  go_upto_region 2 with (at_builtin; refine append_bools (.tmp 8) (.tmp 9) rfl rfl w.heap.size _ (rowB l.length B) M d rfl HO.out (by rw [hlen]; rfl) (by rw [hlen]; exact hMa) (by omega) (by omega) (by simp) ?_; intro rb cap W hown hg)
  have H0 := Lib.hid (show RowB W rb (rowB l.length (insB l B 0)) ∧ Below w.heap.size w W ∧ w.heap.size ≤ rb from by
    refine ⟨(Row.of_own hown).1, below_grown ((Below.refl _ _).alloc (Nat.le_refl _) _) hg (Nat.le_refl _) (by simp), (hown.lt rb rfl).1⟩)
  clear hown hg hMa hlen HO
  go_wp2
  go_loopw [6] (fun t wr => ∃ k : Nat, t = .int .i64 ((l.length : Int) - 1 - k) ∧ k ≤ l.length ∧ Hid (RowB wr rb (rowB l.length (insB l B k)) ∧ Below w.heap.size w wr ∧ w.heap.size ≤ rb)) (fun t _ => ((intOf t) + 1).toNat)
  case atStart => exact ⟨0, by go_num, by omega, H0⟩
  case round =>
    clear H0
    obtain ⟨k, rfl, hk, hr⟩ := hrel
    by_cases hlt : k < l.length
    · obtain ⟨i, hi⟩ : ∃ i : Nat, i = l.length - 1 - k := ⟨_, rfl⟩
      have hii : (l.length : Int) - 1 - k = i := by omega
      have hil : i < l.length := by omega
      rw [hii]
      obtain ⟨b, o, rfl, hc⟩ := HL.out hp
      obtain ⟨e1, e2, e3, e4, e5, A', c', e6, e8, e7⟩ := hc i hil
      have hgd := HG.out i hil
      have hpl := hgd.plen
      have hpt := hgd.part
      have hpe : psN l i = l[i].parts.map fun p => (p.1.toNat, p.2.toNat) := by unfold psN; rw [getD_at' hil]
      obtain ⟨ps, hps⟩ : ∃ ps, ps = l[i].parts := ⟨_, rfl⟩
      rw [← hps] at e6 e7 e8 hpl hpt hpe
      have HPT := Lib.hid hpt
      have HPE := Lib.hid hpe
      have HP7 := Lib.hid e7
      have HI := Lib.hid hi
      obtain ⟨x, hx⟩ : ∃ x, x = insB l B k i := ⟨_, rfl⟩
      have HX := Lib.hid hx
      clear hc e1 e2 e4 e5 e7 hgd hpt hpe hps hx hii hi
      have P0 := Lib.hid (show RowB wr rb (rowB l.length (insP l B k 0)) ∧ Below w.heap.size w wr ∧ w.heap.size ≤ rb by rw [insP_zero]; exact hr.out)
      clear hr
      go_wp2
      go_loopw [7] (fun t wq => ∃ m : Nat, t = .int .i64 m ∧ m ≤ ps.length ∧ (x = false → m = 0) ∧ Hid (RowB wq rb (rowB l.length (insP l B k m)) ∧ Below w.heap.size w wq ∧ w.heap.size ≤ rb)) (fun t _ => ps.length - (intOf t).toNat)
      case atStart => exact ⟨0, rfl, by omega, fun _ => rfl, P0⟩
      case round =>
        clear P0
        obtain ⟨m, rfl, hm, hx0, hq⟩ := hrel
        have q6 := (hq.out.2.1.cell (p := ⟨b, _, none⟩) e3).trans e6
        have q3 := Nat.lt_of_lt_of_le e3 hq.out.2.1.size
        have r1 := RowB.at hq.out.1 i (by rw [rowB_length]; exact hil)
        rw [rowB_get hil, show insP l B k m i = x by rw [HX.out, HI.out]; exact insP_self HG.out] at r1
        have r3 := Row.lt hq.out.1
        by_cases hml : m < ps.length
        · cases x with
          | true =>
            obtain ⟨b', o', rfl, hb', hcc⟩ := (HP7.out.below hq.out.2.1).2 (by omega)
            obtain ⟨z0, z1⟩ := hcc m hml
            have hpt := HPT.out _ (List.getElem_mem hml)
            have hpg : (psN l i)[m]? = some (ps[m].1.toNat, ps[m].2.toNat) := by rw [HPE.out, List.getElem?_map, List.getElem?_eq_getElem hml]; rfl
            obtain ⟨P, hP⟩ : ∃ P, P = ps[m] := ⟨_, rfl⟩
            rw [← hP] at z0 z1 hpt hpg
            obtain ⟨p1, p2⟩ := P
            simp only at z0 z1 hpt hpg
            obtain ⟨pn, rfl⟩ : ∃ pn : Nat, p1 = pn := ⟨p1.toNat, by omega⟩
            rw [Int.toNat_natCast] at hpg
            have hpi : pn < i := by omega
            have hpn : pn < l.length := by omega
            have hst := rowB_set (n := l.length) (i := pn) (insP_step (B := B) (k := k) (m := m) (by rw [← HI.out]; exact HX.out.symm) (by rw [← HI.out]; exact hpg))
            have HST := Lib.hid hst
            have r4 := RowB.at hq.out.1 pn (by rw [rowB_length]; exact hpn)
            have r5 : wr.frozen? ⟨rb, pn, none⟩ = false := Row.free hq.out.1 pn
            obtain ⟨y, hy⟩ : ∃ y, y = (rowB l.length (insP l B k m)).getD pn false := ⟨_, rfl⟩
            rw [← hy] at r4
            have H2 := Lib.hid (show RowB (wr.setCell ⟨rb, pn, none⟩ (.bool true)) rb (rowB l.length (insP l B k (m + 1))) ∧ Below w.heap.size w (wr.setCell ⟨rb, pn, none⟩ (.bool true)) ∧ w.heap.size ≤ rb from ⟨by rw [← HST.out]; exact hq.out.1.set pn true, hq.out.2.1.setCell hq.out.2.2 _, hq.out.2.2⟩)
            clear hcc hP hpg hst hy hq
            go_wp2
            go_roundw
            case rel => exact ⟨m + 1, by go_num, by omega, fun h => (by cases h), H2⟩
            case measure => simp [intOf]; omega
          | false =>
            obtain rfl := hx0 rfl
            have H2 := hq.out
            rw [insP_zero, ← insP_no (by rw [← HI.out]; exact HX.out.symm)] at H2
            have H3 := Lib.hid H2
            clear H2 hq
            go_wp2
            go_roundw
            case rel => exact ⟨k + 1, congrArg (Value.int .i64) (by have := HI.out; omega), by omega, H3⟩
            case measure => simp [intOf]
        · obtain rfl : m = ps.length := by omega
          have H2 := hq.out
          rw [insP_full (by rw [← HI.out, HPE.out]; simp)] at H2
          have H3 := Lib.hid H2
          clear H2 hq
          go_wp2
          go_roundw
          case rel => exact ⟨k + 1, congrArg (Value.int .i64) (by have := HI.out; omega), by omega, H3⟩
          case measure => simp [intOf]
    · obtain rfl : k = l.length := by omega
      have hz : (l.length : Int) - 1 - l.length = -1 := by omega
      rw [hz]
      have HR := Lib.hid hr.out
      have hres : rowB l.length (insB l B l.length) = rowB l.length (resB l B) := List.map_congr_left fun j hj => insB_res HG.out (by simpa using hj)
      rw [hres] at HR
      clear hz hr hres
      go_wp2
      go_ret
      exact ⟨rb, cap, rfl, HR.out⟩
end Go.Proofs.Ytdgmpaijpjkeoaa
