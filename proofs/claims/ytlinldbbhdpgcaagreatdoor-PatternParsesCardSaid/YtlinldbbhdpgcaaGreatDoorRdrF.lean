/-
  THE REFERENCE's PARSER: inner.
-/
import Derived.Test.YtlinldbbhdpgcaaGreatDoorRdrC
import Derived.Test.YtlinldbbhdpgcaaGreatDoorRegQ
import Derived.Deep.CutBlock
import Derived.Deep.DeepCutAuto
import Derived.Deep.DeepMust
namespace Go.Proofs.YtlinldbbhdpgcaaGreatDoor
open Go.RowKit
theorem paren_no1 {f : List ByteArray → Option (ExprD × List ByteArray)} {ws : List ByteArray} (h : ∀ r, ws ≠ txt [40] :: r) : paren f ws = none := by
  rcases hp : paren f ws with _ | ⟨x, r⟩
  · rfl
  · obtain ⟨r1, rfl, -⟩ := paren_some.1 hp
    exact absurd rfl (h r1)
theorem paren_no2 {f : List ByteArray → Option (ExprD × List ByteArray)} {r : List ByteArray} (h : f r = none) : paren f (txt [40] :: r) = none := by
  rcases hp : paren f (txt [40] :: r) with _ | ⟨x, r2⟩
  · rfl
  · obtain ⟨r1, e, h2⟩ := paren_some.1 hp
    cases e
    rw [h] at h2; cases h2
theorem paren_no3 {f : List ByteArray → Option (ExprD × List ByteArray)} {r r1 : List ByteArray} {x : ExprD} (h : f r = some (x, r1)) (h2 : ∀ r2, r1 ≠ txt [41] :: r2) : paren f (txt [40] :: r) = none := by
  rcases hp : paren f (txt [40] :: r) with _ | ⟨y, r2⟩
  · rfl
  · obtain ⟨r3, e, h3⟩ := paren_some.1 hp
    cases e
    rw [h] at h3; cases h3
    exact absurd rfl (h2 r2)
/-- A contract of expression. -/
def ExprC (k B : Nat) (rb : Nat) (wv : Value) (ws : List ByteArray) : Prop := ∀ (w : World) (av : Value) (i : Nat) (N : Nat → Prop) (L : List NodeV), RS B w rb wv ws i false av → NsO B w av N L → L.length ≤ i → (ws.drop i).length < k → ¬ N rb →
  Calls Tryz.prog 49 #[.pointer (some ⟨rb, 0, none⟩)] w (OutEx k B w rb wv av ws i N L)
theorem nsO_own {B : Nat} {w : World} {av : Value} {N : Nat → Prop} {L : List NodeV} (h : NsO B w av N L) : ∃ cs, w.ownsRow B 87 5 av L.length cs := ⟨_, h.own⟩
theorem own_ge {w : World} {B E sz k : Nat} {v : Value} {cs : List Value} (h : w.ownsRow B E sz v k cs) {rb : Nat} (hr : rb < B) : v.ownBlock ≠ some rb := fun e => by have := (World.ownsRow.lt h _ e).1; omega
set_option maxRecDepth 100000 in
set_option maxHeartbeats 4000000 in
theorem inner_any (k B rb : Nat) (wv : Value) (ws : List ByteArray) (IH : ExprC k B rb wv ws) (w : World) (av : Value) (i : Nat) (bad : Bool) (N : Nat → Prop) (L : List NodeV) (nb : Nat) (s : ByteArray) (nv dv pv : Value) (ps : List Int) (dk : Nat)
    (h : RS B w rb wv ws i bad av) (hns : NsO B w av N L) (hLi : L.length ≤ i) (hk : (ws.drop i).length ≤ k) (hNr : ¬ N rb) (hNn : ¬ N nb) (hbx : NBox w nb s nv dv pv dk) (hBn : B ≤ nb) (hpv : OwnI w (nb + 1) pv ps) (hpl : ps.length ≤ 5) (hdk : dk ≤ 13) (han : av.ownBlock ≠ some nb) (hpo : ∀ g, pv.ownBlock = some g → ¬ N g ∧ av.ownBlock ≠ some g) :
    Calls Tryz.prog 77 #[.pointer (some ⟨rb, 0, none⟩), .pointer (some ⟨nb, 0, none⟩)] w (OutIn k B w rb wv av ws i bad N L nb s nv dv pv ps dk) := by
  have hrn : rb ≠ nb := by have := h.lt; omega
  have hrp : ∀ g, pv.ownBlock = some g → rb ≠ g ∧ nb ≠ g := fun g e => by have := (hpv.lt' g e).1; have := h.lt; omega
  obtain ⟨Ap, lp, cp, hpvs⟩ : ∃ A l c, pv = .slice A l c := by obtain ⟨A, c, e, -⟩ := hpv.isL; exact ⟨_, _, _, e⟩
  have HW := Lib.hid (rword_any B w rb wv av ws i bad h (txt [40]))
  have HRS := Lib.hid h
  have H0 := Lib.hid (And.intro hns (And.intro hbx (And.intro hpv (And.intro han hpo))))
  have HIH := Lib.hid IH
  have HN := Lib.hid (And.intro hNr (And.intro hNn (And.intro hrp (And.intro hLi hk))))
  have HPV := Lib.hid hpvs
  clear h hns hbx hpv han hpo IH hNr hNn hrp hLi hk hpvs
  go_enter Tryz.func77, Tryz.ntmps77
  go_wp2_with fail
  refine Calls.mono (show Calls _ _ _ _ _ from HW.out) ?_
  rintro e w1 ⟨rfl, j, b2, h1, h2, h3, h4, h5⟩
  clear HW
  have hns1 := H0.out.1.fr (X := fun b => b = rb) (Fr.of_grown h2 (fun b e _ => by cases e; rfl)) (fun b e => by rw [e]; exact HN.out.1) (fun g e e2 => by subst e2; exact own_ge H0.out.1.own HRS.out.lt.1 e)
  have hbx1 : NBox w1 nb s nv dv pv dk := (h2.block nb H0.out.2.1.lt (fun e => by cases e; exact hrn rfl)).trans H0.out.2.1
  have hpv1 : OwnI w1 (nb + 1) pv ps := OwnI.grown H0.out.2.2.1 h2 (by
    rcases hv : pv.ownBlock with _ | g
    · exact .inl rfl
    · exact .inr (fun e => by cases e; exact (HN.out.2.2.1 _ hv).1 rfl))
  have hf1 : Fr w w1 (fun b => b = rb ∨ av.ownBlock = some b ∨ b = nb ∨ pv.ownBlock = some b) := Fr.of_grown h2 (fun b e _ => by cases e; exact .inl rfl)
  cases b2 with
  | true =>
    have HF := Lib.hid (show OutIn k B w rb wv av ws i bad N L nb s nv dv pv ps dk (.returned (.tuple #[])) w1 from
      ⟨rfl, j, true, av, L.length, pv, dk, h1, nsO_own hns1, by omega, hf1, .inl rfl, .inl rfl, hbx1, ⟨_, _, _, HPV.out⟩, by omega, fun h0 hb => paren_no1 (h5 h0 hb), fun hb => by cases hb⟩)
    obtain ⟨q0, q1, q2, q3, q4⟩ := h1.box.cells
    clear h1 h2 h3 h4 h5 hns1 hbx1 hpv1 hf1
    go_wp2
    go_end0
    exact HF.out
  | false =>
    obtain ⟨rfl, hj, hd⟩ := h4 rfl
    have hk1 : (ws.drop j).length < k := by
      have := HN.out.2.2.2.2
      rw [hd, List.length_cons] at this
      omega
    have hca := HIH.out w1 av j N L h1 hns1 (by have := HN.out.2.2.2.1; omega) hk1 HN.out.1
    obtain ⟨q0, q1, q2, q3, q4⟩ := h1.box.cells
    have J1 := Lib.hid (And.intro h1 (And.intro hns1 (And.intro hbx1 (And.intro hpv1 (And.intro hf1 (And.intro hj hd))))))
    have hsz1 := h2.size
    clear h1 h2 h3 h4 h5 hns1 hbx1 hpv1 hf1 HIH hj hd hk1
    go_wp2_with fail
    refine hca.mono ?_
    rintro e w2 ⟨q, j2, b3, av2, m, rfl, g1, g2, g3, g4, g5, g6, g7⟩
    clear hca q0 q1 q2 q3 q4
    have hfn : ∀ b, (b = nb ∨ pv.ownBlock = some b) → b < w1.heap.size → w2.heap[b]? = w1.heap[b]? := fun b hb hlt => g4.block b hlt (by
      rintro (e | e)
      · rcases hb with hb | hb
        · exact hrn (by rw [← e, hb])
        · exact (HN.out.2.2.1 _ hb).1 e.symm
      · rcases hb with hb | hb
        · exact H0.out.2.2.2.1 (by rw [← hb]; exact e)
        · exact (H0.out.2.2.2.2 _ hb).2 e)
    have hbx2 : NBox w2 nb s nv dv pv dk := (hfn nb (.inl rfl) J1.out.2.2.1.lt).trans J1.out.2.2.1
    have hpv2 : OwnI w2 (nb + 1) pv ps := own_by J1.out.2.2.2.1 (fun g e => hfn g (.inr e) (J1.out.2.2.2.1.lt' g e).2)
    have hav2 : ∀ b, b < w1.heap.size → av.ownBlock ≠ some b → av2.ownBlock ≠ some b := fun b hb hne e => by
      rcases g5 with g5 | ⟨g, g5, hg⟩
      · exact hne (by rw [← g5]; exact e)
      · rw [g5] at e; cases e; omega
    have hrb2 : av2.ownBlock ≠ some rb := by obtain ⟨cs, hcs⟩ := g2; exact own_ge hcs HRS.out.lt.1
    have hf2 : Fr w w2 (fun b => b = rb ∨ av.ownBlock = some b ∨ b = nb ∨ pv.ownBlock = some b) := J1.out.2.2.2.2.1.trans g4 (fun b _ e => e.elim .inl (fun e => .inr (.inl e)))
    have HW3 := Lib.hid (rword_any B w2 rb wv av2 ws j2 b3 g1 (txt [41]))
    have J2 := Lib.hid (And.intro g1 (And.intro g2 (And.intro g3 (And.intro g5 (And.intro g6 (And.intro g7 (And.intro hbx2 (And.intro hpv2 (And.intro hav2 (And.intro hrb2 (And.intro hf2 g4.size)))))))))))
    clear g1 g2 g3 g4 g5 g6 g7 hfn hbx2 hpv2 hav2 hrb2 hf2
    go_wp2_with fail
    refine Calls.mono (show Calls _ _ _ _ _ from HW3.out) ?_
    rintro e w3 ⟨rfl, j3, b4, h1, h2, h3, h4, h5⟩
    clear HW3
    have hbx3 : NBox w3 nb s nv dv pv dk := (h2.block nb J2.out.2.2.2.2.2.2.1.lt (fun e => by cases e; exact hrn rfl)).trans J2.out.2.2.2.2.2.2.1
    have hpv3 : OwnI w3 (nb + 1) pv ps := OwnI.grown J2.out.2.2.2.2.2.2.2.1 h2 (by
      rcases hv : pv.ownBlock with _ | g
      · exact .inl rfl
      · exact .inr (fun e => by cases e; exact (HN.out.2.2.1 _ hv).1 rfl))
    have hf3 : Fr w w3 (fun b => b = rb ∨ av.ownBlock = some b ∨ b = nb ∨ pv.ownBlock = some b) := J2.out.2.2.2.2.2.2.2.2.2.2.1.trans (Y := fun b => b = rb) (Fr.of_grown h2 (fun b e _ => by cases e; rfl)) (fun b _ e => .inl e)
    have hav3 : av2.ownBlock = av.ownBlock ∨ ∃ g, av2.ownBlock = some g ∧ w.heap.size ≤ g := by
      rcases J2.out.2.2.2.1 with g5 | ⟨g, g5, hg⟩
      · exact .inl g5
      · exact .inr ⟨g, g5, by omega⟩
    have hown3 : ∃ cs, w3.ownsRow B 87 5 av2 m cs := by
      obtain ⟨cs, hcs⟩ := J2.out.2.1
      exact ⟨cs, own_by hcs (fun g e => h2.block g (World.ownsRow.lt hcs g e).2 (fun e2 => by cases e2; exact J2.out.2.2.2.2.2.2.2.2.2.1 e))⟩
    have hcnt : i + m ≤ j3 + L.length := by have := J2.out.2.2.1; have := J1.out.2.2.2.2.2.1; omega
    cases b4 with
    | true =>
      have HF := Lib.hid (show OutIn k B w rb wv av ws i false N L nb s nv dv pv ps dk (.returned (.tuple #[])) w3 from
        ⟨rfl, j3, true, av2, m, pv, dk, h1, hown3, hcnt, hf3, hav3, .inl rfl, hbx3, ⟨_, _, _, HPV.out⟩, by omega, fun _ _ => by
          rw [J1.out.2.2.2.2.2.2]
          cases b3 with
          | true => exact paren_no2 (J2.out.2.2.2.2.1 rfl)
          | false =>
            obtain ⟨x, L1, y1, -⟩ := J2.out.2.2.2.2.2.1 rfl
            exact paren_no3 y1 (h5 rfl rfl), fun hb => by cases hb⟩)
      obtain ⟨q0, q1, q2, q3, q4⟩ := h1.box.cells
      clear h1 h2 h3 h4 h5 hbx3 hpv3 hf3 hav3 hown3 hcnt
      go_wp2
      go_end0
      exact HF.out
    | false =>
      obtain ⟨rfl, hj3, hd3⟩ := h4 rfl
      obtain ⟨x, L1, y1, y2, y3, y4, y5⟩ := J2.out.2.2.2.2.2.1 rfl
      have hlen1 : L1.length = sizeE x := by
        have := congrArg List.length y2
        rw [List.length_map, flatN_len] at this
        exact this
      have hsp := sizeE_pos x
      obtain ⟨t, ht⟩ : ∃ t, t = L.length + sizeE x - 1 := ⟨_, rfl⟩
      rw [← ht] at y4
      subst y4
      have htl : t < (L ++ L1).length := by rw [List.length_append]; omega
      have hns3 : NsO B w3 av2 (fun b => N b ∨ w1.heap.size ≤ b) (L ++ L1) := y3.fr (X := fun b => b = rb) (Fr.of_grown h2 (fun b e _ => by cases e; rfl)) (fun b e => by
        rw [e]
        rintro (e2 | e2)
        · exact HN.out.1 e2
        · have := J1.out.1.lt; omega) (fun g e e2 => by subst e2; exact J2.out.2.2.2.2.2.2.2.2.2.1 e)
      have hdep : (L ++ L1)[t].1.k = depthE x := by
        obtain ⟨nd, z1, z2⟩ := flatN_last x L.length
        have z3 : (L ++ L1)[t]'htl = L1[sizeE x - 1]'(by omega) := by
          rw [List.getElem_append_right (by omega)]
          congr 1
          omega
        rw [z3]
        have z4 : (L1.map Prod.fst)[sizeE x - 1]? = some nd := by rw [y2]; exact z1
        rw [List.getElem?_map, List.getElem?_eq_getElem (by omega)] at z4
        simp only [Option.map_some, Option.some.injEq] at z4
        rw [← z2, ← z4]
      have hOwnLt : ∀ g, pv.ownBlock = some g → nb + 1 ≤ g ∧ g < w3.heap.size := fun g e => hpv3.lt' g e
      have hpn : ∀ b, b < w3.heap.size → ¬ (N b ∨ w1.heap.size ≤ b) → av2.ownBlock ≠ some b → True := fun _ _ _ _ => trivial
      clear hpn
      obtain ⟨q0, q1, q2, q3, q4⟩ := h1.box.cells
      obtain ⟨c0, c1, c2, c3, c4, c5⟩ := hbx3.cells
      have hs23 := h2.size
      have J3 := Lib.hid (And.intro h1 (And.intro hbx3 (And.intro hpv3 (And.intro hf3 (And.intro hav3 (And.intro hns3 (And.intro hdep (And.intro y1 (And.intro y2 (And.intro y5 (And.intro hd3 (And.intro hcnt hown3))))))))))))
      have HX := Lib.hid (And.intro ht (And.intro hlen1 hj3))
      have HPL := Lib.hid hpl
      have hB3 : nb + 1 ≤ w3.heap.size := by omega
      clear h1 h2 h3 h4 h5 hbx3 hpv3 hf3 hav3 hown3 hcnt hns3 hdep y1 y2 y3 y5 hd3 ht hlen1 hj3 hpl hOwnLt
      go_wp2_with (at_builtin; refine append_i64 (.tmp 23) (.tmp 25) rfl rfl (nb + 1) pv ps (t : Int) w3 rfl rfl J3.out.2.2.1 rfl (by have := HPL.out; omega) hB3 ?_)
      intro v' w6 ho6 hg6 hd6
      obtain ⟨A8, c8, hv8, -⟩ := ho6.isL
      obtain ⟨l8, hl8⟩ : ∃ l8, l8 = (ps ++ [(t : Int)]).length := ⟨_, rfl⟩
      rw [← hl8] at hv8
      clear hl8
      have hb6 : ∀ b, pv.ownBlock ≠ some b → b < w3.heap.size → w6.heap[b]? = w3.heap[b]? := fun b hb hlt => hg6.block b hlt (fun e => hb e.symm)
      have hpnb : pv.ownBlock ≠ some nb := fun e => (HN.out.2.2.1 _ e).2 rfl
      have hprb : pv.ownBlock ≠ some rb := fun e => (HN.out.2.2.1 _ e).1 rfl
      have hbx6 : NBox w6 nb s nv dv pv dk := (hb6 nb hpnb c5).trans J3.out.2.1
      obtain ⟨d0, d1, d2, d3, d4, d5⟩ := hbx6.cells
      have f3 := hbx6.frozen 3
      obtain ⟨w7, hw7⟩ : ∃ w7, w7 = w6.setCell ⟨nb, 3, none⟩ v' := ⟨_, rfl⟩
      have hbx7 : NBox w7 nb s nv dv v' dk := by rw [hw7]; exact hbx6.set3 v'
      have hf67 : Fr w6 w7 (fun b => b = nb) := by rw [hw7]; exact set_grown w6 nb 3 v' (fun hg => Fr.of_grown hg (fun b e _ => by cases e; rfl))
      have hf37 : Fr w3 w7 (fun b => b = nb ∨ pv.ownBlock = some b) := (Fr.of_grown hg6 (fun b e _ => .inr e)).trans hf67 (fun b _ e => .inl e)
      have hav : ∀ g, pv.ownBlock = some g → ¬ N g ∧ g < w1.heap.size ∧ av2.ownBlock ≠ some g := fun g e => ⟨(H0.out.2.2.2.2 g e).1, (J1.out.2.2.2.1.lt' g e).2, J2.out.2.2.2.2.2.2.2.2.1 g (J1.out.2.2.2.1.lt' g e).2 (H0.out.2.2.2.2 g e).2⟩
      have hanb : av2.ownBlock ≠ some nb := J2.out.2.2.2.2.2.2.2.2.1 nb J1.out.2.2.1.lt H0.out.2.2.2.1
      have hnb1 : nb < w1.heap.size := J1.out.2.2.1.lt
      have hns7 : NsO B w7 av2 (fun b => (N b ∨ w1.heap.size ≤ b) ∧ b < w3.heap.size ∧ b ≠ nb ∧ pv.ownBlock ≠ some b) (L ++ L1) :=
        (J3.out.2.2.2.2.2.1.to (fun b hb hn => ⟨hn, hb, fun e => by
          subst e
          rcases hn with hn | hn
          · exact HN.out.2.1 hn
          · omega, fun e => by
          rcases hn with hn | hn
          · exact (hav b e).1 hn
          · have := (hav b e).2.1; omega⟩)).fr hf37 (fun b hx hn => by
            rcases hx with hx | hx
            · exact hn.2.2.1 hx
            · exact hn.2.2.2 hx) (fun g e hx => by
            rcases hx with hx | hx
            · subst hx; exact hanb e
            · exact (hav g hx).2.2 e)
      have ho7 : OwnI w7 (nb + 1) v' (ps ++ [(t : Int)]) := own_by ho6 (fun g e => hf67.block g (ho6.lt' g e).2 (fun e2 => by have := (ho6.lt' g e).1; omega))
      have hrs7 : RS B w7 rb wv ws j3 false av2 := J3.out.1.fr hf37 (fun b hb hne hx => by
        rcases hx with hx | hx
        · omega
        · have := (J3.out.2.2.1.lt' b hx).1; omega) ((hf37.block rb q4 (fun hx => by
          rcases hx with hx | hx
          · exact hrn hx
          · exact hprb hx)).trans J3.out.1.box) J3.out.1.le
      have hfin : ∀ wz dk', Fr w7 wz (fun b => b = nb) → NBox wz nb s nv dv v' dk' → dk' = max dk (depthE x + 1) → OutIn k B w rb wv av ws i false N L nb s nv dv pv ps dk (.returned (.tuple #[])) wz := by
        intro wz dk' hz hbz hdk'
        have hnz : NsO B wz av2 (fun b => (N b ∨ w1.heap.size ≤ b) ∧ b < w3.heap.size ∧ b ≠ nb ∧ pv.ownBlock ≠ some b) (L ++ L1) := hns7.fr hz (fun b hx hn => hn.2.2.1 hx) (fun g e hx => by subst hx; exact hanb e)
        have hoz : OwnI wz (nb + 1) v' (ps ++ [(t : Int)]) := own_by ho7 (fun g e => hz.block g (ho7.lt' g e).2 (fun e2 => by have := (ho7.lt' g e).1; omega))
        have hrz : RS B wz rb wv ws j3 false av2 := hrs7.fr hz (fun b hb _ hx => by omega) ((hz.block rb hrs7.box.cells.2.2.2.2 (fun hx => hrn hx)).trans hrs7.box) hrs7.le
        obtain ⟨cs, hcs⟩ := J3.out.2.2.2.2.2.2.2.2.2.2.2.2
        have hx5 := J3.out.2.2.2.2.2.2.2.2.2.1
        refine ⟨rfl, j3, false, av2, m, v', dk', hrz, ⟨cs, own_by hcs (fun g e => ?_)⟩, J3.out.2.2.2.2.2.2.2.2.2.2.2.1, J3.out.2.2.2.1.trans (hf37.trans hz (fun b _ e => .inl e)) (fun b _ e => ?_), J3.out.2.2.2.2.1, ?_, hbz, ?_, by omega, fun _ hb => (by cases hb), fun _ => ⟨rfl, x, L1, _, ?_, J3.out.2.2.2.2.2.2.2.2.1, hnz, ?_, fun hn => hn.2.2.1 rfl, fun g e => ?_, ?_, hdk'⟩⟩
        · exact (hz.block g (by have := (World.ownsRow.lt hcs g e).2; have := hf37.size; omega) (fun e2 => hanb (by rw [← e2]; exact e))).trans (hf37.block g (World.ownsRow.lt hcs g e).2 (fun hx => by
            rcases hx with hx | hx
            · subst hx; exact hanb e
            · exact (hav g hx).2.2 e))
        · rcases e with e | e
          · exact .inr (.inr (.inl e))
          · exact .inr (.inr (.inr e))
        · rcases hd6 with e | e
          · exact .inl e
          · exact .inr ⟨_, e, by have := J2.out.2.2.2.2.2.2.2.2.2.2.2; omega⟩
        · obtain ⟨A, c, e, -⟩ := hoz.isL
          exact ⟨_, _, _, e⟩
        · rw [J1.out.2.2.2.2.2.2, paren_some]
          exact ⟨_, rfl, by rw [J3.out.2.2.2.2.2.2.2.1, J3.out.2.2.2.2.2.2.2.2.2.2.1]⟩
        · intro b hn
          rcases hn.1 with h | h
          · exact .inl h
          · exact .inr (by omega)
        · rcases hd6 with e2 | e2
          · rw [e2] at e
            exact ⟨fun hn => hn.2.2.2 e, (hav g e).2.2⟩
          · rw [e2] at e
            cases e
            refine ⟨fun hn => by have := hn.2.1; omega, fun e3 => ?_⟩
            have := (World.ownsRow.lt hcs _ e3).2
            omega
        · rw [← HX.out.1]; exact hoz
      obtain ⟨gv, cv, hav2e, hgv, -, n0, n1, n2, n3, n4⟩ := hns7.get t htl
      rw [J3.out.2.2.2.2.2.2.1] at n4
      obtain ⟨ll, hll⟩ : ∃ ll, ll = (L ++ L1).length := ⟨_, rfl⟩
      rw [← hll] at hav2e htl
      have HFIN := Lib.hid hfin
      have hdx : depthE x ≤ 12 := J3.out.2.2.2.2.2.2.2.2.2.1
      obtain ⟨dx, hdx2⟩ : ∃ dx, dx = depthE x := ⟨_, rfl⟩
      rw [← hdx2] at hfin n4 hdx
      have HDX := Lib.hid hdx2
      have H7 := Lib.hid (And.intro hbx7 hrs7)
      clear hns7 ho7 hfin hbx7 hb6 hpnb hprb hbx6 ho6 hg6 hd6 hf67 hf37 hav hanb hnb1 J3 J2 J1 H0 HX HPL hll hdx2 q0 q1 q2 q3 q4 c0 c1 c2 c3 c4 c5 n0 n1 n2 n3 hrs7
      obtain ⟨z0, z1, z2, z3, z4⟩ := H7.out.2.box.cells
      obtain ⟨y0, y1, y2, y3, y4, y5⟩ := H7.out.1.cells
      have fy4 := H7.out.1.frozen 4
      subst hav2e
      subst hv8
      go_upto_region 6 with fail
      rw [← hw7]
      clear hw7 d0 d1 d2 d3 d4 d5 f3 z0 z1 z2 y0 y1 y2 y3
      by_cases hge : dk ≤ dx
      · have HF := Lib.hid (fun p : Nat => set_grown (w7.drewN p) nb 4 (.int .i64 ((dx : Int) + 1)) (fun hg => HFIN.out ((w7.drewN p).setCell ⟨nb, 4, none⟩ (.int .i64 ((dx : Int) + 1))) (dx + 1) (Fr.of_grown (grown_then (grown_dr w7 p _) hg) (fun b e _ => by cases e; rfl)) (NBox.set4 (w := w7.drewN p) H7.out.1 (dx + 1)) (by have := HDX.out; omega)))
        clear HFIN H7 HDX
        go_quiet (fail)
        go_wp2
        go_end0
        exact HF.out _
      · have HF := Lib.hid (fun p : Nat => HFIN.out (w7.drewN p) dk (Fr.of_grown (grown_dr w7 p none) (fun b e _ => by cases e)) H7.out.1 (by have := HDX.out; omega))
        clear HFIN H7 HDX
        go_quiet (fail)
        go_wp2
        go_end0
        exact HF.out _
end Go.Proofs.YtlinldbbhdpgcaaGreatDoor
/-
  THE REFERENCE's PARSER: expression: the states of its node.
-/
namespace Go.Proofs.YtlinldbbhdpgcaaGreatDoor
open Go.RowKit
section
variable {k : Nat} {s : ByteArray} {r r1 r2 : List ByteArray} {n d : List Int} {c : Nat} {l : List ExprD}
theorem refE_head_no (h : headO s r = none) : refE (k + 1) (s :: r) = none := by simp [refE, h]
theorem refE_parts_no (h : headO s r = some ((n, d, c), r1)) (h2 : partsO (refE k) c r1 = none) : refE (k + 1) (s :: r) = none := by simp [refE, h, h2]
theorem refE_yes (h : headO s r = some ((n, d, c), r1)) (h2 : partsO (refE k) c r1 = some (l, r2)) : refE (k + 1) (s :: r) = if depthE (mkE s n d l) ≤ 12 then some (mkE s n d l, r2) else none := by simp [refE, h, h2]
end
theorem parts1_no {f : List ByteArray → Option (ExprD × List ByteArray)} {r : List ByteArray} (h : paren f r = none) : partsO f 1 r = none := by simp [partsO, h]
theorem parts1_yes {f : List ByteArray → Option (ExprD × List ByteArray)} {r r1 : List ByteArray} {x : ExprD} (h : paren f r = some (x, r1)) : partsO f 1 r = some ([x], r1) := by simp [partsO, h]
theorem parts2_no1 {f : List ByteArray → Option (ExprD × List ByteArray)} {r : List ByteArray} (h : paren f r = none) : partsO f 2 r = none := by simp [partsO, h]
theorem parts2_no2 {f : List ByteArray → Option (ExprD × List ByteArray)} {r r1 : List ByteArray} {x : ExprD} (h : paren f r = some (x, r1)) (h2 : paren f r1 = none) : partsO f 2 r = none := by simp [partsO, h, h2]
theorem parts2_yes {f : List ByteArray → Option (ExprD × List ByteArray)} {r r1 r2 : List ByteArray} {x y : ExprD} (h : paren f r = some (x, r1)) (h2 : paren f r1 = some (y, r2)) : partsO f 2 r = some ([x, y], r2) := by simp [partsO, h, h2]
theorem OwnI.rd2 {w : World} {B : Nat} {v : Value} {n : List Int} (h : OwnI w B v n) : RdL w (fun b => B ≤ b ∧ v.ownBlock = some b) v n := by
  obtain ⟨A, c, rfl, h1, h2⟩ := h.isL
  refine ⟨A, c, rfl, fun hp => ?_⟩
  obtain ⟨b, o, rfl, hb, hc⟩ := h2 hp
  exact ⟨b, o, rfl, hb, ⟨(Row.of_own h).2.2, rfl⟩, fun i hi => hc i hi⟩
theorem RdL.nil (w : World) (N : Nat → Prop) : RdL w N (.slice none 0 0) [] := ⟨none, 0, rfl, fun h => by simp at h⟩
theorem own_cnt {w : World} {B B' E E' sz sz' k k' : Nat} {v : Value} {cs cs' : List Value} (h : w.ownsRow B E sz v k cs) (h' : w.ownsRow B' E' sz' v k' cs') : k = k' := by
  rcases h.2 with ⟨e, h0⟩ | ⟨g, c, -, e, -⟩ <;> rcases h'.2 with ⟨e', h0'⟩ | ⟨g', c', -, e', -⟩ <;> rw [e] at e' <;> cases e' <;> omega
/-- The node while no part of it is read. -/
structure NW (B : Nat) (w wr : World) (rb : Nat) (wv av : Value) (ws : List ByteArray) (i : Nat) (N : Nat → Prop) (L : List NodeV) (nb : Nat) (s : ByteArray) (nv dv : Value) (j : Nat) (bad : Bool) : Prop where
  rs : RS B wr rb wv ws j bad av
  ns : NsO B wr av (fun b => N b ∧ b < w.heap.size) L
  bx : NBox wr nb s nv dv nilS 1
  g : w.grownBy wr (some rb)
  hn : w.heap.size ≤ nb
  hj : i + 1 ≤ j
  hB : B ≤ w.heap.size
  nr : ¬ N rb
  ao : ∀ g, av.ownBlock = some g → g < w.heap.size
  sl : (∃ A l c, nv = .slice A l c) ∧ ∃ A l c, dv = .slice A l c
section
variable {k B : Nat} {w wr w1 : World} {rb : Nat} {wv av : Value} {ws : List ByteArray} {i : Nat} {N : Nat → Prop} {L : List NodeV} {nb : Nat} {s : ByteArray} {nv dv : Value} {j : Nat} {bad : Bool}
theorem NW.rn (h : NW B w wr rb wv av ws i N L nb s nv dv j bad) : rb ≠ nb := by have := h.rs.lt; have := h.hB; have := h.hn; omega
theorem NW.an (h : NW B w wr rb wv av ws i N L nb s nv dv j bad) : av.ownBlock ≠ some nb := fun e => by have := h.ao _ e; have := h.hn; omega
theorem NW.step (h : NW B w wr rb wv av ws i N L nb s nv dv j bad) {j2 : Nat} {b2 : Bool} (hg : wr.grownBy w1 (some rb)) (hr : RS B w1 rb wv ws j2 b2 av) (hj : j ≤ j2) : NW B w w1 rb wv av ws i N L nb s nv dv j2 b2 :=
  ⟨hr, h.ns.fr (X := fun b => b = rb) (Fr.of_grown hg (fun b e _ => by cases e; rfl)) (fun b e hn => h.nr (by rw [← e]; exact hn.1)) (fun g e e2 => by subst e2; exact own_ge h.ns.own h.rs.lt.1 e), (hg.block nb h.bx.lt (fun e => by cases e; exact h.rn rfl)).trans h.bx, grown_then h.g hg, h.hn, by have := h.hj; omega, h.hB, h.nr, h.ao, h.sl⟩
theorem NW.keep (h : NW B w wr rb wv av ws i N L nb s nv dv j bad) (hb : Below wr.heap.size wr w1) : NW B w w1 rb wv av ws i N L nb s nv dv j bad := h.step (grown_of hb _) (h.rs.keep hb) (Nat.le_refl _)
theorem NW.put (h : NW B w wr rb wv av ws i N L nb s nv dv j bad) (q : Nat) (u : Value) {nv' dv' : Value} (hb : NBox (wr.setCell ⟨nb, q, none⟩ u) nb s nv' dv' nilS 1) (hs : (∃ A l c, nv' = .slice A l c) ∧ ∃ A l c, dv' = .slice A l c) : NW B w (wr.setCell ⟨nb, q, none⟩ u) rb wv av ws i N L nb s nv' dv' j bad := by
  refine set_grown wr nb q u (fun hg => ?_)
  have hf : Fr wr (wr.setCell ⟨nb, q, none⟩ u) (fun b => b = nb) := Fr.of_grown hg (fun b e _ => by cases e; rfl)
  have hB := h.hB
  have hn := h.hn
  refine ⟨h.rs.fr hf (fun b hb _ e => by omega) ((hf.block rb h.rs.box.cells.2.2.2.2 (fun e => h.rn e)).trans h.rs.box) h.rs.le, h.ns.fr hf (fun b e hn2 => by have := hn2.2; omega) (fun g e e2 => by subst e2; exact h.an e), hb, ?_, h.hn, h.hj, h.hB, h.nr, h.ao, hs⟩
  exact grown_low h.g (((Below.refl _ _).setCell (Nat.le_refl nb) u).mono hn)
end
/-- What reading the word, the numbers, the digits and the parts of an expression leaves. -/
def XSt (k B : Nat) (w : World) (rb : Nat) (wv av : Value) (ws : List ByteArray) (i : Nat) (N : Nat → Prop) (L : List NodeV) (nb : Nat) (s : ByteArray) (wr : World) : Prop :=
  ∃ (j : Nat) (b2 : Bool) (av' : Value) (m : Nat) (nv dv pv : Value) (dk : Nat), RS B wr rb wv ws j b2 av' ∧ (∃ cs, wr.ownsRow B 87 5 av' m cs) ∧ i + 1 + m ≤ j + L.length ∧ Fr w wr (fun b => b = rb ∨ av.ownBlock = some b) ∧ (av'.ownBlock = av.ownBlock ∨ ∃ g, av'.ownBlock = some g ∧ w.heap.size ≤ g) ∧ av'.ownBlock ≠ some nb ∧ NBox wr nb s nv dv pv dk ∧ ((∃ A l c, nv = .slice A l c) ∧ (∃ A l c, dv = .slice A l c) ∧ ∃ A l c, pv = .slice A l c) ∧ dk ≤ 13 ∧
  (b2 = true → refE (k + 1) (ws.drop i) = none) ∧
  (b2 = false → ∃ x L1 nd N', refE (k + 1) (ws.drop i) = (if depthE x ≤ 12 then some (x, ws.drop j) else none) ∧ L1.map Prod.fst ++ [nd] = flatN L.length x ∧ NsO B wr av' N' (L ++ L1) ∧ (∀ b, N' b → N b ∨ w.heap.size ≤ b) ∧ (nd.s = s ∧ nd.k = dk ∧ dk = depthE x) ∧ RdL wr (fun b => w.heap.size ≤ b ∧ av'.ownBlock ≠ some b) nv nd.n ∧ RdL wr (fun b => w.heap.size ≤ b ∧ av'.ownBlock ≠ some b) dv nd.d ∧ RdL wr (fun b => w.heap.size ≤ b ∧ av'.ownBlock ≠ some b) pv nd.p)
section
variable {k B : Nat} {w wr w1 : World} {rb : Nat} {wv av : Value} {ws : List ByteArray} {i : Nat} {N : Nat → Prop} {L : List NodeV} {nb : Nat} {s : ByteArray} {nv dv : Value} {j : Nat} {bad : Bool}
theorem NW.fail (h : NW B w wr rb wv av ws i N L nb s nv dv j true) (hno : refE (k + 1) (ws.drop i) = none) : XSt k B w rb wv av ws i N L nb s wr :=
  ⟨j, true, av, L.length, nv, dv, nilS, 1, h.rs, nsO_own h.ns, by have := h.hj; omega, Fr.of_grown h.g (fun b e _ => by cases e; exact .inl rfl), .inl rfl, h.an, h.bx, ⟨h.sl.1, h.sl.2, ⟨none, 0, 0, rfl⟩⟩, by omega, fun _ => hno, fun hb => by cases hb⟩
theorem NW.leaf (h : NW B w wr rb wv av ws i N L nb s nv dv j false) {n d : List Int} (hd : ws.drop i = s :: ws.drop (i + 1)) (hh : headO s (ws.drop (i + 1)) = some ((n, d, 0), ws.drop j)) (h1 : RdL wr (fun b => nb < b) nv (leafN s n)) (h2 : RdL wr (fun b => nb < b) dv d) : XSt k B w rb wv av ws i N L nb s wr := by
  have hao := h.ao
  have hn := h.hn
  refine ⟨j, false, av, L.length, nv, dv, nilS, 1, h.rs, nsO_own h.ns, by have := h.hj; omega, Fr.of_grown h.g (fun b e _ => by cases e; exact .inl rfl), .inl rfl, h.an, h.bx, ⟨h.sl.1, h.sl.2, ⟨none, 0, 0, rfl⟩⟩, by omega, fun hb => (by cases hb), fun _ => ⟨.leaf s n d, [], ⟨s, leafN s n, d, [], 1⟩, _, ?_, rfl, by rw [List.append_nil]; exact h.ns, fun b (hb : N b ∧ b < w.heap.size) => .inl hb.1, ⟨rfl, rfl, rfl⟩, h1.to (fun b hb hlt => ⟨by omega, fun e => by have := hao _ e; omega⟩), h2.to (fun b hb hlt => ⟨by omega, fun e => by have := hao _ e; omega⟩), RdL.nil _ _⟩⟩
  rw [hd]
  exact refE_yes hh (show partsO (refE k) 0 _ = some ([], _) from rfl)
/-- What inner asks, from the state of the node. -/
theorem NW.inner (h : NW B w wr rb wv av ws i N L nb s nv dv j bad) (IH : ExprC k B rb wv ws) (hL : L.length ≤ i) (hk : (ws.drop i).length ≤ k + 1) : Calls Tryz.prog 77 #[.pointer (some ⟨rb, 0, none⟩), .pointer (some ⟨nb, 0, none⟩)] wr (OutIn k B wr rb wv av ws j bad (fun b => N b ∧ b < w.heap.size) L nb s nv dv nilS [] 1) := by
  have hj := h.hj
  have hB := h.hB
  have hn := h.hn
  refine inner_any k B rb wv ws IH wr av j bad _ L nb s nv dv nilS [] 1 h.rs h.ns (by omega) ?_ (fun e => h.nr e.1) (fun e => by have := e.2; omega) h.bx (by omega) (OwnI.nil _ _) (by simp) (by omega) h.an (fun g e => by cases e)
  rw [List.length_drop] at hk ⊢
  omega
theorem in_one (h : NW B w wr rb wv av ws i N L nb s nv dv j bad) (hd : ws.drop i = s :: ws.drop (i + 1)) {n d : List Int}
    (hh : bad = false → headO s (ws.drop (i + 1)) = some ((n, d, 1), ws.drop j)) (hno : bad = true → refE (k + 1) (ws.drop i) = none) (h1 : bad = false → RdL wr (fun b => nb < b) nv n) (h2 : bad = false → RdL wr (fun b => nb < b) dv d) {e : Ending} (ho : OutIn k B wr rb wv av ws j bad (fun b => N b ∧ b < w.heap.size) L nb s nv dv nilS [] 1 e w1) : XSt k B w rb wv av ws i N L nb s w1 := by
  obtain ⟨-, j2, b2, av2, m, pv2, dk2, g1, g2, g3, g4, g5, g6, g7, g8, g9, g10, g11⟩ := ho
  have hao := h.ao
  have hn := h.hn
  have hj := h.hj
  have hgs := h.g.size
  have hlt := h.bx.lt
  have hf : Fr w w1 (fun b => b = rb ∨ av.ownBlock = some b) := (Fr.of_grown (X := fun b => b = rb ∨ av.ownBlock = some b) h.g (fun b e _ => by cases e; exact .inl rfl)).trans g4 (fun b hb e => by
    rcases e with e | e | e | e
    · exact .inl e
    · exact .inr e
    · omega
    · cases e)
  have ha : av2.ownBlock = av.ownBlock ∨ ∃ g, av2.ownBlock = some g ∧ w.heap.size ≤ g := by
    rcases g5 with g5 | ⟨g, g5, hg⟩
    · exact .inl g5
    · exact .inr ⟨g, g5, by omega⟩
  have han : ∀ b, b < wr.heap.size → w.heap.size ≤ b → av2.ownBlock ≠ some b := fun b hb hb2 e => by
    rcases g5 with g5 | ⟨g, g5, hg⟩
    · rw [g5] at e; have := hao _ e; omega
    · rw [g5] at e; cases e; omega
  refine ⟨j2, b2, av2, m, nv, dv, pv2, dk2, g1, g2, by omega, hf, ha, han nb hlt hn, g7, ⟨h.sl.1, h.sl.2, g8⟩, by omega, fun hb => ?_, fun hb => ?_⟩
  · cases bad with
    | true => exact hno rfl
    | false =>
      rw [hd]
      exact refE_parts_no (hh rfl) (parts1_no (g10 rfl hb))
  · obtain ⟨rfl, x, L1, N', y1, y2, y3, y4, y5, y6, y7, y8⟩ := g11 hb
    have hk : ∀ b, nb < b → b < wr.heap.size → w1.heap[b]? = wr.heap[b]? := fun b hb hlt => g4.block b hlt (fun e => by
      rcases e with e | e | e | e
      · have := h.rs.lt; have := h.hB; omega
      · have := hao _ e; omega
      · omega
      · cases e)
    refine ⟨.one s n d x, L1, ⟨s, n, d, [((L.length + sizeE x - 1 : Nat) : Int)], depthE (.one s n d x)⟩, N', ?_, by rw [y2]; rfl, y3, fun b hb => ?_, ⟨rfl, ?_, ?_⟩, (h1 rfl).bd.kept g4.size (fun b hb hlt => hk b hb.1 hlt) (fun b hb hlt => ⟨by have := hb.1; omega, han b hlt (by have := hb.1; omega)⟩), (h2 rfl).bd.kept g4.size (fun b hb hlt => hk b hb.1 hlt) (fun b hb hlt => ⟨by have := hb.1; omega, han b hlt (by have := hb.1; omega)⟩), ?_⟩
    · rw [hd]
      exact refE_yes (hh rfl) (parts1_yes y1)
    · rcases y4 b hb with h | h
      · exact .inl h.1
      · exact .inr (by omega)
    · simp only [depthE]; omega
    · simp only [depthE]; omega
    · exact y7.rd2.to (fun b hb hlt => ⟨by have := hlt.1; omega, (y6 b hlt.2).2⟩)
/-- What the second inner asks, behind the first. -/
theorem in_next (h : NW B w wr rb wv av ws i N L nb s nv dv j false) (IH : ExprC k B rb wv ws) (hL : L.length ≤ i) (hk : (ws.drop i).length ≤ k + 1) {j2 : Nat} {av2 pv2 : Value} {m dk2 : Nat} {N' : Nat → Prop} {L1 : List NodeV} {ps : List Int}
    (g1 : RS B w1 rb wv ws j2 false av2) (g2 : ∃ cs, w1.ownsRow B 87 5 av2 m cs) (g3 : j + m ≤ j2 + L.length) (g5 : av2.ownBlock = av.ownBlock ∨ ∃ g, av2.ownBlock = some g ∧ wr.heap.size ≤ g) (g7 : NBox w1 nb s nv dv pv2 dk2) (g9 : dk2 ≤ 13)
    (y3 : NsO B w1 av2 N' (L ++ L1)) (y4 : ∀ b, N' b → (N b ∧ b < w.heap.size) ∨ wr.heap.size ≤ b) (y5 : ¬ N' nb) (y6 : ∀ g, pv2.ownBlock = some g → ¬ N' g ∧ av2.ownBlock ≠ some g) (y7 : OwnI w1 (nb + 1) pv2 ps) (hp : ps.length ≤ 5) :
    Calls Tryz.prog 77 #[.pointer (some ⟨rb, 0, none⟩), .pointer (some ⟨nb, 0, none⟩)] w1 (OutIn k B w1 rb wv av2 ws j2 false N' (L ++ L1) nb s nv dv pv2 ps dk2) := by
  have hao := h.ao
  have hn := h.hn
  have hj := h.hj
  have hB := h.hB
  have hgs := h.g.size
  have hlt := h.bx.lt
  obtain ⟨cs, hcs⟩ := g2
  have hm := own_cnt hcs y3.own
  refine inner_any k B rb wv ws IH w1 av2 j2 false N' (L ++ L1) nb s nv dv pv2 ps dk2 g1 y3 (by omega) ?_ (fun e => ?_) y5 g7 (by omega) y7 hp g9 (fun e => ?_) y6
  · rw [List.length_drop] at hk ⊢
    rw [List.length_append] at hm
    omega
  · rcases y4 _ e with e | e
    · exact h.nr e.1
    · have := h.rs.lt; omega
  · rcases g5 with g5 | ⟨g, g5, hg⟩
    · rw [g5] at e; exact h.an e
    · rw [g5] at e; cases e; omega
theorem in_two (h : NW B w wr rb wv av ws i N L nb s nv dv j false) (hd : ws.drop i = s :: ws.drop (i + 1)) {n d : List Int}
    (hh : headO s (ws.drop (i + 1)) = some ((n, d, 2), ws.drop j)) (h1 : RdL wr (fun b => nb < b) nv n) (h2 : RdL wr (fun b => nb < b) dv d) {w2 : World} {j1 : Nat} {av1 pv1 : Value} {m1 dk1 : Nat} {N' : Nat → Prop} {L1 : List NodeV} {x : ExprD}
    (g2 : ∃ cs, w1.ownsRow B 87 5 av1 m1 cs) (g3 : j + m1 ≤ j1 + L.length) (g4 : Fr wr w1 (fun b => b = rb ∨ av.ownBlock = some b ∨ b = nb ∨ nilS.ownBlock = some b)) (g5 : av1.ownBlock = av.ownBlock ∨ ∃ g, av1.ownBlock = some g ∧ wr.heap.size ≤ g) (g6 : pv1.ownBlock = nilS.ownBlock ∨ ∃ g, pv1.ownBlock = some g ∧ wr.heap.size ≤ g)
    (y1 : paren (refE k) (ws.drop j) = some (x, ws.drop j1)) (y2 : L1.map Prod.fst = flatN L.length x) (y3 : NsO B w1 av1 N' (L ++ L1)) (y4 : ∀ b, N' b → (N b ∧ b < w.heap.size) ∨ wr.heap.size ≤ b) (y8 : dk1 = max 1 (depthE x + 1)) (y9 : dk1 ≤ 13)
    {e : Ending} (ho : OutIn k B w1 rb wv av1 ws j1 false N' (L ++ L1) nb s nv dv pv1 [((L.length + sizeE x - 1 : Nat) : Int)] dk1 e w2) : XSt k B w rb wv av ws i N L nb s w2 := by
  obtain ⟨-, j2, b2, av2, m, pv2, dk2, k1, k2, k3, k4, k5, k6, k7, k8, k9, k10, k11⟩ := ho
  have hao := h.ao
  have hn := h.hn
  have hj := h.hj
  have hgs := h.g.size
  have hlt := h.bx.lt
  have hgs4 := g4.size
  obtain ⟨cs, hcs⟩ := g2
  have hm := own_cnt hcs y3.own
  have han1 : ∀ b, b < wr.heap.size → w.heap.size ≤ b → av1.ownBlock ≠ some b := fun b hb hb2 e => by
    rcases g5 with g5 | ⟨g, g5, hg⟩
    · rw [g5] at e; have := hao _ e; omega
    · rw [g5] at e; cases e; omega
  have han : ∀ b, b < wr.heap.size → w.heap.size ≤ b → av2.ownBlock ≠ some b := fun b hb hb2 e => by
    rcases k5 with k5 | ⟨g, k5, hg⟩
    · rw [k5] at e; exact han1 b hb hb2 e
    · rw [k5] at e; cases e; omega
  have hp1 : ∀ g, pv1.ownBlock = some g → wr.heap.size ≤ g := fun g e => by
    rcases g6 with g6 | ⟨q, g6, hg⟩
    · rw [g6] at e; cases e
    · rw [g6] at e; cases e; exact hg
  have hf1 : Fr w w1 (fun b => b = rb ∨ av.ownBlock = some b) := (Fr.of_grown (X := fun b => b = rb ∨ av.ownBlock = some b) h.g (fun b e _ => by cases e; exact .inl rfl)).trans g4 (fun b hb e => by
    rcases e with e | e | e | e
    · exact .inl e
    · exact .inr e
    · omega
    · cases e)
  have hf : Fr w w2 (fun b => b = rb ∨ av.ownBlock = some b) := hf1.trans k4 (fun b hb e => by
    rcases e with e | e | e | e
    · exact .inl e
    · rcases g5 with g5 | ⟨g, g5, hg⟩
      · exact .inr (by rw [← g5]; exact e)
      · rw [g5] at e; cases e; omega
    · omega
    · have := hp1 b e; omega)
  have ha : av2.ownBlock = av.ownBlock ∨ ∃ g, av2.ownBlock = some g ∧ w.heap.size ≤ g := by
    rcases k5 with k5 | ⟨g, k5, hg⟩
    · rcases g5 with g5 | ⟨g, g5, hg⟩
      · exact .inl (k5.trans g5)
      · exact .inr ⟨g, k5.trans g5, by omega⟩
    · exact .inr ⟨g, k5, by omega⟩
  have hlen : (L ++ L1).length = L.length + sizeE x := by
    have := congrArg List.length y2
    rw [List.length_map, flatN_len] at this
    rw [List.length_append, this]
  refine ⟨j2, b2, av2, m, nv, dv, pv2, dk2, k1, k2, by omega, hf, ha, han nb hlt hn, k7, ⟨h.sl.1, h.sl.2, k8⟩, by omega, fun hb => ?_, fun hb => ?_⟩
  · rw [hd]
    exact refE_parts_no hh (parts2_no2 y1 (k10 rfl hb))
  · obtain ⟨-, y, L2, N2, z1, z2, z3, z4, z5, z6, z7, z8⟩ := k11 hb
    have hk : ∀ b, nb < b → b < wr.heap.size → w2.heap[b]? = wr.heap[b]? := fun b hb hlt2 => by
      refine (k4.block b (by omega) (fun e => ?_)).trans (g4.block b hlt2 (fun e => ?_))
      · rcases e with e | e | e | e
        · have := h.rs.lt; have := h.hB; omega
        · exact han1 b hlt2 (by omega) e
        · omega
        · have := hp1 b e; omega
      · rcases e with e | e | e | e
        · have := h.rs.lt; have := h.hB; omega
        · have := hao _ e; omega
        · omega
        · cases e
    have hs2 : wr.heap.size ≤ w2.heap.size := Nat.le_trans hgs4 k4.size
    refine ⟨.two s n d x y, L1 ++ L2, ⟨s, n, d, [((L.length + sizeE x - 1 : Nat) : Int), ((L.length + sizeE x + sizeE y - 1 : Nat) : Int)], depthE (.two s n d x y)⟩, N2, ?_, ?_, by rw [← List.append_assoc]; exact z3, fun b hb => ?_, ⟨rfl, ?_, ?_⟩, h1.bd.kept hs2 (fun b hb hlt => hk b hb.1 hlt) (fun b hb hlt => ⟨by have := hb.1; omega, han b hlt (by have := hb.1; omega)⟩), h2.bd.kept hs2 (fun b hb hlt => hk b hb.1 hlt) (fun b hb hlt => ⟨by have := hb.1; omega, han b hlt (by have := hb.1; omega)⟩), ?_⟩
    · rw [hd]
      exact refE_yes hh (parts2_yes y1 z1)
    · rw [List.map_append, y2, z2, hlen, List.append_assoc]; rfl
    · rcases z4 b hb with h | h
      · rcases y4 b h with h | h
        · exact .inl h.1
        · exact .inr (by omega)
      · exact .inr (by omega)
    · simp only [depthE]; omega
    · simp only [depthE]; omega
    · have z7' : OwnI w2 (nb + 1) pv2 [((L.length + sizeE x - 1 : Nat) : Int), ((L.length + sizeE x + sizeE y - 1 : Nat) : Int)] := by
        rw [hlen] at z7; exact z7
      exact z7'.rd2.to (fun b hb hlt => ⟨by have := hlt.1; omega, (z6 b hlt.2).2⟩)
end
end Go.Proofs.YtlinldbbhdpgcaaGreatDoor
/-
  THE REFERENCE's PARSER: expression.
-/
namespace Go.Proofs.YtlinldbbhdpgcaaGreatDoor
open Go.RowKit
attribute [local go_sem] subp_cell
attribute [local irreducible] RP.plainUpon RP.stepC
/-- c numbers have been read, or not. -/
def NmS (ws : List ByteArray) (a c : Nat) (vs : List Int) (j : Nat) (b : Bool) : Prop := (b = false → numsO c (ws.drop a) = some (vs, ws.drop j)) ∧ (b = true → numsO c (ws.drop a) = none)
theorem numsO_snoc : ∀ (c : Nat) (ws : List ByteArray), (∀ l r v r2, numsO c ws = some (l, r) → numsO 1 r = some ([v], r2) → numsO (c + 1) ws = some (l ++ [v], r2)) ∧ (numsO c ws = none → numsO (c + 1) ws = none) ∧ (∀ l r, numsO c ws = some (l, r) → numsO 1 r = none → numsO (c + 1) ws = none)
  | 0, ws => ⟨fun l r v r2 h1 h2 => by
      simp only [numsO] at h1
      cases h1
      exact h2, fun h => by simp [numsO] at h, fun l r h1 h2 => by
      simp only [numsO] at h1
      cases h1
      exact h2⟩
  | c + 1, [] => ⟨fun l r v r2 h1 => by simp [numsO] at h1, fun _ => by simp [numsO], fun l r h1 => by simp [numsO] at h1⟩
  | c + 1, s :: ws => by
    obtain ⟨i1, i2, i3⟩ := numsO_snoc c ws
    refine ⟨fun l r v r2 h1 h2 => ?_, fun h => ?_, fun l r h1 h2 => ?_⟩
    · rw [numsO] at h1 ⊢
      cases hv : numV s with
      | none => rw [hv] at h1; cases h1
      | some n =>
        rw [hv] at h1
        simp only at h1 ⊢
        cases hk : numsO c ws with
        | none => rw [hk] at h1; cases h1
        | some p =>
          rw [hk] at h1
          simp only [Option.some.injEq, Prod.mk.injEq] at h1
          obtain ⟨rfl, rfl⟩ := h1
          rw [i1 _ _ _ _ hk h2]
          rfl
    · rw [numsO] at h ⊢
      cases hv : numV s with
      | none => rfl
      | some n =>
        rw [hv] at h
        simp only at h ⊢
        cases hk : numsO c ws with
        | none => rw [i2 hk]
        | some p => rw [hk] at h; cases h
    · rw [numsO] at h1 ⊢
      cases hv : numV s with
      | none => rfl
      | some n =>
        rw [hv] at h1
        simp only at h1 ⊢
        cases hk : numsO c ws with
        | none => rw [hk] at h1; cases h1
        | some p =>
          rw [hk] at h1
          simp only [Option.some.injEq, Prod.mk.injEq] at h1
          obtain ⟨rfl, rfl⟩ := h1
          rw [i3 _ _ hk h2]
theorem nums_then {ws : List ByteArray} {a c j jq : Nat} {vs : List Int} {v : Int} {b bq : Bool} (h : NmS ws a c vs j b) (k4 : bq = false → b = false ∧ numsO 1 (ws.drop j) = some ([v], ws.drop jq)) (k5 : b = false → bq = true → numsO 1 (ws.drop j) = none) : NmS ws a (c + 1) (vs ++ [v]) jq bq := by
  obtain ⟨i1, i2, i3⟩ := numsO_snoc c (ws.drop a)
  refine ⟨fun hb => ?_, fun hb => ?_⟩
  · obtain ⟨h1, h2⟩ := k4 hb
    exact i1 _ _ _ _ (h.1 h1) h2
  · cases b with
    | true => exact i2 (h.2 rfl)
    | false => exact i3 _ _ (h.1 rfl) (k5 rfl hb)
theorem nms_zero (ws : List ByteArray) (a : Nat) : NmS ws a 0 [] a false := ⟨fun _ => rfl, fun hb => by cases hb⟩
section
variable {B : Nat} {w wr : World} {rb : Nat} {wv av : Value} {ws : List ByteArray} {i : Nat} {N : Nat → Prop} {L : List NodeV} {nb : Nat} {s : ByteArray} {nv dv : Value} {j : Nat} {bad : Bool}
theorem NW.ints (h : NW B w wr rb wv av ws i N L nb s nv dv j bad) (l : List Int) (cs : Array Value) (hcs : cs = (l.map (Value.int .i64)).toArray) (n : Nat) (hn : n = l.length) :
    NW B w ((wr.setCell ⟨nb, 1, none⟩ (.slice (some ⟨wr.heap.size, 0, none⟩) n n)).alloc (.cells cs 3)) rb wv av ws i N L nb s (.slice (some ⟨wr.heap.size, 0, none⟩) n n) dv j bad ∧ RdL ((wr.setCell ⟨nb, 1, none⟩ (.slice (some ⟨wr.heap.size, 0, none⟩) n n)).alloc (.cells cs 3)) (fun b => nb < b) (.slice (some ⟨wr.heap.size, 0, none⟩) n n) l := by
  subst hcs hn
  refine ⟨(h.put 1 _ (h.bx.set1 _) ⟨⟨_, _, _, rfl⟩, h.sl.2⟩).keep (below_new _ _), _, _, rfl, fun hp => ⟨wr.heap.size, 0, rfl, by simp [World.setCell], h.bx.lt, fun k hk => ?_⟩⟩
  have hsz : (wr.setCell ⟨nb, 1, none⟩ (.slice (some ⟨wr.heap.size, 0, none⟩) l.length l.length)).heap.size = wr.heap.size := by simp [World.setCell]
  have hrow := heap_alloc_new (wr.setCell ⟨nb, 1, none⟩ (.slice (some ⟨wr.heap.size, 0, none⟩) l.length l.length)) (.cells (l.map (Value.int .i64)).toArray 3)
  rw [hsz] at hrow
  rw [Nat.zero_add, cell_of_row _ _ k _ _ (0, 0) hrow]
  simp [hk]
theorem NW.digs (h : NW B w wr rb wv av ws i N L nb s nv dv j bad) {v : Value} {l : List Int} {w0 : World} (hv : OwnI wr w0.heap.size v l) (hw0 : nb < w0.heap.size) : NW B w (wr.setCell ⟨nb, 2, none⟩ v) rb wv av ws i N L nb s nv v j bad ∧ RdL (wr.setCell ⟨nb, 2, none⟩ v) (fun b => nb < b) v l := by
  obtain ⟨A, c, e, -⟩ := hv.isL
  refine ⟨h.put 2 v (h.bx.set2 v) ⟨h.sl.1, ⟨_, _, _, e⟩⟩, ?_⟩
  exact hv.rd.kept (by simp [World.setCell]) (fun b (hb : w0.heap.size ≤ b) _ => Below.heap_setCell wr ⟨nb, 2, none⟩ v b (by show b ≠ nb; omega)) (fun b (hb : w0.heap.size ≤ b) _ => by omega)
theorem RdL.off {w w' : World} {nb rb : Nat} {v : Value} {l : List Int} (h : RdL w (fun b => nb < b) v l) (hg : w.grownBy w' (some rb)) (hr : rb ≤ nb) : RdL w' (fun b => nb < b) v l := h.kept hg.size (fun b (hb : nb < b) hlt => hg.block b hlt (fun e => by cases e; omega)) (fun b hb _ => hb)
end
theorem in_stop {k B : Nat} {w wr w1 : World} {rb : Nat} {wv av : Value} {ws : List ByteArray} {i : Nat} {N : Nat → Prop} {L : List NodeV} {nb : Nat} {s : ByteArray} {nv dv : Value} {j : Nat} {bad : Bool} (h : NW B w wr rb wv av ws i N L nb s nv dv j bad) {j2 : Nat} {av2 pv2 : Value} {m dk2 : Nat}
    (g1 : RS B w1 rb wv ws j2 true av2) (g2 : ∃ cs, w1.ownsRow B 87 5 av2 m cs) (g3 : j + m ≤ j2 + L.length) (g4 : Fr wr w1 (fun b => b = rb ∨ av.ownBlock = some b ∨ b = nb ∨ nilS.ownBlock = some b)) (g5 : av2.ownBlock = av.ownBlock ∨ ∃ g, av2.ownBlock = some g ∧ wr.heap.size ≤ g) (g7 : NBox w1 nb s nv dv pv2 dk2) (g8 : ∃ A l c, pv2 = .slice A l c) (g9 : dk2 ≤ max 1 13)
    (hno : refE (k + 1) (ws.drop i) = none) : XSt k B w rb wv av ws i N L nb s w1 := by
  have hao := h.ao
  have hn := h.hn
  have hj := h.hj
  have hgs := h.g.size
  have hlt := h.bx.lt
  refine ⟨j2, true, av2, m, nv, dv, pv2, dk2, g1, g2, by omega, (Fr.of_grown (X := fun b => b = rb ∨ av.ownBlock = some b) h.g (fun b e _ => by cases e; exact .inl rfl)).trans g4 (fun b hb e => ?_), ?_, ?_, g7, ⟨h.sl.1, h.sl.2, g8⟩, by omega, fun _ => hno, fun hb => by cases hb⟩
  · rcases e with e | e | e | e
    · exact .inl e
    · exact .inr e
    · omega
    · cases e
  · rcases g5 with g5 | ⟨g, g5, hg⟩
    · exact .inl g5
    · exact .inr ⟨g, g5, by omega⟩
  · intro e
    rcases g5 with g5 | ⟨g, g5, hg⟩
    · rw [g5] at e; exact h.an e
    · rw [g5] at e; cases e; omega
theorem own_slice {w : World} {B E sz k : Nat} {v : Value} {cs : List Value} (h : w.ownsRow B E sz v k cs) : ∃ A l c, v = .slice A l c := by
  rcases h.2 with ⟨e, -⟩ | ⟨g, c, -, e, -⟩
  · exact ⟨_, _, _, e⟩
  · exact ⟨_, _, _, e⟩
theorem own_uniq {w : World} {B B' E E' sz k k' : Nat} {v : Value} {cs cs' : List Value} (h : w.ownsRow B E sz v k cs) (h' : w.ownsRow B' E' sz v k' cs') : cs = cs' := by
  have hk := own_cnt h h'
  subst hk
  rcases h.2 with ⟨e, h0⟩ | ⟨g, c, cur, e, -, hg, -, -, -, ht⟩ <;> rcases h'.2 with ⟨e', h0'⟩ | ⟨g', c', cur', e', -, hg', -, -, -, ht'⟩
  · have a1 := h.1
    have a2 := h'.1
    rw [h0, Nat.zero_mul] at a1 a2
    rw [List.eq_nil_of_length_eq_zero a1, List.eq_nil_of_length_eq_zero a2]
  · rw [e] at e'; cases e'
  · rw [e] at e'; cases e'
  · rw [e] at e'
    cases e'
    rw [hg] at hg'
    cases hg'
    rw [← ht, ← ht']
theorem nodeInfo : (Tryz.prog.info? 87).map (fun i => (i.zero, i.size, i.bytes)) = some (some (.agg #[.string ⟨#[]⟩, .slice none 0 0, .slice none 0 0, .slice none 0 0, .int .i64 0]), 5, 96) := by kernel_rfl
/-- append(s, x) of one node, which lies in the block that was made last. -/
theorem ap_node (w : World) (ty : TypeId) (B : Nat) (v : Value) (k : Nat) (cs : List Value) (s nv dv pv kv : Value) (hs1 : s.oneCell' = true) (h1 : nv.oneCell' = true) (h2 : dv.oneCell' = true) (h3 : pv.oneCell' = true) (h4 : kv.oneCell' = true) (hown : w.ownsRow B 87 5 v k cs) (hn : k ≤ 1000000) (hB : B ≤ w.heap.size) :
    ∃ v' w', (Builtin.append_ #[81, 81] ty #[v, .slice (some ⟨w.heap.size, 0, none⟩) 1 1]).run Tryz.prog (w.alloc (.cells #[s, nv, dv, pv, kv] 87)) = .ok v' w' ∧ w'.ownsRow B 87 5 v' (k + 1) (cs ++ [s, nv, dv, pv, kv]) ∧ w.grownBy w' v.ownBlock ∧ (v'.ownBlock = v.ownBlock ∨ v'.ownBlock = some (w.heap.size + 1)) := by
  obtain ⟨i0, hi, hz0, hz1, hz2⟩ := info_parts nodeInfo
  obtain ⟨v', w', hr, g2, g3, g4, g5⟩ := run_append_own_at (P := Tryz.prog) (w.alloc (.cells #[s, nv, dv, pv, kv] 87)) B 81 ty 87 i0 (.agg #[.string ⟨#[]⟩, .slice none 0 0, .slice none 0 0, .slice none 0 0, .int .i64 0]) 5 96 Tryz.underlying81 hi hz0 hz1 hz2 rfl (by decide) v k _ (hown.alloc _) ⟨w.heap.size, 0, none⟩ 1 1 [s, nv, dv, pv, kv] rfl
    (by
      intro j u hu
      have hj : j < 5 := by
        have := (List.getElem?_eq_some_iff.1 hu).1
        simpa using this
      have hcell := cell_of_row (w.alloc (.cells #[s, nv, dv, pv, kv] 87)) w.heap.size j _ _ (0, 0) (heap_alloc_new w _)
      rw [Addr.add_mid, Nat.zero_add, hcell]
      simpa using hu)
    (by intro u hu; simp at hu; rcases hu with rfl | rfl | rfl | rfl | rfl <;> assumption) (by unfold maxLen; omega) (by omega) (by simp; omega)
  refine ⟨v', w', hr, g2, ⟨g3.os, g3.tape, g3.output, by have := g3.size; simp at this; omega, fun k hk hne => (g3.block k (by simp; omega) hne).trans (heap_alloc_old w _ hk)⟩, ?_⟩
  rcases g5 with g5 | g5
  · exact .inl g5
  · rw [g5]; exact .inr (by simp)
/-- Ahead of the last append. -/
def FSt (k B : Nat) (w : World) (rb : Nat) (wv av2 : Value) (ws : List ByteArray) (i j : Nat) (X N : Nat → Prop) (L : List NodeV) (nb : Nat) (s : ByteArray) (m : Nat) (nv dv pv : Value) (dk : Nat) (wd : World) : Prop :=
  ∃ b, RS B wd rb wv ws j b av2 ∧ (∃ cs, wd.ownsRow B 87 5 av2 m cs) ∧ Fr w wd X ∧ NBox wd nb s nv dv pv dk ∧ (b = true → refE (k + 1) (ws.drop i) = none) ∧
  (b = false → ∃ x L1 nd N', refE (k + 1) (ws.drop i) = some (x, ws.drop j) ∧ L1.map Prod.fst ++ [nd] = flatN L.length x ∧ NsO B wd av2 N' (L ++ L1) ∧ (∀ b, N' b → N b ∨ w.heap.size ≤ b) ∧ (nd.s = s ∧ nd.k = dk ∧ depthE x ≤ 12) ∧ RdL wd (fun b => w.heap.size ≤ b ∧ av2.ownBlock ≠ some b) nv nd.n ∧ RdL wd (fun b => w.heap.size ≤ b ∧ av2.ownBlock ≠ some b) dv nd.d ∧ RdL wd (fun b => w.heap.size ≤ b ∧ av2.ownBlock ≠ some b) pv nd.p)
/-- Behind the last append. -/
theorem fst_end {k B : Nat} {w : World} {rb : Nat} {wv av av2 : Value} {ws : List ByteArray} {i j : Nat} {N : Nat → Prop} {L : List NodeV} {nb : Nat} {s : ByteArray} {m : Nat} {nv dv pv : Value} {dk : Nat} {wd w7 : World} {v' : Value} {cs : List Value}
    (h : FSt k B w rb wv av2 ws i j (fun b => b = rb ∨ av.ownBlock = some b) N L nb s m nv dv pv dk wd) (hcnt : i + 1 + m ≤ j + L.length) (hav : av2.ownBlock = av.ownBlock ∨ ∃ g, av2.ownBlock = some g ∧ w.heap.size ≤ g) (hBw : rb < B ∧ B ≤ w.heap.size) (hNr : ¬ N rb)
    (hcs : wd.ownsRow B 87 5 av2 m cs) (a2 : w7.ownsRow B 87 5 v' (m + 1) (cs ++ [.string s, nv, dv, pv, .int .i64 dk])) (a3 : wd.grownBy w7 av2.ownBlock) (a4 : v'.ownBlock = av2.ownBlock ∨ ∃ g, v'.ownBlock = some g ∧ wd.heap.size ≤ g) :
    OutEx (k + 1) B w rb wv av ws i N L (.returned (.int .i64 (m : Int))) (w7.setCell ⟨rb, 3, none⟩ v') := by
  obtain ⟨b, h1, -, h3, h4, h5, h6⟩ := h
  have hrb : av2.ownBlock ≠ some rb := own_ge hcs hBw.1
  have hf7 : Fr wd w7 (fun b => av2.ownBlock = some b) := Fr.of_grown a3 (fun b e _ => e)
  have hf8 : Fr w7 (w7.setCell ⟨rb, 3, none⟩ v') (fun b => b = rb) := set_grown w7 rb 3 v' (fun hg => Fr.of_grown hg (fun b e _ => by cases e; rfl))
  have hfd : Fr wd (w7.setCell ⟨rb, 3, none⟩ v') (fun b => b = rb ∨ av2.ownBlock = some b) :=
    ⟨hf8.os.trans hf7.os, hf8.tape.trans hf7.tape, hf8.output.trans hf7.output, Nat.le_trans hf7.size hf8.size, fun b hb hx => (hf8.block b (Nat.lt_of_lt_of_le hb hf7.size) (fun e => hx (.inl e))).trans (hf7.block b hb (fun e => hx (.inr e)))⟩
  have hbx7 : RBox w7 rb wv j b av2 := (hf7.block rb h1.box.cells.2.2.2.2 hrb).trans h1.box
  have hws := h3.size
  refine ⟨(m : Int), j, b, v', m + 1, rfl, h1.fr hfd (fun b hb hne e => ?_) (hbx7.set3 v') h1.le, ⟨_, own_by a2 (fun g e => hf8.block g (World.ownsRow.lt a2 g e).2 (fun e2 => by have := (World.ownsRow.lt a2 g e).1; omega))⟩, by omega, h3.trans hfd (fun b hb e => ?_), ?_, h5, fun hb => ?_⟩
  · rcases e with e | e
    · exact hne e
    · have := (World.ownsRow.lt hcs b e).1; omega
  · rcases e with e | e
    · exact .inl e
    · rcases hav with hav | ⟨g, hav, hg⟩
      · exact .inr (by rw [← hav]; exact e)
      · rw [hav] at e; cases e; omega
  · rcases a4 with a4 | ⟨g, a4, hg⟩
    · rw [a4]; exact hav
    · exact .inr ⟨g, a4, by omega⟩
  · obtain ⟨x, L1, nd, N', y1, y2, y3, y4, ⟨y5, y6, y7⟩, y8, y9, y10⟩ := h6 hb
    have hm := own_cnt hcs y3.own
    have hcq := own_uniq hcs y3.own
    have hk : ∀ b, b ≠ rb → av2.ownBlock ≠ some b → b < wd.heap.size → (w7.setCell ⟨rb, 3, none⟩ v').heap[b]? = wd.heap[b]? := fun b h1 h2 hlt => hfd.block b hlt (fun e => e.elim h1 h2)
    have hv' : ∀ b, av2.ownBlock ≠ some b → b < wd.heap.size → v'.ownBlock ≠ some b := fun b hb hlt e => by
      rcases a4 with a4 | ⟨g, a4, hg⟩
      · rw [a4] at e; exact hb e
      · rw [a4] at e; cases e; omega
    have hnr : ∀ b, N' b → b ≠ rb := fun b hb e => by
      subst e
      rcases y4 b hb with h | h
      · exact hNr h
      · omega
    refine ⟨x, L1 ++ [(nd, nv, dv, pv)], y1, by rw [List.map_append]; exact y2, ⟨?_, fun p hp => ?_⟩, ?_, y7⟩
    · rw [← List.append_assoc, List.length_append, List.flatMap_append, ← hm, ← hcq]
      have e : ([(nd, nv, dv, pv)] : List NodeV).flatMap ncells = [.string s, nv, dv, pv, .int .i64 dk] := by
        show [Value.string nd.s, nv, dv, pv, .int .i64 nd.k] ++ [] = _
        rw [y5, y6]; rfl
      rw [e]
      exact own_by a2 (fun g e => hf8.block g (World.ownsRow.lt a2 g e).2 (fun e2 => by have := (World.ownsRow.lt a2 g e).1; omega))
    · rw [← List.append_assoc] at hp
      rcases List.mem_append.1 hp with hp | hp
      · obtain ⟨r1, r2, r3⟩ := y3.rd p hp
        exact ⟨r1.bd.kept hfd.size (fun b hb hlt => hk b (hnr b hb.1.1) hb.1.2 hlt) (fun b hb hlt => ⟨y4 b hb.1.1, hv' b hb.1.2 hlt⟩), r2.bd.kept hfd.size (fun b hb hlt => hk b (hnr b hb.1.1) hb.1.2 hlt) (fun b hb hlt => ⟨y4 b hb.1.1, hv' b hb.1.2 hlt⟩), r3.bd.kept hfd.size (fun b hb hlt => hk b (hnr b hb.1.1) hb.1.2 hlt) (fun b hb hlt => ⟨y4 b hb.1.1, hv' b hb.1.2 hlt⟩)⟩
      · rw [List.mem_singleton.1 hp]
        have hq : ∀ b, (w.heap.size ≤ b ∧ av2.ownBlock ≠ some b) → b ≠ rb := fun b hb e => by have := hb.1; omega
        exact ⟨y8.bd.kept hfd.size (fun b hb hlt => hk b (hq b hb.1) hb.1.2 hlt) (fun b hb hlt => ⟨.inr hb.1.1, hv' b hb.1.2 hlt⟩), y9.bd.kept hfd.size (fun b hb hlt => hk b (hq b hb.1) hb.1.2 hlt) (fun b hb hlt => ⟨.inr hb.1.1, hv' b hb.1.2 hlt⟩), y10.bd.kept hfd.size (fun b hb hlt => hk b (hq b hb.1) hb.1.2 hlt) (fun b hb hlt => ⟨.inr hb.1.1, hv' b hb.1.2 hlt⟩)⟩
    · have := congrArg List.length y2
      rw [List.length_append, List.length_map, flatN_len, List.length_singleton] at this
      rw [List.length_append] at hm
      congr 1
      omega
set_option maxRecDepth 100000 in
set_option maxHeartbeats 4000000 in
theorem ref_expr (k B rb : Nat) (wv : Value) (ws : List ByteArray) (IH : ExprC k B rb wv ws) : ExprC (k + 1) B rb wv ws := by
  intro w av i N L h hns hLi hk hNr
  have HN := Lib.hid (rnext_any B w rb wv av ws i false h)
  have hao : ∀ g, av.ownBlock = some g → g < w.heap.size := fun g e => (World.ownsRow.lt hns.own g e).2
  have HS := Lib.hid (And.intro h (And.intro hns (And.intro hLi (And.intro hk (And.intro hNr (And.intro IH hao))))))
  have hBw := h.lt
  clear h hns hLi hk hNr IH hao
  go_enter Tryz.func49, Tryz.ntmps49
  go_wp2_with fail
  refine HN.out.mono ?_
  rintro e w1 ⟨s, j, b2, rfl, h1, h2, h3, h4, h5, h6⟩
  clear HN
  go_upto_region 2 with fail
  have hbx := NBox.new w1 s nilS nilS nilS 1
  have hb2 := below_new w1 (.cells #[.string s, .slice none 0 0, .slice none 0 0, .slice none 0 0, .int .i64 ((1 : Nat) : Int)] 87)
  obtain ⟨w2, hw2⟩ : ∃ w2, w2 = w1.alloc (.cells #[.string s, .slice none 0 0, .slice none 0 0, .slice none 0 0, .int .i64 ((1 : Nat) : Int)] 87) := ⟨_, rfl⟩
  have hbx2 : NBox w2 w1.heap.size s nilS nilS nilS 1 := by rw [hw2]; exact hbx
  rw [← hw2] at hb2
  have hrs2 := h1.keep hb2
  have hg2 := grown_then h2 (grown_of hb2 (some rb))
  have hns2 : NsO B w2 av N L := HS.out.2.1.fr (X := fun b => b = rb) (Fr.of_grown hg2 (fun b e _ => by cases e; rfl)) (fun b e hn => HS.out.2.2.2.2.1 (by rw [← e]; exact hn)) (fun g e e2 => by subst e2; exact own_ge HS.out.2.1.own hBw.1 e)
  have hs1 := h2.size
  change Code.wp _ _ _ _ (w1.alloc (.cells #[.string s, .slice none 0 0, .slice none 0 0, .slice none 0 0, .int .i64 ((1 : Nat) : Int)] 87))
  rw [← hw2]
  obtain ⟨nb, hnb⟩ : ∃ nb, nb = w1.heap.size := ⟨_, rfl⟩
  rw [← hnb] at hbx2 ⊢
  obtain ⟨q0, q1, q2, q3, q4⟩ := hrs2.box.cells
  cases b2 with
  | true =>
    have HF := Lib.hid (show OutEx (k + 1) B w rb wv av ws i N L (.returned (.int .i64 0)) w2 from
      ⟨0, j, true, av, L.length, rfl, hrs2, nsO_own hns2, by omega, Fr.of_grown hg2 (fun b e _ => by cases e; exact .inl rfl), .inl rfl, fun _ => by rw [h6 trivial rfl]; rfl, fun hb => by cases hb⟩)
    clear h1 h2 h3 h4 h5 h6 hbx hb2 hw2 hbx2 hrs2 hg2 hns2 hnb HS
    go_wp2
    go_ret
    exact HF.out
  | false =>
    obtain ⟨-, hj, hd⟩ := h5 rfl
    subst hj
    have H2 := Lib.hid (And.intro (show NW B w w2 rb wv av ws i N L nb s nilS nilS (i + 1) false from
      ⟨hrs2, (HS.out.2.1.to (fun b hb hn => ⟨hn, hb⟩)).fr (X := fun b => b = rb) (Fr.of_grown hg2 (fun b e _ => by cases e; rfl)) (fun b e hn => HS.out.2.2.2.2.1 (by rw [← e]; exact hn.1)) (fun g e e2 => by subst e2; exact own_ge HS.out.2.1.own hBw.1 e), hbx2, hg2, by omega, Nat.le_refl _, hBw.2, HS.out.2.2.2.2.1, HS.out.2.2.2.2.2.2, ⟨_, _, _, rfl⟩, ⟨_, _, _, rfl⟩⟩) (nms_zero ws (i + 1)))
    have HD := Lib.hid hd
    have hnbw : w.heap.size ≤ nb := by omega
    obtain ⟨c0, c1, c2, c3, c4, c5⟩ := hbx2.cells
    have hnl : nb < w2.heap.size := hbx2.lt
    clear h1 h2 h3 h4 h5 h6 hbx hb2 hw2 hbx2 hrs2 hg2 hns2 hnb hd hs1
    go_upto_block 0 with fail
    go_cut [] (fun wx => Hid (XSt k B w rb wv av ws i N L nb s wx))
    case first =>
      by_cases e1 : s = txt [103, 114, 105, 100]
      · have t1 := word_yes e1
        have E1 := Lib.hid e1
        clear e1 q0 q1 q2 q3 q4 c0 c1 c2 c3 c4 c5
        have hnm := rnum_any B w2 rb wv av ws (i + 1) false H2.out.1.rs
        go_wp2_with fail
        refine hnm.mono ?_
        rintro e w3 ⟨v1, j1, b1, rfl, k1, k2, k3, ⟨v0v1, v1v1⟩, k4, k5⟩
        have H3 := Lib.hid (And.intro (H2.out.1.step k2 k1 k3) (nums_then H2.out.2 k4 k5))
        clear k1 k2 k3 k4 k5 H2 hnm
        have hnm := rnum_any B w3 rb wv av ws j1 b1 H3.out.1.rs
        go_wp2_with fail
        refine hnm.mono ?_
        rintro e w4 ⟨v2, j2, b2, rfl, k1, k2, k3, ⟨v0v2, v1v2⟩, k4, k5⟩
        have H4 := Lib.hid (And.intro (H3.out.1.step k2 k1 k3) (nums_then H3.out.2 k4 k5))
        clear k1 k2 k3 k4 k5 H3 hnm
        have hnm := rnum_any B w4 rb wv av ws j2 b2 H4.out.1.rs
        go_wp2_with fail
        refine hnm.mono ?_
        rintro e w5 ⟨v3, j3, b3, rfl, k1, k2, k3, ⟨v0v3, v1v3⟩, k4, k5⟩
        have H5 := Lib.hid (And.intro (H4.out.1.step k2 k1 k3) (nums_then H4.out.2 k4 k5))
        clear k1 k2 k3 k4 k5 H4 hnm
        obtain ⟨q0, q1, q2, q3, q4⟩ := H5.out.1.rs.box.cells
        obtain ⟨c0, c1, c2, c3, c4, c5⟩ := H5.out.1.bx.cells
        have fq2 := H5.out.1.rs.box.frozen 2
        have f1 := H5.out.1.bx.frozen 1
        have f2 := H5.out.1.bx.frozen 2
        go_upto_region 11 with fail
        obtain ⟨k1, k2⟩ := H5.out.1.ints [v1, v2, v3] #[.int .i64 v1, .int .i64 v2, .int .i64 v3] rfl 3 rfl
        obtain ⟨w6, hw6⟩ : ∃ w6, w6 = (w5.setCell ⟨nb, 1, none⟩ (.slice (some ⟨w5.heap.size, 0, none⟩) 3 3)).alloc (.cells #[.int .i64 v1, .int .i64 v2, .int .i64 v3] 3) := ⟨_, rfl⟩
        rw [← hw6] at k1 k2 ⊢
        obtain ⟨nv, hnv⟩ : ∃ nv, nv = Value.slice (some ⟨w5.heap.size, 0, none⟩) 3 3 := ⟨_, rfl⟩
        rw [← hnv] at k1 k2
        have H6 := Lib.hid (And.intro k1 (And.intro k2 (show NmS ws (i + 1) 3 [v1, v2, v3] j3 b3 from H5.out.2)))
        clear k1 k2 H5 hw6 hnv
        clear q0 q1 q2 q3 q4 c0 c1 c2 c3 c4 c5 fq2 f1 f2
        obtain ⟨q0, q1, q2, q3, q4⟩ := H6.out.1.rs.box.cells
        obtain ⟨c0, c1, c2, c3, c4, c5⟩ := H6.out.1.bx.cells
        have fq2 := H6.out.1.rs.box.frozen 2
        have f1 := H6.out.1.bx.frozen 1
        have f2 := H6.out.1.bx.frozen 2
        cases b3 with
        | true =>
          have HF := Lib.hid (H6.out.1.fail (k := k) (by rw [HD.out]; exact refE_head_no (by rw [headO_grid E1.out, H6.out.2.2.2 rfl]; rfl)))
          clear H6
          go_wp2_with fail
          go_meet
          exact HF
        | false =>
          have hrw := rrows_any B w6 rb wv av ws j3 H6.out.1.rs (own_slice H6.out.1.ns.own) v1 v3
          clear fq2 f1 f2
          go_wp2_with fail
          refine hrw.mono ?_
          rintro e w7 ⟨v, l, j4, b4, rfl, k1, k2, k3, k4, k5, k6⟩
          have k7 := H6.out.1.step k3 k2 k4
          obtain ⟨A9, c9, e9, -⟩ := k1.isL
          obtain ⟨k8, k9⟩ := k7.digs k1 H6.out.1.bx.lt
          have k10 := (H6.out.2.1.off k3 (by have := H6.out.1.rn; have := H6.out.1.rs.lt; have := H6.out.1.hn; omega)).kept (w' := w7.setCell ⟨nb, 2, none⟩ v) (by simp [World.setCell]) (fun b (hb : nb < b) _ => Below.heap_setCell w7 ⟨nb, 2, none⟩ v b (by show b ≠ nb; omega)) (fun b hb _ => hb)
          have HF := Lib.hid (show XSt k B w rb wv av ws i N L nb s (w7.setCell ⟨nb, 2, none⟩ v) by
            cases b4 with
            | true => exact k8.fail (by rw [HD.out]; exact refE_head_no (by rw [headO_grid E1.out, H6.out.2.2.1 rfl]; simp only [Option.bind_some, List.getD_cons_zero, List.getD_cons_succ]; rw [k6 rfl]; rfl))
            | false => exact k8.leaf HD.out (by rw [headO_grid E1.out, H6.out.2.2.1 rfl]; simp only [Option.bind_some, List.getD_cons_zero, List.getD_cons_succ]; rw [k5 rfl]; rfl) (by unfold leafN; rw [if_pos E1.out]; exact k10) k9)
          obtain ⟨q0, q1, q2, q3, q4⟩ := k7.rs.box.cells
          obtain ⟨c0, c1, c2, c3, c4, c5⟩ := k7.bx.cells
          have f2 := k7.bx.frozen 2
          obtain ⟨l9, hl9⟩ : ∃ l9, l9 = l.length := ⟨_, rfl⟩
          rw [← hl9] at e9
          subst e9
          clear k1 k2 k3 k4 k5 k6 k7 k8 k9 k10 hrw H6 hl9
          go_wp2_with fail
          go_meet
          exact HF
      · have t1 := word_no e1
        by_cases e2 : s = txt [98, 114, 105, 99, 107, 115]
        · have t2 := word_yes e2
          have E2 := Lib.hid e2
          clear e1 e2 q0 q1 q2 q3 q4 c0 c1 c2 c3 c4 c5
          have hnm := rnum_any B w2 rb wv av ws (i + 1) false H2.out.1.rs
          go_wp2_with fail
          refine hnm.mono ?_
          rintro e w3 ⟨v1, j1, b1, rfl, k1, k2, k3, ⟨v0v1, v1v1⟩, k4, k5⟩
          have H3 := Lib.hid (And.intro (H2.out.1.step k2 k1 k3) (nums_then H2.out.2 k4 k5))
          clear k1 k2 k3 k4 k5 H2 hnm
          have hnm := rnum_any B w3 rb wv av ws j1 b1 H3.out.1.rs
          go_wp2_with fail
          refine hnm.mono ?_
          rintro e w4 ⟨v2, j2, b2, rfl, k1, k2, k3, ⟨v0v2, v1v2⟩, k4, k5⟩
          have H4 := Lib.hid (And.intro (H3.out.1.step k2 k1 k3) (nums_then H3.out.2 k4 k5))
          clear k1 k2 k3 k4 k5 H3 hnm
          have hnm := rnum_any B w4 rb wv av ws j2 b2 H4.out.1.rs
          go_wp2_with fail
          refine hnm.mono ?_
          rintro e w5 ⟨v3, j3, b3, rfl, k1, k2, k3, ⟨v0v3, v1v3⟩, k4, k5⟩
          have H5 := Lib.hid (And.intro (H4.out.1.step k2 k1 k3) (nums_then H4.out.2 k4 k5))
          clear k1 k2 k3 k4 k5 H4 hnm
          have H6 := Lib.hid (And.intro H5.out.1 (show NmS ws (i + 1) 3 [v1, v2, v3] j3 b3 from H5.out.2))
          clear H5
          obtain ⟨q0, q1, q2, q3, q4⟩ := H6.out.1.rs.box.cells
          obtain ⟨c0, c1, c2, c3, c4, c5⟩ := H6.out.1.bx.cells
          have fq2 := H6.out.1.rs.box.frozen 2
          have f1 := H6.out.1.bx.frozen 1
          have f2 := H6.out.1.bx.frozen 2
          cases b3 with
          | true =>
            have HF := Lib.hid (H6.out.1.fail (k := k) (by rw [HD.out]; exact refE_head_no (by rw [headO_bricks E2.out, H6.out.2.2 rfl]; rfl)))
            clear H6
            go_wp2_with fail
            go_meet
            exact HF
          | false =>
            have hrw := rrows_any B w5 rb wv av ws j3 H6.out.1.rs (own_slice H6.out.1.ns.own) v1 v2
            clear fq2 f1 f2
            go_wp2_with fail
            refine hrw.mono ?_
            rintro e w7 ⟨v, l, j4, b4, rfl, k1, k2, k3, k4, k5, k6⟩
            have k7 := H6.out.1.step k3 k2 k4
            obtain ⟨A9, c9, e9, -⟩ := k1.isL
            obtain ⟨k8, k9⟩ := k7.digs k1 H6.out.1.bx.lt
            obtain ⟨q0, q1, q2, q3, q4⟩ := k7.rs.box.cells
            obtain ⟨c0, c1, c2, c3, c4, c5⟩ := k7.bx.cells
            have f2 := k7.bx.frozen 2
            obtain ⟨l9, hl9⟩ : ∃ l9, l9 = l.length := ⟨_, rfl⟩
            rw [← hl9] at e9
            subst e9
            have H8 := Lib.hid (And.intro k8 (And.intro k9 (And.intro k5 k6)))
            clear k1 k2 k3 k4 k5 k6 k7 k8 k9 hrw hl9
            go_upto_region 19 with fail
            obtain ⟨w8, hw8⟩ : ∃ w8, w8 = w7.setCell ⟨nb, 2, none⟩ (.slice A9 l9 c9) := ⟨_, rfl⟩
            rw [← hw8] at H8 ⊢
            clear hw8
            clear q0 q1 q2 q3 q4 c0 c1 c2 c3 c4 c5 f2
            obtain ⟨q0, q1, q2, q3, q4⟩ := H8.out.1.rs.box.cells
            obtain ⟨c0, c1, c2, c3, c4, c5⟩ := H8.out.1.bx.cells
            have fq2 := H8.out.1.rs.box.frozen 2
            have f1 := H8.out.1.bx.frozen 1
            have f2 := H8.out.1.bx.frozen 2
            cases b4 with
            | true =>
              have HF := Lib.hid (H8.out.1.fail (k := k) (by rw [HD.out]; exact refE_head_no (by rw [headO_bricks E2.out, H6.out.2.1 rfl]; simp only [Option.bind_some, List.getD_cons_zero, List.getD_cons_succ]; rw [H8.out.2.2.2 rfl]; rfl)))
              clear H6 H8
              go_wp2_with fail
              go_meet
              exact HF
            | false =>
              have hro := H8.out.2.2.1 rfl
              obtain ⟨hb1, hb2, hb3⟩ := numsO_len _ _ _ _ (H6.out.2.1 rfl)
              have hp1 : 0 < v1 := by
                have hmd : Mod (ws.drop j3) := (numsO_mod _ _ _ _ (H6.out.2.1 rfl) ⟨by have := H6.out.1.rs.md.1; rw [List.length_drop]; omega, fun x hx => H6.out.1.rs.md.2 x (List.mem_of_mem_drop hx)⟩).1
                exact (rowsO_some hro hmd).2.2
              have hp2 := (hb3 v1 (by simp)).2
              have HMO := Lib.hid (modulo_any v3 v1 hp1 (by omega))
              have hfin := H8.out.1.ints [v1, v3 % v1, v2] #[.int .i64 v1, .int .i64 (v3 % v1), .int .i64 v2] rfl 3 rfl
              have HF := Lib.hid (show XSt k B w rb wv av ws i N L nb s ((w8.setCell ⟨nb, 1, none⟩ (.slice (some ⟨w8.heap.size, 0, none⟩) 3 3)).alloc (.cells #[.int .i64 v1, .int .i64 (v3 % v1), .int .i64 v2] 3)) from
                hfin.1.leaf (n := [v1, v2, v3]) (d := l) HD.out (by rw [headO_bricks E2.out, H6.out.2.1 rfl]; simp only [Option.bind_some, List.getD_cons_zero, List.getD_cons_succ]; rw [hro]; rfl) (by unfold leafN; rw [if_neg (by rw [E2.out]; decide)]; exact hfin.2) (by
                  refine H8.out.2.1.kept (by simp [World.setCell]) (fun b (hb : nb < b) hlt => ?_) (fun b hb _ => hb)
                  rw [heap_alloc_old _ _ (by simpa [World.setCell] using hlt)]
                  exact Below.heap_setCell w8 ⟨nb, 1, none⟩ _ b (by show b ≠ nb; omega)))
              clear hfin hro hb1 hb2 hb3 hp1 hp2 H6 H8
              go_wp2_with (go_at_call 76; refine (HMO.out _).mono ?_; rintro e w' ⟨rfl, rfl⟩)
              go_meet
              exact HF
        · have t2 := word_no e2
          by_cases e3 : s = txt [115, 104, 105, 102, 116]
          · have t3 := word_yes e3
            have E3 := Lib.hid e3
            clear e1 e2 e3 q0 q1 q2 q3 q4 c0 c1 c2 c3 c4 c5
            have hnm := rnum_any B w2 rb wv av ws (i + 1) false H2.out.1.rs
            go_wp2_with fail
            refine hnm.mono ?_
            rintro e w3 ⟨v1, j1, b1, rfl, k1, k2, k3, ⟨v0v1, v1v1⟩, k4, k5⟩
            have H3 := Lib.hid (And.intro (H2.out.1.step k2 k1 k3) (nums_then H2.out.2 k4 k5))
            clear k1 k2 k3 k4 k5 H2 hnm
            have hnm := rnum_any B w3 rb wv av ws j1 b1 H3.out.1.rs
            go_wp2_with fail
            refine hnm.mono ?_
            rintro e w4 ⟨v2, j2, b2, rfl, k1, k2, k3, ⟨v0v2, v1v2⟩, k4, k5⟩
            have H4 := Lib.hid (And.intro (H3.out.1.step k2 k1 k3) (nums_then H3.out.2 k4 k5))
            clear k1 k2 k3 k4 k5 H3 hnm
            obtain ⟨q0, q1, q2, q3, q4⟩ := H4.out.1.rs.box.cells
            obtain ⟨c0, c1, c2, c3, c4, c5⟩ := H4.out.1.bx.cells
            have fq2 := H4.out.1.rs.box.frozen 2
            have f1 := H4.out.1.bx.frozen 1
            have f2 := H4.out.1.bx.frozen 2
            go_upto_region 25 with fail
            obtain ⟨k1, k2⟩ := H4.out.1.ints [v1, v2] #[.int .i64 v1, .int .i64 v2] rfl 2 rfl
            obtain ⟨w6, hw6⟩ : ∃ w6, w6 = (w4.setCell ⟨nb, 1, none⟩ (.slice (some ⟨w4.heap.size, 0, none⟩) 2 2)).alloc (.cells #[.int .i64 v1, .int .i64 v2] 3) := ⟨_, rfl⟩
            rw [← hw6] at k1 k2 ⊢
            have H6 := Lib.hid (And.intro k1 (And.intro k2 (show NmS ws (i + 1) 2 [v1, v2] j2 b2 from H4.out.2)))
            clear k1 k2 H4 hw6
            clear q0 q1 q2 q3 q4 c0 c1 c2 c3 c4 c5 fq2 f1 f2
            have hin := H6.out.1.inner HS.out.2.2.2.2.2.1 HS.out.2.2.1 (by have := HS.out.2.2.2.1; omega)
            have hfin := fun e w1 ho => in_one (k := k) (e := e) (w1 := w1) H6.out.1 HD.out (fun hb => by rw [headO_shift E3.out, H6.out.2.2.1 hb]; rfl) (fun hb => by rw [HD.out]; exact refE_head_no (by rw [headO_shift E3.out, H6.out.2.2.2 hb]; rfl)) (fun _ => H6.out.2.1) (fun _ => RdL.nil _ _) ho
            have HFN := Lib.hid hfin
            clear hfin
            go_wp2_with fail
            refine hin.mono ?_
            intro e wz ho
            have HF := Lib.hid (HFN.out e wz ho)
            obtain ⟨rfl, -⟩ := ho
            clear HFN hin
            go_wp2_with fail
            go_meet
            exact HF
          · have t3 := word_no e3
            by_cases e4 : s = txt [116, 117, 114, 110]
            · have t4 := word_yes e4
              have E4 := Lib.hid e4
              clear e1 e2 e3 e4 q0 q1 q2 q3 q4 c0 c1 c2 c3 c4 c5
              have hin := H2.out.1.inner HS.out.2.2.2.2.2.1 HS.out.2.2.1 (by have := HS.out.2.2.2.1; omega)
              have hfin := fun e w1 ho => in_one (k := k) (e := e) (w1 := w1) H2.out.1 HD.out (fun _ => by rw [headO_turn E4.out]) (fun hb => by cases hb) (fun _ => RdL.nil _ _) (fun _ => RdL.nil _ _) ho
              have HFN := Lib.hid hfin
              clear hfin
              go_wp2_with fail
              refine hin.mono ?_
              intro e wz ho
              have HF := Lib.hid (HFN.out e wz ho)
              obtain ⟨rfl, -⟩ := ho
              clear HFN hin
              go_wp2_with fail
              go_meet
              exact HF
            · have t4 := word_no e4
              by_cases e5 : s = txt [109, 105, 114, 114, 111, 114]
              · have t5 := word_yes e5
                have E5 := Lib.hid e5
                clear e1 e2 e3 e4 e5 q0 q1 q2 q3 q4 c0 c1 c2 c3 c4 c5
                have hin := H2.out.1.inner HS.out.2.2.2.2.2.1 HS.out.2.2.1 (by have := HS.out.2.2.2.1; omega)
                have hfin := fun e w1 ho => in_one (k := k) (e := e) (w1 := w1) H2.out.1 HD.out (fun _ => by rw [headO_mirror E5.out]) (fun hb => by cases hb) (fun _ => RdL.nil _ _) (fun _ => RdL.nil _ _) ho
                have HFN := Lib.hid hfin
                clear hfin
                go_wp2_with fail
                refine hin.mono ?_
                intro e wz ho
                have HF := Lib.hid (HFN.out e wz ho)
                obtain ⟨rfl, -⟩ := ho
                clear HFN hin
                go_wp2_with fail
                go_meet
                exact HF
              · have t5 := word_no e5
                by_cases e6 : s = txt [114, 101, 99, 111, 108, 111, 114]
                · have t6 := word_yes e6
                  have E6 := Lib.hid e6
                  clear e1 e2 e3 e4 e5 e6 q0 q1 q2 q3 q4 c0 c1 c2 c3 c4 c5
                  have hnx := rnext_any B w2 rb wv av ws (i + 1) false H2.out.1.rs
                  go_wp2_with fail
                  refine hnx.mono ?_
                  rintro e w3 ⟨x, j1, b1, rfl, k1, k2, k3, k4, k5, k6⟩
                  have H3 := Lib.hid (And.intro (H2.out.1.step k2 k1 k3) (And.intro k4 (show (b1 = false → ws.drop (i + 1) = x :: ws.drop j1) ∧ (b1 = true → ws.drop (i + 1) = []) from ⟨fun hb => (k5 hb).2.2, fun hb => k6 rfl hb⟩)))
                  have hdg := rdig_any B w3 rb wv av ws j1 b1 k1 x (by omega)
                  clear k1 k2 k3 k4 k5 k6 hnx H2
                  go_wp2_with fail
                  refine hdg.mono ?_
                  rintro e w4 ⟨v, l, rfl, k1, k2, k3, k4⟩
                  obtain ⟨A9, c9, e9, -⟩ := k1.isL
                  obtain ⟨l9, hl9⟩ : ∃ l9, l9 = l.length := ⟨_, rfl⟩
                  rw [← hl9] at e9
                  subst e9
                  have hlx : (digL x).length = x.size := by unfold digL; rw [List.length_map]; rfl
                  by_cases hgood : x.size = 8 ∧ DigT x
                  · rcases k4 with ⟨k4, rfl, k5⟩ | ⟨k4, -⟩
                    · have k7 := H3.out.1.step k3 k5 (Nat.le_refl _)
                      obtain ⟨k8, k9⟩ := k7.digs k1 H3.out.1.bx.lt
                      obtain ⟨q0, q1, q2, q3, q4⟩ := k7.rs.box.cells
                      obtain ⟨c0, c1, c2, c3, c4, c5⟩ := k7.bx.cells
                      have f2 := k7.bx.frozen 2
                      have hl8 : l9 = 8 := by rw [hl9, hlx]; exact hgood.1
                      subst hl8
                      have H8 := Lib.hid (And.intro k8 (And.intro k9 hgood))
                      clear k1 k2 k3 k4 k5 k7 k8 k9 hdg hl9 hlx hgood
                      go_upto_region 33 with fail
                      obtain ⟨w8, hw8⟩ : ∃ w8, w8 = w4.setCell ⟨nb, 2, none⟩ (.slice A9 8 c9) := ⟨_, rfl⟩
                      rw [← hw8] at H8 ⊢
                      clear hw8 q0 q1 q2 q3 q4 c0 c1 c2 c3 c4 c5 f2
                      have hin := H8.out.1.inner HS.out.2.2.2.2.2.1 HS.out.2.2.1 (by have := HS.out.2.2.2.1; omega)
                      have hfin := fun e w1 ho => in_one (k := k) (e := e) (w1 := w1) H8.out.1 HD.out (fun hb => by rw [H3.out.2.2.1 hb, headO_recolor E6.out, if_pos H8.out.2.2]) (fun hb => by rw [HD.out]; exact refE_head_no (by rw [H3.out.2.2.2 hb, headO_recolor0 E6.out])) (fun _ => RdL.nil _ _) (fun _ => H8.out.2.1) ho
                      have HFN := Lib.hid hfin
                      clear hfin
                      go_wp2_with fail
                      refine hin.mono ?_
                      intro e wz ho
                      have HF := Lib.hid (HFN.out e wz ho)
                      obtain ⟨rfl, -⟩ := ho
                      clear HFN hin
                      go_wp2_with fail
                      go_meet
                      exact HF
                    · exact absurd hgood.2 k4
                  · have hh8 : l9 ≠ 8 := by
                      rcases k4 with ⟨k4, rfl, -⟩ | ⟨-, ⟨rfl, -⟩, -⟩
                      · intro e; exact hgood ⟨by rw [← hlx, ← hl9, e], k4⟩
                      · intro e; rw [hl9] at e; simp at e
                    obtain ⟨bq, hbq⟩ : ∃ bq, RS B w4 rb wv ws j1 bq av := by
                      rcases k4 with ⟨-, -, k5⟩ | ⟨-, -, k5⟩
                      · exact ⟨_, k5⟩
                      · exact ⟨_, k5⟩
                    have k7 := H3.out.1.step k3 hbq (Nat.le_refl _)
                    obtain ⟨k8, -⟩ := k7.digs k1 H3.out.1.bx.lt
                    obtain ⟨q0, q1, q2, q3, q4⟩ := k7.rs.box.cells
                    obtain ⟨c0, c1, c2, c3, c4, c5⟩ := k7.bx.cells
                    have f2 := k7.bx.frozen 2
                    have H8 := Lib.hid (And.intro k8 (show refE (k + 1) (ws.drop i) = none by
                      rw [HD.out]
                      refine refE_head_no ?_
                      cases b1 with
                      | true => rw [H3.out.2.2.2 rfl, headO_recolor0 E6.out]
                      | false => rw [H3.out.2.2.1 rfl, headO_recolor E6.out, if_neg hgood]))
                    clear k1 k2 k3 k4 k7 k8 hdg hl9 hlx hgood hbq
                    go_upto_region 31 with fail
                    obtain ⟨w8, hw8⟩ : ∃ w8, w8 = w4.setCell ⟨nb, 2, none⟩ (.slice A9 l9 c9) := ⟨_, rfl⟩
                    rw [← hw8] at H8 ⊢
                    clear hw8 q0 q1 q2 q3 q4 c0 c1 c2 c3 c4 c5 f2
                    have d8 : ((l9 : Int) == 8) = false := by rw [beq_eq_false_iff_ne]; omega
                    have d9 : ((l9 : Int) != 8) = true := by rw [bne, d8]; rfl
                    obtain ⟨q0, q1, q2, q3, q4⟩ := H8.out.1.rs.box.cells
                    obtain ⟨c0, c1, c2, c3, c4, c5⟩ := H8.out.1.bx.cells
                    have fq2 := H8.out.1.rs.box.frozen 2
                    have f1 := H8.out.1.bx.frozen 1
                    have f2 := H8.out.1.bx.frozen 2
                    go_upto_region 33 with fail
                    have k9 := set_grown w8 rb 2 (.bool true) (fun hg => H8.out.1.step hg (H8.out.1.rs.step hg (H8.out.1.rs.box.set2 true) H8.out.1.rs.le) (Nat.le_refl _))
                    obtain ⟨w9, hw9⟩ : ∃ w9, w9 = w8.setCell ⟨rb, 2, none⟩ (.bool true) := ⟨_, rfl⟩
                    rw [← hw9] at k9 ⊢
                    have H9 := Lib.hid k9
                    clear hw9 k9 hh8 d8 d9
                    clear q0 q1 q2 q3 q4 c0 c1 c2 c3 c4 c5 fq2 f1 f2
                    have hin := H9.out.inner HS.out.2.2.2.2.2.1 HS.out.2.2.1 (by have := HS.out.2.2.2.1; omega)
                    have hfin := fun e w1 ho => in_one (n := []) (d := []) (k := k) (e := e) (w1 := w1) H9.out HD.out (fun hb => by cases hb) (fun _ => H8.out.2) (fun hb => by cases hb) (fun hb => by cases hb) ho
                    have HFN := Lib.hid hfin
                    clear hfin
                    go_wp2_with fail
                    refine hin.mono ?_
                    intro e wz ho
                    have HF := Lib.hid (HFN.out e wz ho)
                    obtain ⟨rfl, -⟩ := ho
                    clear HFN hin
                    go_wp2_with fail
                    go_meet
                    exact HF
                · have t6 := word_no e6
                  by_cases e7 : s = txt [111, 118, 101, 114]
                  · have t7 := word_yes e7
                    have E7 := Lib.hid e7
                    clear e1 e2 e3 e4 e5 e6 e7 q0 q1 q2 q3 q4 c0 c1 c2 c3 c4 c5
                    have hin := H2.out.1.inner HS.out.2.2.2.2.2.1 HS.out.2.2.1 (by have := HS.out.2.2.2.1; omega)
                    go_wp2_with fail
                    refine hin.mono ?_
                    rintro e w3 ⟨rfl, j1, b1, av1, m1, pv1, dk1, g1, g2, g3, g4, g5, g6, g7, g8, g9, g10, g11⟩
                    clear hin
                    obtain ⟨q0, q1, q2, q3, q4⟩ := g1.box.cells
                    cases b1 with
                    | true =>
                      have HF := Lib.hid (in_stop (k := k) H2.out.1 g1 g2 g3 g4 g5 g7 g8 g9 (by rw [HD.out]; exact refE_parts_no (headO_over E7.out) (parts2_no1 (g10 rfl rfl))))
                      clear g1 g2 g3 g4 g5 g6 g7 g8 g9 g10 g11
                      go_wp2_with fail
                      go_meet
                      exact HF
                    | false =>
                      obtain ⟨-, x, L1, N', y1, y2, y3, y4, y5, y6, y7, y8⟩ := g11 rfl
                      have hin := in_next (w1 := w3) H2.out.1 HS.out.2.2.2.2.2.1 HS.out.2.2.1 (by have := HS.out.2.2.2.1; omega) g1 g2 g3 g5 g7 (by omega) y3 y4 y5 y6 y7 (by simp)
                      have HFN := Lib.hid (fun e w2' ho => in_two (k := k) (n := []) (d := []) (e := e) (w2 := w2') H2.out.1 HD.out (headO_over E7.out) (RdL.nil _ _) (RdL.nil _ _) g2 g3 g4 g5 g6 y1 y2 y3 y4 y8 (by omega) ho)
                      clear g1 g2 g3 g4 g5 g6 g7 g8 g9 g10 g11 y1 y2 y3 y4 y5 y6 y7 y8
                      go_wp2_with fail
                      refine hin.mono ?_
                      intro e wz ho
                      have HF := Lib.hid (HFN.out e wz ho)
                      obtain ⟨rfl, -⟩ := ho
                      clear HFN hin
                      go_wp2_with fail
                      go_meet
                      exact HF
                  · have t7 := word_no e7
                    by_cases e8 : s = txt [115, 119, 101, 108, 108]
                    · have t8 := word_yes e8
                      have E8 := Lib.hid e8
                      clear e1 e2 e3 e4 e5 e6 e7 e8 q0 q1 q2 q3 q4 c0 c1 c2 c3 c4 c5
                      have hnm := rnum_any B w2 rb wv av ws (i + 1) false H2.out.1.rs
                      go_wp2_with fail
                      refine hnm.mono ?_
                      rintro e w3 ⟨v1, j1, b1, rfl, k1, k2, k3, ⟨v0v1, v1v1⟩, k4, k5⟩
                      have H3 := Lib.hid (And.intro (H2.out.1.step k2 k1 k3) (nums_then H2.out.2 k4 k5))
                      clear k1 k2 k3 k4 k5 H2 hnm
                      obtain ⟨q0, q1, q2, q3, q4⟩ := H3.out.1.rs.box.cells
                      obtain ⟨c0, c1, c2, c3, c4, c5⟩ := H3.out.1.bx.cells
                      have fq2 := H3.out.1.rs.box.frozen 2
                      have f1 := H3.out.1.bx.frozen 1
                      have f2 := H3.out.1.bx.frozen 2
                      go_upto_region 40 with fail
                      obtain ⟨k1, k2⟩ := H3.out.1.ints [v1] #[.int .i64 v1] rfl 1 rfl
                      obtain ⟨w6, hw6⟩ : ∃ w6, w6 = (w3.setCell ⟨nb, 1, none⟩ (.slice (some ⟨w3.heap.size, 0, none⟩) 1 1)).alloc (.cells #[.int .i64 v1] 3) := ⟨_, rfl⟩
                      rw [← hw6] at k1 k2 ⊢
                      have H6 := Lib.hid (And.intro k1 (And.intro k2 (show NmS ws (i + 1) 1 [v1] j1 b1 from H3.out.2)))
                      clear k1 k2 H3 hw6
                      clear q0 q1 q2 q3 q4 c0 c1 c2 c3 c4 c5 fq2 f1 f2
                      have hin := H6.out.1.inner HS.out.2.2.2.2.2.1 HS.out.2.2.1 (by have := HS.out.2.2.2.1; omega)
                      have hfin := fun e w1 ho => in_one (k := k) (e := e) (w1 := w1) H6.out.1 HD.out (fun hb => by rw [headO_swell E8.out, H6.out.2.2.1 hb]; rfl) (fun hb => by rw [HD.out]; exact refE_head_no (by rw [headO_swell E8.out, H6.out.2.2.2 hb]; rfl)) (fun _ => H6.out.2.1) (fun _ => RdL.nil _ _) ho
                      have HFN := Lib.hid hfin
                      clear hfin
                      go_wp2_with fail
                      refine hin.mono ?_
                      intro e wz ho
                      have HF := Lib.hid (HFN.out e wz ho)
                      obtain ⟨rfl, -⟩ := ho
                      clear HFN hin
                      go_wp2_with fail
                      go_meet
                      exact HF
                    · have t8 := word_no e8
                      have fq2 := H2.out.1.rs.box.frozen 2
                      have k9 := set_grown w2 rb 2 (.bool true) (fun hg => H2.out.1.step hg (H2.out.1.rs.step hg (H2.out.1.rs.box.set2 true) H2.out.1.rs.le) (Nat.le_refl _))
                      have HF := Lib.hid (k9.fail (k := k) (by rw [HD.out]; exact refE_head_no (headO_none e1 e2 e3 e8 e4 e5 e6 e7)))
                      clear e1 e2 e3 e4 e5 e6 e7 e8 k9 H2
                      go_wp2_with fail
                      go_meet
                      exact HF
    case rest =>
      clear q0 q1 q2 q3 q4 c0 c1 c2 c3 c4 c5 hnl H2
      obtain ⟨j, b, av2, m, nv, dv, pv, dk, g1, g2, g3, g4, g5, g6, g7, g8, g9, g10, g11⟩ := hcut.out
      obtain ⟨⟨An, ln, cn, rfl⟩, ⟨Ad, ld, cd, rfl⟩, ⟨Ap, lp, cp, rfl⟩⟩ := g8
      obtain ⟨cs, hcs⟩ := g2
      obtain ⟨Aa, la, ca, hav2⟩ : ∃ A l c, av2 = .slice A l c := own_slice hcs
      obtain ⟨q0, q1, q2, q3, q4⟩ := g1.box.cells
      obtain ⟨c0, c1, c2, c3, c4, c5⟩ := g7.cells
      have fq2 := g1.box.frozen 2
      have HX := Lib.hid (And.intro g1 (And.intro (show ∃ cs, wc.ownsRow B 87 5 av2 m cs from ⟨cs, hcs⟩) (And.intro g3 (And.intro g4 (And.intro g5 (And.intro g7 (And.intro g10 g11)))))))
      have HG6 := Lib.hid g6
      clear hcut g1 g3 g4 g5 g6 g7 g10 g11
      go_upto_if 131 with fail
      go_cut [] (fun wx => Hid (FSt k B w rb wv av2 ws i j (fun b => b = rb ∨ av.ownBlock = some b) N L nb s m (.slice An ln cn) (.slice Ad ld cd) (.slice Ap lp cp) dk wx))
      case first =>
        by_cases hdk : dk ≤ 12
        · have HF := Lib.hid (show FSt k B w rb wv av2 ws i j (fun b => b = rb ∨ av.ownBlock = some b) N L nb s m (.slice An ln cn) (.slice Ad ld cd) (.slice Ap lp cp) dk wc by
            obtain ⟨g1, g2, g3, g4, g5, g7, g10, g11⟩ := HX.out
            refine ⟨b, g1, g2, g4, g7, g10, fun hb => ?_⟩
            obtain ⟨x, L1, nd, N', y1, y2, y3, y4, y5, y6, y7, y8⟩ := g11 hb
            exact ⟨x, L1, nd, N', by rw [y1, if_pos (by omega)], y2, y3, y4, ⟨y5.1, y5.2.1, by omega⟩, y6, y7, y8⟩)
          clear HX
          go_wp2_with fail
          go_meet
          exact HF
        · have HF := Lib.hid (show FSt k B w rb wv av2 ws i j (fun b => b = rb ∨ av.ownBlock = some b) N L nb s m (.slice An ln cn) (.slice Ad ld cd) (.slice Ap lp cp) dk (wc.setCell ⟨rb, 2, none⟩ (.bool true)) by
            obtain ⟨g1, ⟨cs, g2⟩, g3, g4, g5, g7, g10, g11⟩ := HX.out
            refine set_grown wc rb 2 (.bool true) (fun hg => ⟨true, g1.step hg (g1.box.set2 true) g1.le, ⟨cs, own_by g2 (fun g e => hg.block g (World.ownsRow.lt g2 g e).2 (fun e2 => by cases e2; exact own_ge g2 hBw.1 e))⟩, g4.trans (Y := fun b => b = rb) (Fr.of_grown hg (fun b e _ => by cases e; rfl)) (fun b _ e => .inl e), (hg.block nb g7.lt (fun e => by cases e; omega)).trans g7, fun _ => ?_, fun hb => by cases hb⟩)
            cases b with
            | true => exact g10 rfl
            | false =>
              obtain ⟨x, L1, nd, N', y1, y2, y3, y4, y5, y6, y7, y8⟩ := g11 rfl
              rw [y1, if_neg (by omega)])
          clear HX
          go_wp2_with fail
          go_meet
          exact HF
      case rest =>
        clear q0 q1 q2 q3 q4 c0 c1 c2 c3 c4 c5 fq2
        have HX2 := Lib.hid (And.intro HX.out.2.2.1 HX.out.2.2.2.2.1)
        clear HX hcs cs
        obtain ⟨b', g1, ⟨cs, hcs⟩, g4, g7, -⟩ := id hcut.out
        obtain ⟨q0, q1, q2, q3, q4⟩ := g1.box.cells
        obtain ⟨c0, c1, c2, c3, c4, c5⟩ := g7.cells
        have fq3 := g1.box.frozen 3
        obtain ⟨pg, hpg⟩ : ∃ pg, pg = (match av2.ownBlock with | some g => g | none => wc.heap.size) := ⟨_, rfl⟩
        have hpe : ∀ g, av2.ownBlock = some g → g = pg := fun g e => by rw [hpg, e]
        have hp1 : rb ≠ pg := by
          rw [hpg]
          split
          · rename_i g e; intro e2; exact own_ge hcs hBw.1 (by rw [e, e2])
          · omega
        have hp2 : nb ≠ pg := by
          rw [hpg]
          split
          · rename_i g e; intro e2; exact HG6.out (by rw [e, e2])
          · omega
        have HPE := Lib.hid hpe
        have HCS := Lib.hid (And.intro hcs g1)
        have hm6 : m ≤ 1000000 := by
          have h1 := g1.le
          have h2 := g1.md.1
          have h3 := HX2.out.1
          have h4 := HS.out.2.2.1
          omega
        have hBc : B ≤ wc.heap.size := by have := g4.size; omega
        clear hpg hpe hcs g1 g4 g7
        go_upto_region 43 with fail
        refine RP.region_treeV (C := fun w' => ∃ x : SubP pg wc.heap.size wc, w' = x.val) (fun _ _ _ => False) [0, 1, 5] (.read 2 (.read 3 (.read 4 (.one 6 (.one 7 (.one 8 (.one 9 .nil))))))) 10 (fun _ _ _ h => h.elim) (by kernel_rfl) (by kernel_rfl) (subp_start _ _ wc) ?_
        simp only [pickL, List.getElem?_cons_zero, List.getElem?_cons_succ]
        repeat (go_big_quiet_step (fail))
        refine wpQuiet_nil ?_
        obtain ⟨w5, hw5⟩ : ∃ w5 : World, w5 = { wc with drawn := wc.drawn + 1 } := ⟨_, rfl⟩
        have hb5 : Below wc.heap.size wc w5 := by rw [hw5]; exact (Below.refl _ _).drew
        rw [← hw5]
        simp only [RP.treeS, atOp, List.getElem?_cons_zero, List.getElem?_cons_succ]
        refine ⟨subp_low (grown_of hb5 _) (Nat.le_refl _), ?_⟩
        refine ⟨_, s_read (.pointer (some ⟨rb, 0, none⟩)) rfl (fun w hw => by obtain ⟨x, rfl⟩ := hw; go_simp), subp_low (grown_of hb5 _) (Nat.le_refl _), ?_⟩
        refine ⟨_, s_read (.pointer (some ⟨rb, 3, none⟩)) rfl (fun w hw => by obtain ⟨x, rfl⟩ := hw; go_simp), subp_low (grown_of hb5 _) (Nat.le_refl _), ?_⟩
        refine ⟨_, s_read av2 rfl (fun w hw => by obtain ⟨x, rfl⟩ := hw; go_simp), subp_low (grown_of hb5 _) (Nat.le_refl _), ?_⟩
        have hb6 := below_new w5 (.cells #[.string s, .slice An ln cn, .slice Ad ld cd, .slice Ap lp cp, .int .i64 dk] 87)
        have hb6' := hb5.trans (hb6.mono hb5.size)
        refine RP.p_val (.slice (some ⟨w5.heap.size, 0, none⟩) 1 1) (w5.alloc (.cells #[.string s, .slice An ln cn, .slice Ad ld cd, .slice Ap lp cp, .int .i64 dk] 87)) rfl (by go_simp) ?_
        refine ⟨subp_low (grown_of hb6' _) (Nat.le_refl _), ?_⟩
        have hcs5 : w5.ownsRow B 87 5 av2 m cs := own_by HCS.out.1 (fun g e => hb5.block g (World.ownsRow.lt HCS.out.1 g e).2)
        obtain ⟨v', w7, a1, a2, a3, a4⟩ := ap_node w5 81 B av2 m cs (.string s) (.slice An ln cn) (.slice Ad ld cd) (.slice Ap lp cp) (.int .i64 dk) rfl rfl rfl rfl rfl hcs5 hm6 (Nat.le_trans hBc hb5.size)
        have hC7 : ∃ x : SubP pg wc.heap.size wc, w7 = x.val := ⟨⟨w7, fun b h1 h2 => (a3.block b (Nat.lt_of_lt_of_le h1 hb5.size) (fun e => h2 (HPE.out b e.symm))).trans (hb5.block b h1)⟩, rfl⟩
        refine RP.p_val v' w7 rfl (ap_exec (.tmp 139) (.tmp 141) 81 rfl av2 (.slice (some ⟨w5.heap.size, 0, none⟩) 1 1) _ w7 rfl rfl a1) ?_
        refine ⟨hC7, ?_⟩
        obtain ⟨g7, c7, rfl⟩ := own_some a2 (by omega)
        have hbx7 : RBox w7 rb wv j b' av2 := (a3.block rb (Nat.lt_of_lt_of_le q4 hb5.size) (fun e => hp1 (HPE.out rb e.symm))).trans ((hb5.block rb q4).trans HCS.out.2.box)
        have hfin := fst_end (k := k) (i := i) (av := av) (N := N) (L := L) (v' := .slice (some ⟨g7, 0, none⟩) (m + 1) c7) hcut.out HX2.out.1 HX2.out.2 hBw HS.out.2.2.2.2.1 HCS.out.1 a2 (grown_then (grown_of hb5 _) a3) (by
          rcases a4 with a4 | a4
          · exact .inl a4
          · exact .inr ⟨_, a4, by have := hb5.size; omega⟩)
        have HF := Lib.hid (And.intro hfin (hbx7.set3 (.slice (some ⟨g7, 0, none⟩) (m + 1) c7)))
        obtain ⟨z0, z1, z2, z3, z4⟩ := hbx7.cells
        have fz3 := hbx7.frozen 3
        clear hbx7 hfin a1 a2 a3 a4 hb6 hb6' hcs5 q0 q1 q2 q3 c0 c1 c2 c3 c4 c5 fq3 hb5
        refine RP.p_val (.pointer (some ⟨rb, 0, none⟩)) w7 rfl (by go_simp) ?_
        refine ⟨hC7, ?_⟩
        refine RP.p_val (.pointer (some ⟨rb, 3, none⟩)) w7 rfl (by go_simp) ?_
        refine ⟨hC7, ?_⟩
        refine RP.p_skip (w7.setCell ⟨rb, 3, none⟩ (.slice (some ⟨g7, 0, none⟩) (m + 1) c7)) rfl (by go_simp) ?_
        obtain ⟨w8, hw8⟩ : ∃ w8, w8 = w7.setCell ⟨rb, 3, none⟩ (.slice (some ⟨g7, 0, none⟩) (m + 1) c7) := ⟨_, rfl⟩
        rw [← hw8] at HF ⊢
        clear hw8 z0 z1 z2 z3 z4 fz3 hC7
        obtain ⟨z0, z1, z2, z3, z4⟩ := HF.out.2.cells
        have HF1 := Lib.hid HF.out.1
        clear HF HCS hcut HX2
        go_simp
        go_wp2
        go_ret
        exact HF1.out
/-- The reference's expression, for words of any number. -/
theorem expr_ref (B rb : Nat) (wv : Value) (ws : List ByteArray) : ∀ k, ExprC k B rb wv ws
  | 0 => fun w av i N L _ _ _ hk _ => by omega
  | k + 1 => ref_expr k B rb wv ws (expr_ref B rb wv ws k)
end Go.Proofs.YtlinldbbhdpgcaaGreatDoor
