/-
  THE REFERENCE's Parse, of any text.
-/
import Derived.Test.YtlinldbbhdpgcaaGreatDoorPrsB
import Derived.Deep.CutBlock
import Derived.Deep.DeepMust
namespace Go.Proofs.YtlinldbbhdpgcaaGreatDoor
open Go.RowKit
attribute [local go_sem] subp_cell
attribute [local irreducible] RP.plainUpon RP.stepC
theorem evN_o {s : ByteArray} {n d : List Int} (h1 : ¬ (s = txt [103, 114, 105, 100] ∨ s = txt [98, 114, 105, 99, 107, 115])) (h2 : ¬ s = txt [111, 118, 101, 114]) (D : List PatD) (q k : Nat) : evN D ⟨s, n, d, [(q : Int)], k⟩ = oneV s n d (D.getD q zeroP) := by
  unfold evN
  simp only
  rw [if_neg h1, if_neg h2]
  rfl
/-- While the nodes are done: D are the patterns of those before k. -/
structure PLp (w W wr : World) (rb : Nat) (g : Nat) (ns : List NodeD) (k : Nat) (v : Value) (D : List (PatD × Value)) : Prop where
  r : PBox wr rb 0 0 0 (.slice none 0 0)
  b : Below w.heap.size w wr
  bW : Below W.heap.size W wr
  o : PsO wr g v D
  len : D.length = k
  sz : ∀ p ∈ D, p.1.xs.length ≤ 144
  run : runN [] ns = runN (D.map Prod.fst) (ns.drop k)
  ow : ∀ p ∈ D, OwnI wr g p.2 p.1.xs ∧ ∀ q, p.2.ownBlock = some q → v.ownBlock ≠ some q
  hg : w.heap.size ≤ g ∧ rb < g ∧ g = W.heap.size
set_option maxRecDepth 100000 in
set_option maxHeartbeats 40000000 in
theorem rparse_any (s : ByteArray) (hs : s.size ≤ 10000) (w : World) :
    Calls Tryz.prog 20 #[.string s] w (OutP w (prsT s).1 (.int .i64 (prsT s).2)) := by
  have HMO := Lib.hid (words_mod s hs)
  obtain ⟨PF, hP⟩ : ∃ PF, PF = (prsT s).1 := ⟨_, rfl⟩
  obtain ⟨ZF, hZ⟩ : ∃ ZF, ZF = (prsT s).2 := ⟨_, rfl⟩
  rw [← hP, ← hZ]
  have HPZ := Lib.hid (And.intro hP hZ)
  clear hP hZ
  by_cases hbig : 4000 < s.size
  · have HB := Lib.hid (show PF = zeroP ∧ ZF = 4 by rw [HPZ.out.1, HPZ.out.2, prsT_big hbig]; exact ⟨rfl, rfl⟩)
    have HP := Lib.hid (put_zero (w := w) (PBox.new w 0 0 0 (.slice none 0 0)) (show Below w.heap.size w (w.alloc (.cells #[.int .i64 0, .int .i64 0, .int .i64 0, .slice none 0 0] 24)) from (by repeat' (first | (with_reducible exact Below.refl _ _) | (with_reducible assumption) | (with_reducible refine below_drewN ?_ _) | (with_reducible refine below_step (by assumption) ?_ ?_) | (with_reducible refine Below.alloc ?_ ?_ _) | (with_reducible refine Below.setCell ?_ ?_ _) | (with_reducible refine Below.drew ?_) | go_size | (exact Below.size (by assumption)) | (refine Nat.le_trans (Below.size (by assumption)) ?_)))) (Nat.le_refl _))
    clear HMO HPZ
    go_enter Tryz.func20, Tryz.ntmps20
    go_upto_region 1 with fail
    have hr0 : PBox (w.alloc (.cells #[.int .i64 0, .int .i64 0, .int .i64 0, .slice none 0 0] 24)) w.heap.size 0 0 0 (.slice none 0 0) := PBox.new w _ _ _ _
    obtain ⟨W, hW⟩ : ∃ W, W = w.alloc (.cells #[.int .i64 0, .int .i64 0, .int .i64 0, .slice none 0 0] 24) := ⟨_, rfl⟩
    rw [← hW] at hr0 HP ⊢
    clear hW
    obtain ⟨r0, r1, r2, r3, r4⟩ := PBox.cells hr0
    have f0 : (W).frozen? ⟨w.heap.size, 0, none⟩ = false := frozen_of_row (W) (w.heap.size) 0 _ _ hr0
    have f1 : (W).frozen? ⟨w.heap.size, 1, none⟩ = false := frozen_of_row (W) (w.heap.size) 1 _ _ hr0
    have f2 : (W).frozen? ⟨w.heap.size, 2, none⟩ = false := frozen_of_row (W) (w.heap.size) 2 _ _ hr0
    have f3 : (W).frozen? ⟨w.heap.size, 3, none⟩ = false := frozen_of_row (W) (w.heap.size) 3 _ _ hr0
    go_wp2
    refine bodyPost_ret (v := .tuple #[.agg #[.int .i64 0, .int .i64 0, .int .i64 0, .slice none 0 0], .int .i64 4]) (ret_pat2 rfl rfl rfl HP.out.1) rfl ?_
    rw [HB.out.1, HB.out.2]
    exact OutP.zero HP.out.2
  · have HB := Lib.hid hbig
    go_enter Tryz.func20, Tryz.ntmps20
    go_wp2_with fail
    have hr0 : PBox (w.alloc (.cells #[.int .i64 0, .int .i64 0, .int .i64 0, .slice none 0 0] 24)) w.heap.size 0 0 0 (.slice none 0 0) := PBox.new w _ _ _ _
    have hb0 : Below w.heap.size w (w.alloc (.cells #[.int .i64 0, .int .i64 0, .int .i64 0, .slice none 0 0] 24)) := (by repeat' (first | (with_reducible exact Below.refl _ _) | (with_reducible assumption) | (with_reducible refine below_drewN ?_ _) | (with_reducible refine below_step (by assumption) ?_ ?_) | (with_reducible refine Below.alloc ?_ ?_ _) | (with_reducible refine Below.setCell ?_ ?_ _) | (with_reducible refine Below.drew ?_) | go_size | (exact Below.size (by assumption)) | (refine Nat.le_trans (Below.size (by assumption)) ?_)))
    obtain ⟨W, hW⟩ : ∃ W, W = w.alloc (.cells #[.int .i64 0, .int .i64 0, .int .i64 0, .slice none 0 0] 24) := ⟨_, rfl⟩
    rw [← hW] at hr0 hb0 ⊢
    refine (split_any s 32 (by omega) W).mono ?_
    rintro e w1 ⟨A, c, xs, rfl, hxs, hsp, hb1⟩
    obtain rfl := words_of_split hsp
    obtain ⟨b, o, rfl, hbl, hc⟩ := hxs.2 (words_ne s)
    have H1 := Lib.hid (And.intro (hr0.keep hb1) (hb0.trans (hb1.mono hb0.size)))
    have hs0 := (Array.getElem?_eq_some_iff.1 (H1.out.1)).1
    clear hr0 hb0 hb1 hsp hW hxs
    obtain ⟨n, hn⟩ : ∃ n, n = (wordsS s).length := ⟨_, rfl⟩
    rw [← hn]
    have HNN := Lib.hid hn
    clear hn
    go_upto_region 4 with fail
    have hn := HNN.out
    have hb2 := below_new w1 (.cells #[.slice (some ⟨b, o, none⟩) n c, .int .i64 ((0 : Nat) : Int), .bool false, .slice none 0 0] 83)
    have hx2 : RBox (w1.alloc (.cells #[.slice (some ⟨b, o, none⟩) n c, .int .i64 ((0 : Nat) : Int), .bool false, .slice none 0 0] 83)) w1.heap.size (.slice (some ⟨b, o, none⟩) n c) 0 false (.slice none 0 0) := heap_alloc_new w1 _
    obtain ⟨w2, hw2⟩ : ∃ w2, w2 = w1.alloc (.cells #[.slice (some ⟨b, o, none⟩) n c, .int .i64 ((0 : Nat) : Int), .bool false, .slice none 0 0] 83) := ⟨_, rfl⟩
    change Code.wp _ _ _ _ (w1.alloc (.cells #[.slice (some ⟨b, o, none⟩) n c, .int .i64 ((0 : Nat) : Int), .bool false, .slice none 0 0] 83))
    rw [← hw2] at hb2 hx2 ⊢
    have hrb2 : w1.heap.size < w2.heap.size := by rw [hw2]; simp
    obtain ⟨rb, hrb⟩ : ∃ rb, rb = w1.heap.size := ⟨_, rfl⟩
    rw [← hrb] at hx2 hrb2 ⊢
    have hRS : RS (rb + 1) w2 rb (.slice (some ⟨b, o, none⟩) n c) (wordsS s) 0 false (.slice none 0 0) :=
      ⟨hx2, ⟨b, o, c, by rw [hn], by omega, by omega, fun k hk => (hb2.cell (p := ⟨b, _, none⟩) hbl).trans (hc k hk)⟩, ⟨by omega, by omega⟩, Nat.zero_le _, HMO.out⟩
    have hNS : NsO (rb + 1) w2 (.slice none 0 0) (fun _ => False) [] := ⟨World.ownsRow_nil _ _ _ _, fun p hp => by simp at hp⟩
    have hex := expr_ref (rb + 1) rb (.slice (some ⟨b, o, none⟩) n c) (wordsS s) (n + 1) w2 (.slice none 0 0) 0 (fun _ => False) [] hRS hNS (Nat.le_refl _) (by rw [List.drop_zero]; omega) (fun h => h)
    have hr2 := H1.out.1.keep hb2
    have hbw2 := H1.out.2.trans (hb2.mono H1.out.2.size)
    have H2 := Lib.hid (And.intro hr2 hbw2)
    have hwr : w.heap.size < rb := by omega
    clear hb2 hw2 hrb hc hx2 hRS hNS hr2 hbw2 hn
    go_wp2_with fail
    have hn := HNN.out
    refine hex.mono ?_
    rintro e w3 ⟨q, j, bd, av, m, rfl, g1, g2, g3, g4, g5, g6, g7⟩
    clear hex
    have href : refE (n + 1) (wordsS s) = exprO 12 (wordsS s) := refE_eq HMO.out (by omega)
    have hf3 : Below rb w2 w3 := g4.below (by omega) (fun b e => by
      rcases e with e | e
      · omega
      · cases e)
    have hr3 : PBox w3 w.heap.size 0 0 0 (.slice none 0 0) := H2.out.1.below hf3 hwr
    have hb3 : Below w.heap.size w w3 := H2.out.2.trans (hf3.mono (by omega))
    obtain ⟨q0, q1, q2, q3, q4⟩ := g1.box.cells
    have hjl := g1.le
    rw [← hn] at hjl
    have H3 := Lib.hid (And.intro hr3 (And.intro hb3 (And.intro hn g1)))
    clear HNN
    have H67 := Lib.hid (show (bd = true → exprO 12 (wordsS s) = none) ∧ (bd = false → ∃ x L1, exprO 12 (wordsS s) = some (x, (wordsS s).drop j) ∧ L1.map Prod.fst = flatN 0 x ∧ NsO (rb + 1) w3 av (fun b => w2.heap.size ≤ b) L1 ∧ L1.length ≤ j) from
      ⟨fun hb => by rw [← href]; exact g6 hb, fun hb => by
        obtain ⟨x, L1, y1, y2, y3, -⟩ := g7 hb
        obtain ⟨cs, hcs⟩ := g2
        have hcc := own_cnt hcs y3.own
        simp only [List.nil_append, List.length_nil, Nat.add_zero, Nat.zero_add] at hcc g3
        exact ⟨x, L1, by rw [← href]; exact y1, y2, y3.to (fun b _ h => h.elim (fun h => h.elim) id), by omega⟩⟩)
    clear g1 g2 g3 g4 g5 g6 g7 href hf3 hr3 hb3 H2 H1 hn
    by_cases hgood : bd = false ∧ j = n
    · obtain ⟨rfl, rfl⟩ := hgood
      obtain ⟨x, L1, y1, y2, y3, y4⟩ := H67.out.2 rfl
      have hdn : (wordsS s).drop j = [] := by rw [List.drop_eq_nil_iff]; have := H3.out.2.2.1; omega
      rw [hdn] at y1
      have hgx := exprO_good 12 _ _ _ HMO.out y1
      have hv := prsT_yes HB.out y1
      rw [hv] at HPZ
      obtain ⟨M, hM⟩ : ∃ M, M = L1.length := ⟨_, rfl⟩
      have hMs : M = sizeE x := by
        have := congrArg List.length y2
        rw [List.length_map, flatN_len] at this
        omega
      have hM1 : 0 < M := by rw [hMs]; exact sizeE_pos x
      obtain ⟨ga, ca, hav, hga, hgb, -⟩ := y3.get 0 (by omega)
      rw [← hM] at hav
      subst hav
      have hM6 : M ≤ 1000000 := by
        have h1 := H3.out.2.2.2.md.1
        have h2 := H3.out.2.2.1
        omega
      have HNS := Lib.hid (And.intro y2 (And.intro y3 (And.intro hM hgx)))
      have R0 := Lib.hid (show ∃ D, PLp w w3 w3 w.heap.size w3.heap.size (flatN 0 x) 0 (.slice none 0 0) D from
        ⟨[], H3.out.1, H3.out.2.1, Below.refl _ _, PsO.nil _ _, rfl, by simp, rfl, by simp, H3.out.2.1.size, (Array.getElem?_eq_some_iff.1 H3.out.1).1, rfl⟩)
      have d1 : ((j : Int) == (j : Int)) = true := beq_iff_eq.2 rfl
      have d2 : ((j : Int) != (j : Int)) = false := by rw [bne, d1]; rfl
      have HRB := Lib.hid H3.out.2.2.2.box
      clear H67 y1 y2 y3 y4 hdn hgx hv hM hMs H3
      go_wp2
      go_loopw [5, 6] (fun v t wr => ∃ k : Nat, t = .int .i64 k ∧ k ≤ M ∧ Hid (∃ D, PLp w w3 wr w.heap.size w3.heap.size (flatN 0 x) k v D)) (fun _ t _ => M - (intOf t).toNat)
      case atStart => exact ⟨0, rfl, by omega, R0⟩
      case round =>
        as_aux_lemma =>
          obtain ⟨k, rfl, hk, hr⟩ := hrel
          clear R0 q0 q1 q2 q3 q4
          obtain ⟨D, hv⟩ := hr.out
          obtain ⟨q0, q1, q2, q3, q4⟩ := (HRB.out.keepB hv.bW).cells
          by_cases hlt : k < M
          · have hk1 : k < L1.length := by have := HNS.out.2.2.1; omega
            obtain ⟨ga', ca', e, -, -, n0, n1, n2, n3, n4⟩ := HNS.out.2.1.get k hk1
            cases e
            obtain ⟨hnv, hdv, hpv⟩ := HNS.out.2.1.rd L1[k] (List.getElem_mem hk1)
            obtain ⟨⟨nd, nv, dv, pv⟩, hnode⟩ : ∃ p, p = L1[k] := ⟨_, rfl⟩
            rw [← hnode] at n0 n1 n2 n3 n4 hnv hdv hpv
            simp only at n0 n1 n2 n3 n4 hnv hdv hpv
            have hwf := flat_wf x HNS.out.2.2.2 0 k nd (by rw [← HNS.out.1, List.getElem?_map, List.getElem?_eq_getElem hk1, ← hnode]; rfl)
            have hdrop : (flatN 0 x).drop k = nd :: (flatN 0 x).drop (k + 1) := by
              rw [← HNS.out.1]
              rw [List.drop_eq_getElem_cons (by rw [List.length_map]; exact hk1), List.getElem_map, ← hnode]
            obtain ⟨sN, nN, dN, pN, kN⟩ := nd
            simp only at n0 n1 n2 n3 n4 hnv hdv hpv
            obtain ⟨An, cn, rfl, -⟩ := id hnv
            obtain ⟨Ad, cd, rfl, -⟩ := id hdv
            obtain ⟨Ap, cp, rfl, -⟩ := id hpv
            have n0 := (hv.bW.cell (p := ⟨ga, k * 5, none⟩) hga).trans n0
            have n1 := (hv.bW.cell (p := ⟨ga, k * 5 + 1, none⟩) hga).trans n1
            have n2 := (hv.bW.cell (p := ⟨ga, k * 5 + 2, none⟩) hga).trans n2
            have n3 := (hv.bW.cell (p := ⟨ga, k * 5 + 3, none⟩) hga).trans n3
            have n4 := (hv.bW.cell (p := ⟨ga, k * 5 + 4, none⟩) hga).trans n4
            have hgr : ga < wr.heap.size := Nat.lt_of_lt_of_le hga hv.bW.size
            obtain ⟨ln, hln⟩ : ∃ ln, ln = nN.length := ⟨_, rfl⟩
            obtain ⟨ld, hld⟩ : ∃ ld, ld = dN.length := ⟨_, rfl⟩
            obtain ⟨lp, hlp⟩ : ∃ lp, lp = pN.length := ⟨_, rfl⟩
            obtain ⟨P, hP⟩ : ∃ P, P = (evN (D.map Prod.fst) ⟨sN, nN, dN, pN, kN⟩).1 := ⟨_, rfl⟩
            obtain ⟨Z, hZ⟩ : ∃ Z, Z = (evN (D.map Prod.fst) ⟨sN, nN, dN, pN, kN⟩).2 := ⟨_, rfl⟩
            have hPl : P.xs.length ≤ 144 := by rw [hP]; exact evN_len _ _
            rw [← hln] at n1 hnv
            rw [← hld] at n2 hdv
            rw [← hlp] at n3 hpv
            have HV := Lib.hid hv
            have HEV := Lib.hid (And.intro hP (And.intro hZ (And.intro hdrop hPl)))
            have HLS := Lib.hid (And.intro hnv (And.intro hdv (And.intro hpv (And.intro hwf (And.intro hln (And.intro hld hlp))))))
            clear hv hr hP hZ hdrop hPl hnv hdv hpv hwf hln hld hlp hnode
            go_upto_block 2 with fail
            obtain ⟨w6, hw6⟩ : ∃ w6, w6 = (wr.alloc (.cells #[.string sN, .slice An ln cn, .slice Ad ld cd, .slice Ap lp cp, .int .i64 kN] 87)).alloc (.cells #[.int .i64 0, .int .i64 0, .int .i64 0, .slice none 0 0] 24) := ⟨_, rfl⟩
            have hb6 : Below wr.heap.size wr w6 := by rw [hw6]; exact (by repeat' (first | (with_reducible exact Below.refl _ _) | (with_reducible assumption) | (with_reducible refine below_drewN ?_ _) | (with_reducible refine below_step (by assumption) ?_ ?_) | (with_reducible refine Below.alloc ?_ ?_ _) | (with_reducible refine Below.setCell ?_ ?_ _) | (with_reducible refine Below.drew ?_) | go_size | (exact Below.size (by assumption)) | (refine Nat.le_trans (Below.size (by assumption)) ?_)))
            have hx6 : NBox w6 wr.heap.size sN (.slice An ln cn) (.slice Ad ld cd) (.slice Ap lp cp) kN := by rw [hw6]; exact (heap_alloc_old _ _ (by simp)).trans (NBox.new wr _ _ _ _ _)
            have hp6 : PBox w6 (wr.heap.size + 1) 0 0 0 (.slice none 0 0) := by
              have := heap_alloc_new (wr.alloc (.cells #[.string sN, .slice An ln cn, .slice Ad ld cd, .slice Ap lp cp, .int .i64 kN] 87)) (.cells #[.int .i64 0, .int .i64 0, .int .i64 0, .slice none 0 0] 24)
              rw [hw6]
              unfold PBox
              simpa using this
            rw [← hw6]
            obtain ⟨nb, hnb⟩ : ∃ nb, nb = wr.heap.size := ⟨_, rfl⟩
            obtain ⟨pb, hpb⟩ : ∃ pb, pb = wr.heap.size + 1 := ⟨_, rfl⟩
            have hnp : nb ≠ pb := by omega
            rw [← hnb] at hx6
            rw [← hpb] at hp6
            rw [← hpb, ← hnb]
            obtain ⟨x0, x1, x2, x3, x4, x5⟩ := hx6.cells
            have HE := Lib.hid (And.intro hp6 (Array.getElem?_eq_some_iff.1 hp6).1)
            have H6 := Lib.hid (And.intro hb6 (And.intro hnb hpb))
            have hpl : pb < w6.heap.size := HE.out.2
            clear hw6 hb6 hx6 hp6 hnb hpb n0 n1 n2 n3 n4 q0 q1 q2 q3 q4 hgr
            go_cut [9] (fun t wx => t = .int .i64 Z ∧ Hid (PEnd w6 pb P wx))
            case first =>
              as_aux_lemma =>
                have hlD := HV.out.len
                have hbn : ∀ {v : Value} {l : List Int} (i : Nat), RdL w3 (fun b => w2.heap.size ≤ b ∧ (Value.slice (some ⟨ga, 0, none⟩) L1.length ca).ownBlock ≠ some b) v l → 0 < l.length → ∃ A c b o, v = .slice A l.length c ∧ A = some ⟨b, o, none⟩ ∧ (b < w6.heap.size ∧ b ≠ pb) ∧ ∀ i, i < l.length → w6.cell? ⟨b, o + i, none⟩ = some (.int .i64 (l.getD i 0)) := fun _ h hp => by
                  obtain ⟨A, c, e, h2⟩ := h
                  obtain ⟨b, o, e2, hb, -, hc⟩ := h2 hp
                  have hbr : b < wr.heap.size := Nat.lt_of_lt_of_le hb HV.out.bW.size
                  exact ⟨A, c, b, o, e, e2, ⟨by have := H6.out.1.size; omega, by have := H6.out.2.2; omega⟩, fun i hi => (H6.out.1.cell (p := ⟨b, o + i, none⟩) hbr).trans ((HV.out.bW.cell (p := ⟨b, o + i, none⟩) hb).trans (hc i hi))⟩
                have hdone : ∀ q, q < k → ∃ gp c A0 k0 X, u5 = .slice (some ⟨gp, 0, none⟩) k c ∧ (gp < w6.heap.size ∧ gp ≠ pb) ∧ X = (D.map Prod.fst).getD q zeroP ∧ X.xs.length ≤ 144 ∧ IsL w6 A0 X.xs.length X.xs ∧ w6.cell? ⟨gp, q * 4, none⟩ = some (.int .i64 X.a) ∧ w6.cell? ⟨gp, q * 4 + 1, none⟩ = some (.int .i64 X.b) ∧ w6.cell? ⟨gp, q * 4 + 2, none⟩ = some (.int .i64 X.c) ∧ w6.cell? ⟨gp, q * 4 + 3, none⟩ = some (.slice A0 X.xs.length k0) := fun q hq => by
                  have hqD : q < D.length := by omega
                  obtain ⟨gp, c, A0, k0, e, z1, z2, z3, z4, z5, z6, z7, z8⟩ := HV.out.o.get q hqD
                  refine ⟨gp, c, A0, k0, D[q].1, by rw [e, hlD], ⟨by have := H6.out.1.size; omega, by have := H6.out.2.2; omega⟩, ?_, HV.out.sz _ (List.getElem_mem hqD), IsL.below H6.out.1 z4, (H6.out.1.cell (p := ⟨gp, q * 4, none⟩) z1).trans z5, (H6.out.1.cell (p := ⟨gp, q * 4 + 1, none⟩) z1).trans z6, (H6.out.1.cell (p := ⟨gp, q * 4 + 2, none⟩) z1).trans z7, (H6.out.1.cell (p := ⟨gp, q * 4 + 3, none⟩) z1).trans z8⟩
                  rw [List.getD, List.getElem?_map, List.getElem?_eq_getElem hqD]
                  rfl
                obtain ⟨hnv, hdv, hpv, hwf, hln, hld, hlp⟩ := HLS.out
                simp only [WfN, Nat.zero_add] at hwf
                have hdw : ∀ w7, Below w6.heap.size w6 w7 → ∃ A c, Value.slice Ad ld cd = .slice A dN.length c ∧ IsL w7 A dN.length dN := fun w7 hb7 => by
                  obtain ⟨A, c, e, h⟩ := hdv.isL
                  exact ⟨A, c, e, IsL.below ((HV.out.bW.trans (H6.out.1.mono HV.out.bW.size)).trans (hb7.mono (Nat.le_trans HV.out.bW.size H6.out.1.size))) h⟩
                have hEP := HEV.out.1
                have hEZ := HEV.out.2.1
                rcases hwf with ⟨hs, ⟨a0, a1, a2, e3⟩, hdl⟩ | ⟨hs, hdl, qi, e1, hq⟩ | ⟨hs, qi, qj, e2, hq, hq2⟩
                · have hl3 : ln = 3 := by rw [hln, e3]; rfl
                  obtain ⟨A', c', bn, on, ev, eA, ⟨hbn1, hbn2⟩, hcn⟩ := hbn 0 hnv (by rw [e3]; simp)
                  rw [hl3] at x1
                  rw [e3] at hcn
                  have y0 := hcn 0 (by simp)
                  have y1 := hcn 1 (by simp)
                  have y2 := hcn 2 (by simp)
                  simp only [List.getD_cons_zero, List.getD_cons_succ, Nat.add_zero] at y0 y1 y2
                  have hAn : An = some ⟨bn, on, none⟩ := by cases ev; exact eA
                  rw [hAn] at x1
                  have HLE := Lib.hid (show ∀ w7, Below w6.heap.size w6 w7 → Calls Tryz.prog 50 #[.agg #[.int .i64 a0, .int .i64 a1, .int .i64 a2, .slice Ad ld cd]] w7 (OutP w7 P (.int .i64 Z)) from fun w7 hb7 => by
                    obtain ⟨A4, c4, ed, hL⟩ := hdw w7 hb7
                    have h := rleast_lst ⟨a0, a1, a2, dN⟩ (by show dN.length ≤ 1000000; omega) A4 c4 w7 hL
                    have he : evN (D.map Prod.fst) ⟨sN, nN, dN, pN, kN⟩ = (lstO ⟨a0, a1, a2, dN⟩, valP ⟨a0, a1, a2, dN⟩) := by
                      unfold evN
                      simp only
                      rw [if_pos hs, e3]
                      rfl
                    rw [hEP, hEZ, he, ed]
                    exact h)
                  clear ev eA hcn hAn
                  rcases hs with hs | hs
                  · have t1 := word_yes hs
                    clear hdw hEP hEZ hnv hdv hpv hln hld hlp hs hbn hdone hdl HLS HEV HV H6 HRB HNS hlD e3 hl3
                    as_aux_lemma =>
                      go_upto_region 17 with fail
                      refine RP.region_treeP (C := fun w' => ∃ x : SubP pb w6.heap.size w6, w' = x.val) (fun _ _ _ => False) [0, 1, 2, 3, 4, 5, 6, 7, 8, 9, 10, 11, 12, 13] (.one 14 (.one 15 (.one 16 (.read 17 (.read 18 (.one 19 .nil)))))) 20 (fun _ _ _ h => h.elim) (by kernel_rfl) (by kernel_rfl) (subp_start _ _ w6) ?_
                      simp only [pickL, List.getElem?_cons_zero, List.getElem?_cons_succ]
                      repeat (go_big_quiet_step (fail))
                      refine wpQuiet_nil ?_
                      obtain ⟨w7, hw7⟩ : ∃ w7 : World, w7 = { w6 with drawn := w6.drawn + 1 } := ⟨_, rfl⟩
                      have hb7 : Below w6.heap.size w6 w7 := by rw [hw7]; exact (Below.refl _ _).drew
                      rw [← hw7]
                      have hle := HLE.out w7 hb7
                      simp only [RP.treeS, atOp, List.getElem?_cons_zero, List.getElem?_cons_succ]
                      refine ⟨subp_low (grown_of hb7 _) (Nat.le_refl _), ?_⟩
                      refine RP.p_val (.agg #[.int .i64 a0, .int .i64 a1, .int .i64 a2, .slice Ad ld cd]) w7 rfl (by go_simp) ?_
                      refine ⟨subp_low (grown_of hb7 _) (Nat.le_refl _), ?_⟩
                      refine RP.p_call 50 #[.agg #[.int .i64 a0, .int .i64 a1, .int .i64 a2, .slice Ad ld cd]] rfl (by go_simp) ?_
                      refine hle.mono ?_
                      rintro e w8 ⟨v, rfl, hown, hb8⟩
                      refine .inl ⟨_, rfl, ?_⟩
                      have hb8' := hb7.trans (hb8.mono hb7.size)
                      refine ⟨subp_low (grown_of hb8' _) (Nat.le_refl _), ?_⟩
                      obtain ⟨A9, k9, rfl, -⟩ := hown.isL
                      have hr8 := HE.out.1.keep hb8'
                      have HF := Lib.hid (pend_row hr8 hb8' (OwnI.down hown hb7.size) HE.out.2)
                      obtain ⟨l9, hl9⟩ : ∃ l9, l9 = P.xs.length := ⟨_, rfl⟩
                      rw [← hl9] at HF ⊢
                      have hgr := row_grown w8 pb #[.int .i64 P.a, .int .i64 P.b, .int .i64 P.c, .slice A9 l9 k9]
                      refine RP.p_val (.tuple #[.agg #[.int .i64 P.a, .int .i64 P.b, .int .i64 P.c, .slice A9 l9 k9], .int .i64 Z]) w8 rfl (by go_simp) ?_
                      refine ⟨subp_low (grown_of hb8' _) (Nat.le_refl _), ?_⟩
                      refine ⟨_, s_read (.agg #[.int .i64 P.a, .int .i64 P.b, .int .i64 P.c, .slice A9 l9 k9]) rfl (fun w _ => by go_simp), subp_low (grown_of hb8' _) (Nat.le_refl _), ?_⟩
                      refine ⟨_, s_read (.int .i64 Z) rfl (fun w _ => by go_simp), subp_low (grown_of hb8' _) (Nat.le_refl _), ?_⟩
                      have hC9 := subp_low (grown_then (grown_of hb8' (some pb)) hgr) (Nat.le_refl _)
                      refine RP.p_skip (w8.setRow pb #[.int .i64 P.a, .int .i64 P.b, .int .i64 P.c, .slice A9 l9 k9]) rfl (st_pat_run (.tmp 8) (.tmp 63) rfl hr8 P.a P.b P.c A9 l9 k9 (by go_simp) (by go_simp)) ?_
                      obtain ⟨w9, hw9⟩ : ∃ w9, w9 = w8.setRow pb #[.int .i64 P.a, .int .i64 P.b, .int .i64 P.c, .slice A9 l9 k9] := ⟨_, rfl⟩
                      rw [← hw9] at HF hC9 ⊢
                      clear hw9 hgr hr8 hown hb8 hb8' hb7 hle hl9
                      refine ⟨hC9, ?_⟩
                      refine RP.p_assign _ rfl rfl (.int .i64 Z) (by go_simp) ?_
                      go_simp
                      go_wp2_with fail
                      go_meet
                      exact ⟨rfl, HF⟩
                  · have t1 : (sN.toList == [103, 114, 105, 100]) = false := word_no (by rw [hs]; decide)
                    have t2 := word_yes hs
                    clear hdw hEP hEZ hnv hdv hpv hln hld hlp hs hbn hdone hdl HLS HEV HV H6 HRB HNS hlD e3 hl3
                    as_aux_lemma =>
                      go_upto_region 17 with fail
                      refine RP.region_treeP (C := fun w' => ∃ x : SubP pb w6.heap.size w6, w' = x.val) (fun _ _ _ => False) [0, 1, 2, 3, 4, 5, 6, 7, 8, 9, 10, 11, 12, 13] (.one 14 (.one 15 (.one 16 (.read 17 (.read 18 (.one 19 .nil)))))) 20 (fun _ _ _ h => h.elim) (by kernel_rfl) (by kernel_rfl) (subp_start _ _ w6) ?_
                      simp only [pickL, List.getElem?_cons_zero, List.getElem?_cons_succ]
                      repeat (go_big_quiet_step (fail))
                      refine wpQuiet_nil ?_
                      obtain ⟨w7, hw7⟩ : ∃ w7 : World, w7 = { w6 with drawn := w6.drawn + 1 } := ⟨_, rfl⟩
                      have hb7 : Below w6.heap.size w6 w7 := by rw [hw7]; exact (Below.refl _ _).drew
                      rw [← hw7]
                      have hle := HLE.out w7 hb7
                      simp only [RP.treeS, atOp, List.getElem?_cons_zero, List.getElem?_cons_succ]
                      refine ⟨subp_low (grown_of hb7 _) (Nat.le_refl _), ?_⟩
                      refine RP.p_val (.agg #[.int .i64 a0, .int .i64 a1, .int .i64 a2, .slice Ad ld cd]) w7 rfl (by go_simp) ?_
                      refine ⟨subp_low (grown_of hb7 _) (Nat.le_refl _), ?_⟩
                      refine RP.p_call 50 #[.agg #[.int .i64 a0, .int .i64 a1, .int .i64 a2, .slice Ad ld cd]] rfl (by go_simp) ?_
                      refine hle.mono ?_
                      rintro e w8 ⟨v, rfl, hown, hb8⟩
                      refine .inl ⟨_, rfl, ?_⟩
                      have hb8' := hb7.trans (hb8.mono hb7.size)
                      refine ⟨subp_low (grown_of hb8' _) (Nat.le_refl _), ?_⟩
                      obtain ⟨A9, k9, rfl, -⟩ := hown.isL
                      have hr8 := HE.out.1.keep hb8'
                      have HF := Lib.hid (pend_row hr8 hb8' (OwnI.down hown hb7.size) HE.out.2)
                      obtain ⟨l9, hl9⟩ : ∃ l9, l9 = P.xs.length := ⟨_, rfl⟩
                      rw [← hl9] at HF ⊢
                      have hgr := row_grown w8 pb #[.int .i64 P.a, .int .i64 P.b, .int .i64 P.c, .slice A9 l9 k9]
                      refine RP.p_val (.tuple #[.agg #[.int .i64 P.a, .int .i64 P.b, .int .i64 P.c, .slice A9 l9 k9], .int .i64 Z]) w8 rfl (by go_simp) ?_
                      refine ⟨subp_low (grown_of hb8' _) (Nat.le_refl _), ?_⟩
                      refine ⟨_, s_read (.agg #[.int .i64 P.a, .int .i64 P.b, .int .i64 P.c, .slice A9 l9 k9]) rfl (fun w _ => by go_simp), subp_low (grown_of hb8' _) (Nat.le_refl _), ?_⟩
                      refine ⟨_, s_read (.int .i64 Z) rfl (fun w _ => by go_simp), subp_low (grown_of hb8' _) (Nat.le_refl _), ?_⟩
                      have hC9 := subp_low (grown_then (grown_of hb8' (some pb)) hgr) (Nat.le_refl _)
                      refine RP.p_skip (w8.setRow pb #[.int .i64 P.a, .int .i64 P.b, .int .i64 P.c, .slice A9 l9 k9]) rfl (st_pat_run (.tmp 8) (.tmp 63) rfl hr8 P.a P.b P.c A9 l9 k9 (by go_simp) (by go_simp)) ?_
                      obtain ⟨w9, hw9⟩ : ∃ w9, w9 = w8.setRow pb #[.int .i64 P.a, .int .i64 P.b, .int .i64 P.c, .slice A9 l9 k9] := ⟨_, rfl⟩
                      rw [← hw9] at HF hC9 ⊢
                      clear hw9 hgr hr8 hown hb8 hb8' hb7 hle hl9
                      refine ⟨hC9, ?_⟩
                      refine RP.p_assign _ rfl rfl (.int .i64 Z) (by go_simp) ?_
                      go_simp
                      go_wp2_with fail
                      go_meet
                      exact ⟨rfl, HF⟩
                · have hl1 : lp = 1 := by rw [hlp, e1]; rfl
                  obtain ⟨A', c', bp, op, ep1, epA, ⟨hbp1, hbp2⟩, hpc⟩ := hbn 0 hpv (by rw [e1]; simp)
                  rw [hl1] at x3
                  rw [e1] at hpc
                  have z0 := hpc 0 (by simp)
                  simp only [List.getD_cons_zero, Nat.add_zero] at z0
                  have hAp : Ap = some ⟨bp, op, none⟩ := by cases ep1; exact epA
                  rw [hAp] at x3
                  clear hAp
                  obtain ⟨gp, cg, A0, k0, X, hu5, ⟨hgp1, hgp2⟩, hX, hXl, hXI, g0, g1, g2, g3⟩ := hdone qi hq
                  obtain ⟨lX, hlX⟩ : ∃ lX, lX = X.xs.length := ⟨_, rfl⟩
                  rw [← hlX] at g3
                  subst hu5
                  have hev : ¬ (sN = txt [103, 114, 105, 100] ∨ sN = txt [98, 114, 105, 99, 107, 115]) → ¬ sN = txt [111, 118, 101, 114] → evN (D.map Prod.fst) ⟨sN, nN, dN, pN, kN⟩ = oneV sN nN dN X := fun h1 h2 => by
                    rw [e1, evN_o h1 h2, ← hX]
                  have hXI7 : ∀ w7, Below w6.heap.size w6 w7 → PatIn w7 X A0 := fun w7 hb7 => IsL.below hb7 hXI
                  rcases hs with ⟨hs, a0, a1, en⟩ | ⟨hs, a0, en⟩ | hs | hs | hs
                  · have t1 : (sN.toList == [103, 114, 105, 100]) = false := word_no (by rw [hs]; decide)
                    have t2 : (sN.toList == [98, 114, 105, 99, 107, 115]) = false := word_no (by rw [hs]; decide)
                    have t3 := word_yes hs
                    have hl3 : ln = 2 := by rw [hln, en]; rfl
                    obtain ⟨A', c', bn, on, ev, eA, ⟨hbn1, hbn2⟩, hcn⟩ := hbn 0 hnv (by rw [en]; simp)
                    rw [hl3] at x1
                    rw [en] at hcn
                    have y0 := hcn 0 (by simp)
                    have y1 := hcn 1 (by simp)
                    simp only [List.getD_cons_zero, List.getD_cons_succ, Nat.add_zero] at y0 y1
                    have hAn : An = some ⟨bn, on, none⟩ := by cases ev; exact eA
                    rw [hAn] at x1
                    clear ev eA hcn hAn
                    have HLE := Lib.hid (show ∀ w7, Below w6.heap.size w6 w7 → Calls Tryz.prog 51 #[.agg #[.int .i64 X.a, .int .i64 X.b, .int .i64 X.c, .slice A0 lX k0], .int .i64 a0, .int .i64 a1] w7 (OutP w7 P (.int .i64 Z)) from fun w7 hb7 => by
                      have he := hev (by rw [hs]; decide) (by rw [hs]; decide)
                      rw [hEP, hEZ, he]
                      unfold oneV
                      rw [if_pos hs, en, hlX]
                      exact rshift_any X (by omega) a0 a1 A0 k0 w7 (hXI7 w7 hb7))
                    clear hdw hEP hEZ hnv hdv hpv hln hld hlp hs hbn hdone hdl HLS HEV HV H6 HRB HNS hlD e1 hl1 ep1 epA hpc hX hXl hXI hlX hev hXI7 en hl3
                    as_aux_lemma =>
                      go_upto_region 19 with fail
                      refine RP.region_treeP (C := fun w' => ∃ x : SubP pb w6.heap.size w6, w' = x.val) (fun _ _ _ => False) [0, 1, 2, 3, 4, 5, 6, 7, 8, 9, 10, 11, 12, 13, 14] (.one 15 (.one 16 (.read 17 (.read 18 (.one 19 .nil))))) 20 (fun _ _ _ h => h.elim) (by kernel_rfl) (by kernel_rfl) (subp_start _ _ w6) ?_
                      simp only [pickL, List.getElem?_cons_zero, List.getElem?_cons_succ]
                      repeat (go_big_quiet_step (fail))
                      refine wpQuiet_nil ?_
                      obtain ⟨w7, hw7⟩ : ∃ w7 : World, w7 = { w6 with drawn := w6.drawn + 1 } := ⟨_, rfl⟩
                      have hb7 : Below w6.heap.size w6 w7 := by rw [hw7]; exact (Below.refl _ _).drew
                      rw [← hw7]
                      have hle := HLE.out w7 hb7
                      simp only [RP.treeS, atOp, List.getElem?_cons_zero, List.getElem?_cons_succ]
                      refine ⟨subp_low (grown_of hb7 _) (Nat.le_refl _), ?_⟩
                      refine RP.p_call 51 #[.agg #[.int .i64 X.a, .int .i64 X.b, .int .i64 X.c, .slice A0 lX k0], .int .i64 a0, .int .i64 a1] rfl (by go_simp) ?_
                      refine hle.mono ?_
                      rintro e w8 ⟨v, rfl, hown, hb8⟩
                      refine .inl ⟨_, rfl, ?_⟩
                      have hb8' := hb7.trans (hb8.mono hb7.size)
                      refine ⟨subp_low (grown_of hb8' _) (Nat.le_refl _), ?_⟩
                      obtain ⟨A9, k9, rfl, -⟩ := hown.isL
                      have hr8 := HE.out.1.keep hb8'
                      have HF := Lib.hid (pend_row hr8 hb8' (OwnI.down hown hb7.size) HE.out.2)
                      obtain ⟨l9, hl9⟩ : ∃ l9, l9 = P.xs.length := ⟨_, rfl⟩
                      rw [← hl9] at HF ⊢
                      have hgr := row_grown w8 pb #[.int .i64 P.a, .int .i64 P.b, .int .i64 P.c, .slice A9 l9 k9]
                      refine RP.p_val (.tuple #[.agg #[.int .i64 P.a, .int .i64 P.b, .int .i64 P.c, .slice A9 l9 k9], .int .i64 Z]) w8 rfl (by go_simp) ?_
                      refine ⟨subp_low (grown_of hb8' _) (Nat.le_refl _), ?_⟩
                      refine ⟨_, s_read (.agg #[.int .i64 P.a, .int .i64 P.b, .int .i64 P.c, .slice A9 l9 k9]) rfl (fun w _ => by go_simp), subp_low (grown_of hb8' _) (Nat.le_refl _), ?_⟩
                      refine ⟨_, s_read (.int .i64 Z) rfl (fun w _ => by go_simp), subp_low (grown_of hb8' _) (Nat.le_refl _), ?_⟩
                      have hC9 := subp_low (grown_then (grown_of hb8' (some pb)) hgr) (Nat.le_refl _)
                      refine RP.p_skip (w8.setRow pb #[.int .i64 P.a, .int .i64 P.b, .int .i64 P.c, .slice A9 l9 k9]) rfl (st_pat_run (.tmp 8) (.tmp 84) rfl hr8 P.a P.b P.c A9 l9 k9 (by go_simp) (by go_simp)) ?_
                      obtain ⟨w9, hw9⟩ : ∃ w9, w9 = w8.setRow pb #[.int .i64 P.a, .int .i64 P.b, .int .i64 P.c, .slice A9 l9 k9] := ⟨_, rfl⟩
                      rw [← hw9] at HF hC9 ⊢
                      clear hw9 hgr hr8 hown hb8 hb8' hb7 hle hl9
                      refine ⟨hC9, ?_⟩
                      refine RP.p_assign _ rfl rfl (.int .i64 Z) (by go_simp) ?_
                      go_simp
                      go_wp2_with fail
                      go_meet
                      exact ⟨rfl, HF⟩
                  · have t1 : (sN.toList == [103, 114, 105, 100]) = false := word_no (by rw [hs]; decide)
                    have t2 : (sN.toList == [98, 114, 105, 99, 107, 115]) = false := word_no (by rw [hs]; decide)
                    have t3 : (sN.toList == [115, 104, 105, 102, 116]) = false := word_no (by rw [hs]; decide)
                    have t4 : (sN.toList == [116, 117, 114, 110]) = false := word_no (by rw [hs]; decide)
                    have t5 : (sN.toList == [109, 105, 114, 114, 111, 114]) = false := word_no (by rw [hs]; decide)
                    have t6 : (sN.toList == [114, 101, 99, 111, 108, 111, 114]) = false := word_no (by rw [hs]; decide)
                    have t7 : (sN.toList == [111, 118, 101, 114]) = false := word_no (by rw [hs]; decide)
                    have t8 := word_yes hs
                    have hl3 : ln = 1 := by rw [hln, en]; rfl
                    obtain ⟨A', c', bn, on, ev, eA, ⟨hbn1, hbn2⟩, hcn⟩ := hbn 0 hnv (by rw [en]; simp)
                    rw [hl3] at x1
                    rw [en] at hcn
                    have y0 := hcn 0 (by simp)
                    simp only [List.getD_cons_zero, Nat.add_zero] at y0
                    have hAn : An = some ⟨bn, on, none⟩ := by cases ev; exact eA
                    rw [hAn] at x1
                    clear ev eA hcn hAn
                    have HLE := Lib.hid (show ∀ w7, Below w6.heap.size w6 w7 → Calls Tryz.prog 56 #[.agg #[.int .i64 X.a, .int .i64 X.b, .int .i64 X.c, .slice A0 lX k0], .int .i64 a0] w7 (OutP w7 P (.int .i64 Z)) from fun w7 hb7 => by
                      have he := hev (by rw [hs]; decide) (by rw [hs]; decide)
                      rw [hEP, hEZ, he]
                      unfold oneV
                      rw [if_neg (by rw [hs]; decide), if_pos hs, en, hlX]
                      exact rswell_any X (by omega) a0 A0 k0 w7 (hXI7 w7 hb7))
                    clear hdw hEP hEZ hnv hdv hpv hln hld hlp hs hbn hdone hdl HLS HEV HV H6 HRB HNS hlD e1 hl1 ep1 epA hpc hX hXl hXI hlX hev hXI7 en hl3
                    as_aux_lemma =>
                      go_upto_region 29 with fail
                      refine RP.region_treeP (C := fun w' => ∃ x : SubP pb w6.heap.size w6, w' = x.val) (fun _ _ _ => False) [0, 1, 2, 3, 4, 5, 6, 7, 8, 9, 10] (.one 11 (.one 12 (.read 13 (.read 14 (.one 15 .nil))))) 16 (fun _ _ _ h => h.elim) (by kernel_rfl) (by kernel_rfl) (subp_start _ _ w6) ?_
                      simp only [pickL, List.getElem?_cons_zero, List.getElem?_cons_succ]
                      repeat (go_big_quiet_step (fail))
                      refine wpQuiet_nil ?_
                      obtain ⟨w7, hw7⟩ : ∃ w7 : World, w7 = { w6 with drawn := w6.drawn + 1 } := ⟨_, rfl⟩
                      have hb7 : Below w6.heap.size w6 w7 := by rw [hw7]; exact (Below.refl _ _).drew
                      rw [← hw7]
                      have hle := HLE.out w7 hb7
                      simp only [RP.treeS, atOp, List.getElem?_cons_zero, List.getElem?_cons_succ]
                      refine ⟨subp_low (grown_of hb7 _) (Nat.le_refl _), ?_⟩
                      refine RP.p_call 56 #[.agg #[.int .i64 X.a, .int .i64 X.b, .int .i64 X.c, .slice A0 lX k0], .int .i64 a0] rfl (by go_simp) ?_
                      refine hle.mono ?_
                      rintro e w8 ⟨v, rfl, hown, hb8⟩
                      refine .inl ⟨_, rfl, ?_⟩
                      have hb8' := hb7.trans (hb8.mono hb7.size)
                      refine ⟨subp_low (grown_of hb8' _) (Nat.le_refl _), ?_⟩
                      obtain ⟨A9, k9, rfl, -⟩ := hown.isL
                      have hr8 := HE.out.1.keep hb8'
                      have HF := Lib.hid (pend_row hr8 hb8' (OwnI.down hown hb7.size) HE.out.2)
                      obtain ⟨l9, hl9⟩ : ∃ l9, l9 = P.xs.length := ⟨_, rfl⟩
                      rw [← hl9] at HF ⊢
                      have hgr := row_grown w8 pb #[.int .i64 P.a, .int .i64 P.b, .int .i64 P.c, .slice A9 l9 k9]
                      refine RP.p_val (.tuple #[.agg #[.int .i64 P.a, .int .i64 P.b, .int .i64 P.c, .slice A9 l9 k9], .int .i64 Z]) w8 rfl (by go_simp) ?_
                      refine ⟨subp_low (grown_of hb8' _) (Nat.le_refl _), ?_⟩
                      refine ⟨_, s_read (.agg #[.int .i64 P.a, .int .i64 P.b, .int .i64 P.c, .slice A9 l9 k9]) rfl (fun w _ => by go_simp), subp_low (grown_of hb8' _) (Nat.le_refl _), ?_⟩
                      refine ⟨_, s_read (.int .i64 Z) rfl (fun w _ => by go_simp), subp_low (grown_of hb8' _) (Nat.le_refl _), ?_⟩
                      have hC9 := subp_low (grown_then (grown_of hb8' (some pb)) hgr) (Nat.le_refl _)
                      refine RP.p_skip (w8.setRow pb #[.int .i64 P.a, .int .i64 P.b, .int .i64 P.c, .slice A9 l9 k9]) rfl (st_pat_run (.tmp 8) (.tmp 162) rfl hr8 P.a P.b P.c A9 l9 k9 (by go_simp) (by go_simp)) ?_
                      obtain ⟨w9, hw9⟩ : ∃ w9, w9 = w8.setRow pb #[.int .i64 P.a, .int .i64 P.b, .int .i64 P.c, .slice A9 l9 k9] := ⟨_, rfl⟩
                      rw [← hw9] at HF hC9 ⊢
                      clear hw9 hgr hr8 hown hb8 hb8' hb7 hle hl9
                      refine ⟨hC9, ?_⟩
                      refine RP.p_assign _ rfl rfl (.int .i64 Z) (by go_simp) ?_
                      go_simp
                      go_wp2_with fail
                      go_meet
                      exact ⟨rfl, HF⟩
                  · have t1 : (sN.toList == [103, 114, 105, 100]) = false := word_no (by rw [hs]; decide)
                    have t2 : (sN.toList == [98, 114, 105, 99, 107, 115]) = false := word_no (by rw [hs]; decide)
                    have t3 : (sN.toList == [115, 104, 105, 102, 116]) = false := word_no (by rw [hs]; decide)
                    have t4 := word_yes hs
                    have HLE := Lib.hid (show ∀ w7, Below w6.heap.size w6 w7 → Calls Tryz.prog 52 #[.agg #[.int .i64 X.a, .int .i64 X.b, .int .i64 X.c, .slice A0 lX k0]] w7 (OutP w7 P (.int .i64 Z)) from fun w7 hb7 => by
                      have he := hev (by rw [hs]; decide) (by rw [hs]; decide)
                      rw [hEP, hEZ, he]
                      unfold oneV
                      rw [if_neg (by rw [hs]; decide), if_neg (by rw [hs]; decide), if_pos hs, hlX]
                      exact rturn_any X (by omega) A0 k0 w7 (hXI7 w7 hb7))
                    clear hdw hEP hEZ hnv hdv hpv hln hld hlp hs hbn hdone hdl HLS HEV HV H6 HRB HNS hlD e1 hl1 ep1 epA hpc hX hXl hXI hlX hev hXI7
                    as_aux_lemma =>
                      go_upto_region 21 with fail
                      have hle := HLE.out w6 (Below.refl _ _)
                      go_wp2_with fail
                      refine hle.mono ?_
                      rintro e w8 ⟨v, rfl, hown, hb8⟩
                      obtain ⟨A9, k9, rfl, -⟩ := hown.isL
                      have hr8 := HE.out.1.keep hb8
                      have HF := Lib.hid (pend_set4 hr8 hb8 hown HE.out.2)
                      obtain ⟨l9, hl9⟩ : ∃ l9, l9 = P.xs.length := ⟨_, rfl⟩
                      rw [← hl9] at HF ⊢
                      obtain ⟨r0, r1, r2, r3, r4⟩ := PBox.cells hr8
                      have f0 : (w8).frozen? ⟨pb, 0, none⟩ = false := frozen_of_row (w8) (pb) 0 _ _ hr8
                      have f1 : (w8).frozen? ⟨pb, 1, none⟩ = false := frozen_of_row (w8) (pb) 1 _ _ hr8
                      have f2 : (w8).frozen? ⟨pb, 2, none⟩ = false := frozen_of_row (w8) (pb) 2 _ _ hr8
                      have f3 : (w8).frozen? ⟨pb, 3, none⟩ = false := frozen_of_row (w8) (pb) 3 _ _ hr8
                      clear hown hb8 hr8 hle hl9
                      go_wp2_with fail
                      go_meet
                      exact ⟨rfl, HF⟩
                  · have t1 : (sN.toList == [103, 114, 105, 100]) = false := word_no (by rw [hs]; decide)
                    have t2 : (sN.toList == [98, 114, 105, 99, 107, 115]) = false := word_no (by rw [hs]; decide)
                    have t3 : (sN.toList == [115, 104, 105, 102, 116]) = false := word_no (by rw [hs]; decide)
                    have t4 : (sN.toList == [116, 117, 114, 110]) = false := word_no (by rw [hs]; decide)
                    have t5 := word_yes hs
                    have HLE := Lib.hid (show ∀ w7, Below w6.heap.size w6 w7 → Calls Tryz.prog 53 #[.agg #[.int .i64 X.a, .int .i64 X.b, .int .i64 X.c, .slice A0 lX k0]] w7 (OutP w7 P (.int .i64 Z)) from fun w7 hb7 => by
                      have he := hev (by rw [hs]; decide) (by rw [hs]; decide)
                      rw [hEP, hEZ, he]
                      unfold oneV
                      rw [if_neg (by rw [hs]; decide), if_neg (by rw [hs]; decide), if_neg (by rw [hs]; decide), if_pos hs, hlX]
                      exact rmirror_any X (by omega) A0 k0 w7 (hXI7 w7 hb7))
                    clear hdw hEP hEZ hnv hdv hpv hln hld hlp hs hbn hdone hdl HLS HEV HV H6 HRB HNS hlD e1 hl1 ep1 epA hpc hX hXl hXI hlX hev hXI7
                    as_aux_lemma =>
                      go_upto_region 23 with fail
                      have hle := HLE.out w6 (Below.refl _ _)
                      go_wp2_with fail
                      refine hle.mono ?_
                      rintro e w8 ⟨v, rfl, hown, hb8⟩
                      obtain ⟨A9, k9, rfl, -⟩ := hown.isL
                      have hr8 := HE.out.1.keep hb8
                      have HF := Lib.hid (pend_set4 hr8 hb8 hown HE.out.2)
                      obtain ⟨l9, hl9⟩ : ∃ l9, l9 = P.xs.length := ⟨_, rfl⟩
                      rw [← hl9] at HF ⊢
                      obtain ⟨r0, r1, r2, r3, r4⟩ := PBox.cells hr8
                      have f0 : (w8).frozen? ⟨pb, 0, none⟩ = false := frozen_of_row (w8) (pb) 0 _ _ hr8
                      have f1 : (w8).frozen? ⟨pb, 1, none⟩ = false := frozen_of_row (w8) (pb) 1 _ _ hr8
                      have f2 : (w8).frozen? ⟨pb, 2, none⟩ = false := frozen_of_row (w8) (pb) 2 _ _ hr8
                      have f3 : (w8).frozen? ⟨pb, 3, none⟩ = false := frozen_of_row (w8) (pb) 3 _ _ hr8
                      clear hown hb8 hr8 hle hl9
                      go_wp2_with fail
                      go_meet
                      exact ⟨rfl, HF⟩
                  · have t1 : (sN.toList == [103, 114, 105, 100]) = false := word_no (by rw [hs]; decide)
                    have t2 : (sN.toList == [98, 114, 105, 99, 107, 115]) = false := word_no (by rw [hs]; decide)
                    have t3 : (sN.toList == [115, 104, 105, 102, 116]) = false := word_no (by rw [hs]; decide)
                    have t4 : (sN.toList == [116, 117, 114, 110]) = false := word_no (by rw [hs]; decide)
                    have t5 : (sN.toList == [109, 105, 114, 114, 111, 114]) = false := word_no (by rw [hs]; decide)
                    have t6 := word_yes hs
                    have HLE := Lib.hid (show ∀ w7, Below w6.heap.size w6 w7 → Calls Tryz.prog 54 #[.agg #[.int .i64 X.a, .int .i64 X.b, .int .i64 X.c, .slice A0 lX k0], .slice Ad ld cd] w7 (OutP w7 P (.int .i64 Z)) from fun w7 hb7 => by
                      have he := hev (by rw [hs]; decide) (by rw [hs]; decide)
                      obtain ⟨A4, c4, ed, hL⟩ := hdw w7 hb7
                      rw [hEP, hEZ, he]
                      unfold oneV
                      rw [if_neg (by rw [hs]; decide), if_neg (by rw [hs]; decide), if_neg (by rw [hs]; decide), if_neg (by rw [hs]; decide), ed, hlX]
                      exact rrecolor_any X (by omega) dN A0 k0 A4 c4 w7 (hXI7 w7 hb7) hL)
                    clear hdw hEP hEZ hnv hdv hpv hln hld hlp hs hbn hdone hdl HLS HEV HV H6 HRB HNS hlD e1 hl1 ep1 epA hpc hX hXl hXI hlX hev hXI7
                    as_aux_lemma =>
                      go_upto_region 25 with fail
                      refine RP.region_treeP (C := fun w' => ∃ x : SubP pb w6.heap.size w6, w' = x.val) (fun _ _ _ => False) [0, 1, 2, 3, 4, 5, 6, 7, 8] (.one 9 (.one 10 (.read 11 (.read 12 (.one 13 .nil))))) 14 (fun _ _ _ h => h.elim) (by kernel_rfl) (by kernel_rfl) (subp_start _ _ w6) ?_
                      simp only [pickL, List.getElem?_cons_zero, List.getElem?_cons_succ]
                      repeat (go_big_quiet_step (fail))
                      refine wpQuiet_nil ?_
                      obtain ⟨w7, hw7⟩ : ∃ w7 : World, w7 = { w6 with drawn := w6.drawn + 1 } := ⟨_, rfl⟩
                      have hb7 : Below w6.heap.size w6 w7 := by rw [hw7]; exact (Below.refl _ _).drew
                      rw [← hw7]
                      have hle := HLE.out w7 hb7
                      simp only [RP.treeS, atOp, List.getElem?_cons_zero, List.getElem?_cons_succ]
                      refine ⟨subp_low (grown_of hb7 _) (Nat.le_refl _), ?_⟩
                      refine RP.p_call 54 #[.agg #[.int .i64 X.a, .int .i64 X.b, .int .i64 X.c, .slice A0 lX k0], .slice Ad ld cd] rfl (by go_simp) ?_
                      refine hle.mono ?_
                      rintro e w8 ⟨v, rfl, hown, hb8⟩
                      refine .inl ⟨_, rfl, ?_⟩
                      have hb8' := hb7.trans (hb8.mono hb7.size)
                      refine ⟨subp_low (grown_of hb8' _) (Nat.le_refl _), ?_⟩
                      obtain ⟨A9, k9, rfl, -⟩ := hown.isL
                      have hr8 := HE.out.1.keep hb8'
                      have HF := Lib.hid (pend_row hr8 hb8' (OwnI.down hown hb7.size) HE.out.2)
                      obtain ⟨l9, hl9⟩ : ∃ l9, l9 = P.xs.length := ⟨_, rfl⟩
                      rw [← hl9] at HF ⊢
                      have hgr := row_grown w8 pb #[.int .i64 P.a, .int .i64 P.b, .int .i64 P.c, .slice A9 l9 k9]
                      refine RP.p_val (.tuple #[.agg #[.int .i64 P.a, .int .i64 P.b, .int .i64 P.c, .slice A9 l9 k9], .int .i64 Z]) w8 rfl (by go_simp) ?_
                      refine ⟨subp_low (grown_of hb8' _) (Nat.le_refl _), ?_⟩
                      refine ⟨_, s_read (.agg #[.int .i64 P.a, .int .i64 P.b, .int .i64 P.c, .slice A9 l9 k9]) rfl (fun w _ => by go_simp), subp_low (grown_of hb8' _) (Nat.le_refl _), ?_⟩
                      refine ⟨_, s_read (.int .i64 Z) rfl (fun w _ => by go_simp), subp_low (grown_of hb8' _) (Nat.le_refl _), ?_⟩
                      have hC9 := subp_low (grown_then (grown_of hb8' (some pb)) hgr) (Nat.le_refl _)
                      refine RP.p_skip (w8.setRow pb #[.int .i64 P.a, .int .i64 P.b, .int .i64 P.c, .slice A9 l9 k9]) rfl (st_pat_run (.tmp 8) (.tmp 125) rfl hr8 P.a P.b P.c A9 l9 k9 (by go_simp) (by go_simp)) ?_
                      obtain ⟨w9, hw9⟩ : ∃ w9, w9 = w8.setRow pb #[.int .i64 P.a, .int .i64 P.b, .int .i64 P.c, .slice A9 l9 k9] := ⟨_, rfl⟩
                      rw [← hw9] at HF hC9 ⊢
                      clear hw9 hgr hr8 hown hb8 hb8' hb7 hle hl9
                      refine ⟨hC9, ?_⟩
                      refine RP.p_assign _ rfl rfl (.int .i64 Z) (by go_simp) ?_
                      go_simp
                      go_wp2_with fail
                      go_meet
                      exact ⟨rfl, HF⟩
                · have hl2 : lp = 2 := by rw [hlp, e2]; rfl
                  obtain ⟨A', c', bp, op, ep1, epA, ⟨hbp1, hbp2⟩, hpc⟩ := hbn 0 hpv (by rw [e2]; simp)
                  rw [hl2] at x3
                  rw [e2] at hpc
                  have z0 := hpc 0 (by simp)
                  have z1 := hpc 1 (by simp)
                  simp only [List.getD_cons_zero, List.getD_cons_succ, Nat.add_zero] at z0 z1
                  have hAp : Ap = some ⟨bp, op, none⟩ := by cases ep1; exact epA
                  rw [hAp] at x3
                  clear hAp
                  obtain ⟨gp, cg, A0, k0, X, hu5, ⟨hgp1, hgp2⟩, hX, hXl, hXI, g0, g1, g2, g3⟩ := hdone qi hq
                  obtain ⟨gp', cg', A5, k5, Y, hu6, -, hY, hYl, hYI, f0, f1, f2, f3⟩ := hdone qj hq2
                  rw [hu5] at hu6
                  cases hu6
                  obtain ⟨lX, hlX⟩ : ∃ lX, lX = X.xs.length := ⟨_, rfl⟩
                  obtain ⟨lY, hlY⟩ : ∃ lY, lY = Y.xs.length := ⟨_, rfl⟩
                  rw [← hlX] at g3
                  rw [← hlY] at f3
                  subst hu5
                  have t1 : (sN.toList == [103, 114, 105, 100]) = false := word_no (by rw [hs]; decide)
                  have t2 : (sN.toList == [98, 114, 105, 99, 107, 115]) = false := word_no (by rw [hs]; decide)
                  have t3 : (sN.toList == [115, 104, 105, 102, 116]) = false := word_no (by rw [hs]; decide)
                  have t4 : (sN.toList == [116, 117, 114, 110]) = false := word_no (by rw [hs]; decide)
                  have t5 : (sN.toList == [109, 105, 114, 114, 111, 114]) = false := word_no (by rw [hs]; decide)
                  have t6 : (sN.toList == [114, 101, 99, 111, 108, 111, 114]) = false := word_no (by rw [hs]; decide)
                  have t7 := word_yes hs
                  have HLE := Lib.hid (show ∀ w7, Below w6.heap.size w6 w7 → Calls Tryz.prog 55 #[.agg #[.int .i64 X.a, .int .i64 X.b, .int .i64 X.c, .slice A0 lX k0], .agg #[.int .i64 Y.a, .int .i64 Y.b, .int .i64 Y.c, .slice A5 lY k5]] w7 (OutP w7 P (.int .i64 Z)) from fun w7 hb7 => by
                    have he : evN (D.map Prod.fst) ⟨sN, nN, dN, pN, kN⟩ = (oveT X Y, oveZ X Y) := by
                      unfold evN
                      simp only
                      rw [if_neg (by rw [hs]; decide), if_pos hs, e2, hX, hY]
                      rfl
                    rw [hEP, hEZ, he, hlX, hlY]
                    exact rover_any X Y (by omega) (by omega) A0 k0 A5 k5 w7 (IsL.below hb7 hXI) (IsL.below hb7 hYI))
                  clear hdw hEP hEZ hnv hdv hpv hln hld hlp hs hbn hdone HLS HEV HV H6 HRB HNS hlD e2 hl2 ep1 epA hpc hX hXl hXI hlX hY hYl hYI hlY
                  as_aux_lemma =>
                    go_upto_region 27 with fail
                    refine RP.region_treeP (C := fun w' => ∃ x : SubP pb w6.heap.size w6, w' = x.val) (fun _ _ _ => False) [0, 1, 2, 3, 4, 5, 6, 7, 8, 9, 10, 11, 12, 13] (.one 14 (.one 15 (.read 16 (.read 17 (.one 18 .nil))))) 19 (fun _ _ _ h => h.elim) (by kernel_rfl) (by kernel_rfl) (subp_start _ _ w6) ?_
                    simp only [pickL, List.getElem?_cons_zero, List.getElem?_cons_succ]
                    repeat (go_big_quiet_step (fail))
                    refine wpQuiet_nil ?_
                    obtain ⟨w7, hw7⟩ : ∃ w7 : World, w7 = { w6 with drawn := w6.drawn + 1 } := ⟨_, rfl⟩
                    have hb7 : Below w6.heap.size w6 w7 := by rw [hw7]; exact (Below.refl _ _).drew
                    rw [← hw7]
                    have hle := HLE.out w7 hb7
                    simp only [RP.treeS, atOp, List.getElem?_cons_zero, List.getElem?_cons_succ]
                    refine ⟨subp_low (grown_of hb7 _) (Nat.le_refl _), ?_⟩
                    refine RP.p_call 55 #[.agg #[.int .i64 X.a, .int .i64 X.b, .int .i64 X.c, .slice A0 lX k0], .agg #[.int .i64 Y.a, .int .i64 Y.b, .int .i64 Y.c, .slice A5 lY k5]] rfl (by go_simp) ?_
                    refine hle.mono ?_
                    rintro e w8 ⟨v, rfl, hown, hb8⟩
                    refine .inl ⟨_, rfl, ?_⟩
                    have hb8' := hb7.trans (hb8.mono hb7.size)
                    refine ⟨subp_low (grown_of hb8' _) (Nat.le_refl _), ?_⟩
                    obtain ⟨A9, k9, rfl, -⟩ := hown.isL
                    have hr8 := HE.out.1.keep hb8'
                    have HF := Lib.hid (pend_row hr8 hb8' (OwnI.down hown hb7.size) HE.out.2)
                    obtain ⟨l9, hl9⟩ : ∃ l9, l9 = P.xs.length := ⟨_, rfl⟩
                    rw [← hl9] at HF ⊢
                    have hgr := row_grown w8 pb #[.int .i64 P.a, .int .i64 P.b, .int .i64 P.c, .slice A9 l9 k9]
                    refine RP.p_val (.tuple #[.agg #[.int .i64 P.a, .int .i64 P.b, .int .i64 P.c, .slice A9 l9 k9], .int .i64 Z]) w8 rfl (by go_simp) ?_
                    refine ⟨subp_low (grown_of hb8' _) (Nat.le_refl _), ?_⟩
                    refine ⟨_, s_read (.agg #[.int .i64 P.a, .int .i64 P.b, .int .i64 P.c, .slice A9 l9 k9]) rfl (fun w _ => by go_simp), subp_low (grown_of hb8' _) (Nat.le_refl _), ?_⟩
                    refine ⟨_, s_read (.int .i64 Z) rfl (fun w _ => by go_simp), subp_low (grown_of hb8' _) (Nat.le_refl _), ?_⟩
                    have hC9 := subp_low (grown_then (grown_of hb8' (some pb)) hgr) (Nat.le_refl _)
                    refine RP.p_skip (w8.setRow pb #[.int .i64 P.a, .int .i64 P.b, .int .i64 P.c, .slice A9 l9 k9]) rfl (st_pat_run (.tmp 8) (.tmp 145) rfl hr8 P.a P.b P.c A9 l9 k9 (by go_simp) (by go_simp)) ?_
                    obtain ⟨w9, hw9⟩ : ∃ w9, w9 = w8.setRow pb #[.int .i64 P.a, .int .i64 P.b, .int .i64 P.c, .slice A9 l9 k9] := ⟨_, rfl⟩
                    rw [← hw9] at HF hC9 ⊢
                    clear hw9 hgr hr8 hown hb8 hb8' hb7 hle hl9
                    refine ⟨hC9, ?_⟩
                    refine RP.p_assign _ rfl rfl (.int .i64 Z) (by go_simp) ?_
                    go_simp
                    go_wp2_with fail
                    go_meet
                    exact ⟨rfl, HF⟩
            case rest =>
              as_aux_lemma =>
                obtain ⟨rfl, hc⟩ := hcut
                obtain ⟨Aq, kq, hpq, hoq, hgq⟩ := hc.out
                have hbw : Below wr.heap.size wr wc := H6.out.1.grown hgq H6.out.1.size (fun g e => by cases e; have := H6.out.2.2; omega)
                have hrq : PBox wc w.heap.size 0 0 0 (.slice none 0 0) := HV.out.r.keep hbw
                have hbq : Below w.heap.size w wc := HV.out.b.trans (hbw.mono HV.out.b.size)
                obtain ⟨lq, hlq⟩ : ∃ lq, lq = P.xs.length := ⟨_, rfl⟩
                rw [← hlq] at hpq hoq
                have hw6s := hgq.size
                have hw36 : w3.heap.size ≤ w6.heap.size := Nat.le_trans HV.out.bW.size H6.out.1.size
                by_cases hz : Z = 0
                · have d3 : (Z != 0) = false := by rw [hz]; rfl
                  have HZ := Lib.hid hz
                  obtain ⟨x0, x1, x2, x3, x4⟩ := hpq.cells
                  have hv5 : ∀ g', u5.ownBlock = some g' → g' < w6.heap.size := fun g' e => by have := (HV.out.o.lt g' e).2; have := H6.out.1.size; omega
                  have J := Lib.hid (And.intro (HV.out.o.keep hbw) (And.intro hoq.rd (And.intro hv5 (And.intro hbw (And.intro hoq (And.intro hbq hrq))))))
                  have hDl : D.length ≤ 1000000 := by have := HV.out.len; omega
                  have HDL := Lib.hid hDl
                  have hgc : w3.heap.size ≤ wc.heap.size := by omega
                  clear hz hpq hoq hgq hbw hrq hbq hlq hv5 hDl hc
                  go_wp2_with (at_builtin; go_must (refine append_pat (.tmp 168) (.tmp 170) rfl rfl w3.heap.size w6.heap.size u5 D P (.slice Aq lq kq) wc rfl rfl J.out.1 rfl J.out.2.1 hw36 J.out.2.2.1 HDL.out hgc ?_))
                  intro v' w8 ho8 hg8 hd8
                  have R2 := Lib.hid (show ∃ D, PLp w w3 w8 w.heap.size w3.heap.size (flatN 0 x) (k + 1) v' D by
                    obtain ⟨j1, j2, j3, j4, j5, j6, j7⟩ := J.out
                    have hb8 : Below w3.heap.size wc w8 := (Below.refl _ _).grown hg8 hgc (fun g e => (HV.out.o.lt g e).1)
                    have hgg := HV.out.hg
                    refine ⟨D ++ [(P, .slice Aq lq kq)], (hb8.block _ hgg.2.1).trans j7, j6.trans (hb8.mono hgg.1), (HV.out.bW.trans (j4.mono HV.out.bW.size)).trans hb8, ho8, by rw [List.length_append, HV.out.len]; rfl, fun p hp => ?_, ?_, fun p hp => ?_, hgg⟩
                    · rcases List.mem_append.1 hp with hp | hp
                      · exact HV.out.sz p hp
                      · rw [List.mem_singleton.1 hp]; exact HEV.out.2.2.2
                    · rw [HV.out.run, HEV.out.2.2.1, List.map_append]
                      simp only [runN]
                      rw [if_pos (by rw [← HEV.out.2.1]; exact HZ.out), ← HEV.out.1]
                      rfl
                    · have hk8 : ∀ q, u5.ownBlock ≠ some q → q < wc.heap.size → w8.heap[q]? = wc.heap[q]? := fun q h1 h2 => hg8.block q h2 (fun e => h1 e.symm)
                      have hn8 : ∀ q, u5.ownBlock ≠ some q → q < wc.heap.size → v'.ownBlock ≠ some q := fun q h1 h2 e => by
                        rcases hd8 with hd8 | hd8
                        · rw [hd8] at e; exact h1 e
                        · rw [hd8] at e; cases e; omega
                      rcases List.mem_append.1 hp with hp | hp
                      · obtain ⟨o1, o2⟩ := HV.out.ow p hp
                        have o3 : OwnI wc w3.heap.size p.2 p.1.xs := o1.keep j4
                        exact ⟨own_by o3 (fun q e => hk8 q (o2 q e) (o3.lt' q e).2), fun q e => hn8 q (o2 q e) (o3.lt' q e).2⟩
                      · rw [List.mem_singleton.1 hp]
                        have o5 : ∀ q, (Value.slice Aq lq kq).ownBlock = some q → u5.ownBlock ≠ some q := fun q e e2 => by have := (j5.lt' q e).1; have := j3 q e2; omega
                        exact ⟨OwnI.down (own_by j5 (fun q e => hk8 q (o5 q e) (j5.lt' q e).2)) hw36, fun q e => hn8 q (o5 q e) (j5.lt' q e).2⟩)
                  clear ho8 hg8 hd8 J HV HEV HLS H6 HE x0 x1 x2 x3 x4
                  go_wp2
                  go_roundw
                  case rel => exact ⟨k + 1, by go_num, by omega, R2⟩
                  case measure => simp [intOf]; omega
                · have d3 : (Z != 0) = true := by rw [bne_iff_ne]; exact hz
                  have HF := Lib.hid (show PF = zeroP ∧ ZF = Z by
                    have h1 := (run_val x HNS.out.2.2.2).1
                    rw [HV.out.run, HEV.out.2.2.1] at h1
                    simp only [runN] at h1
                    rw [if_neg (by rw [← HEV.out.2.1]; exact hz), ← HEV.out.2.1] at h1
                    have h2 : Z = (valX x).2 := h1
                    exact ⟨by rw [HPZ.out.1]; exact valX_bad (by rw [← h2]; exact hz), by rw [HPZ.out.2, h2]⟩)
                  have HP := Lib.hid (put_zero (w := w) hrq hbq (Nat.le_refl _))
                  obtain ⟨r0, r1, r2, r3, r4⟩ := PBox.cells hrq
                  have f0 : (wc).frozen? ⟨w.heap.size, 0, none⟩ = false := frozen_of_row (wc) (w.heap.size) 0 _ _ hrq
                  have f1 : (wc).frozen? ⟨w.heap.size, 1, none⟩ = false := frozen_of_row (wc) (w.heap.size) 1 _ _ hrq
                  have f2 : (wc).frozen? ⟨w.heap.size, 2, none⟩ = false := frozen_of_row (wc) (w.heap.size) 2 _ _ hrq
                  have f3 : (wc).frozen? ⟨w.heap.size, 3, none⟩ = false := frozen_of_row (wc) (w.heap.size) 3 _ _ hrq
                  clear hz hpq hoq hgq hbw hrq hbq hlq hc HV HEV HLS H6 HE HRB HNS HPZ
                  go_wp2
                  refine bodyPost_ret (v := .tuple #[.agg #[.int .i64 0, .int .i64 0, .int .i64 0, .slice none 0 0], .int .i64 Z]) (ret_pat2 rfl rfl rfl HP.out.1) rfl ?_
                  rw [HF.out.1, HF.out.2]
                  exact OutP.zero HP.out.2
          · obtain rfl : k = M := by omega
            obtain ⟨k', hk'⟩ : ∃ k', k = k' + 1 := ⟨k - 1, by omega⟩
            have hDk : D.length = k' + 1 := by rw [hv.len, hk']
            obtain ⟨gp, cg, A0, k0, hu5, hg1, hg2, hpv, hXI, g0, g1, g2, g3⟩ := hv.o.get k' (by omega)
            obtain ⟨o1, -⟩ := hv.ow D[k'] (List.getElem_mem (by omega))
            have hfin : PF = D[k'].1 ∧ ZF = 0 := by
              have h1 := run_val x HNS.out.2.2.2
              have h0 : runN [] (flatN 0 x) = (D.map Prod.fst, 0) := by
                rw [hv.run, List.drop_eq_nil_of_le (by rw [← HNS.out.1, List.length_map]; exact Nat.le_of_eq HNS.out.2.2.1.symm)]
                rfl
              rw [h0] at h1
              refine ⟨?_, by rw [HPZ.out.2, ← h1.1]⟩
              have h2 := h1.2 h1.1.symm
              rw [List.getLast?_eq_getElem?, List.length_map, hDk, List.getElem?_map, Nat.add_sub_cancel, List.getElem?_eq_getElem (by omega)] at h2
              simp only [Option.map_some, Option.some.injEq] at h2
              rw [HPZ.out.1, ← h2]
            rw [← hfin.1] at hpv hXI g0 g1 g2 g3 o1
            rw [hpv] at o1
            have hrw := hv.r
            have HF := Lib.hid (put_ret hrw hv.b (Nat.le_refl _) PF _ o1 hv.hg.1 hv.hg.2.1)
            have HZ := Lib.hid hfin.2
            obtain ⟨lX, hlX⟩ : ∃ lX, lX = PF.xs.length := ⟨_, rfl⟩
            rw [← hlX] at g3 HF
            rw [hDk] at hu5
            subst hu5
            rw [hk'] at q3
            obtain ⟨r0, r1, r2, r3, r4⟩ := PBox.cells hrw
            have f0 : (wr).frozen? ⟨w.heap.size, 0, none⟩ = false := frozen_of_row (wr) (w.heap.size) 0 _ _ hrw
            have f1 : (wr).frozen? ⟨w.heap.size, 1, none⟩ = false := frozen_of_row (wr) (w.heap.size) 1 _ _ hrw
            have f2 : (wr).frozen? ⟨w.heap.size, 2, none⟩ = false := frozen_of_row (wr) (w.heap.size) 2 _ _ hrw
            have f3 : (wr).frozen? ⟨w.heap.size, 3, none⟩ = false := frozen_of_row (wr) (w.heap.size) 3 _ _ hrw
            clear hr hv hfin hpv hXI o1 hrw hlX hDk HNS HRB HPZ hg2
            go_wp2
            refine bodyPost_ret (v := .tuple #[.agg #[.int .i64 PF.a, .int .i64 PF.b, .int .i64 PF.c, .slice A0 lX k0], .int .i64 0]) (ret_pat2 rfl rfl rfl HF.out.1) rfl ?_
            rw [HZ.out]
            exact ⟨_, rfl, HF.out.2⟩
    · have HB2 := Lib.hid (show PF = zeroP ∧ ZF = 3 by
        rw [HPZ.out.1, HPZ.out.2, prsT_no HB.out]
        · exact ⟨rfl, rfl⟩
        · intro x e
          cases bd with
          | true => rw [H67.out.1 rfl] at e; cases e
          | false =>
            obtain ⟨y, L1, y1, -⟩ := H67.out.2 rfl
            rw [y1] at e
            simp only [Option.some.injEq, Prod.mk.injEq, List.drop_eq_nil_iff] at e
            exact hgood ⟨rfl, by have := H3.out.2.2.1; omega⟩)
      have HP := Lib.hid (put_zero (w := w) H3.out.1 H3.out.2.1 (Nat.le_refl _))
      have hr3 := H3.out.1
      obtain ⟨r0, r1, r2, r3, r4⟩ := PBox.cells hr3
      have f0 : (w3).frozen? ⟨w.heap.size, 0, none⟩ = false := frozen_of_row (w3) (w.heap.size) 0 _ _ hr3
      have f1 : (w3).frozen? ⟨w.heap.size, 1, none⟩ = false := frozen_of_row (w3) (w.heap.size) 1 _ _ hr3
      have f2 : (w3).frozen? ⟨w.heap.size, 2, none⟩ = false := frozen_of_row (w3) (w.heap.size) 2 _ _ hr3
      have f3 : (w3).frozen? ⟨w.heap.size, 3, none⟩ = false := frozen_of_row (w3) (w.heap.size) 3 _ _ hr3
      cases bd with
      | true =>
        clear H67 H3 HPZ HMO hgood hr3
        go_wp2
        refine bodyPost_ret (v := .tuple #[.agg #[.int .i64 0, .int .i64 0, .int .i64 0, .slice none 0 0], .int .i64 3]) (ret_pat2 rfl rfl rfl HP.out.1) rfl ?_
        rw [HB2.out.1, HB2.out.2]
        exact OutP.zero HP.out.2
      | false =>
        have d1 : ((j : Int) == (n : Int)) = false := by rw [beq_eq_false_iff_ne]; intro e; exact hgood ⟨rfl, by omega⟩
        have d2 : ((j : Int) != (n : Int)) = true := by rw [bne, d1]; rfl
        clear H67 H3 HPZ HMO hgood hr3
        go_wp2
        refine bodyPost_ret (v := .tuple #[.agg #[.int .i64 0, .int .i64 0, .int .i64 0, .slice none 0 0], .int .i64 3]) (ret_pat2 rfl rfl rfl HP.out.1) rfl ?_
        rw [HB2.out.1, HB2.out.2]
        exact OutP.zero HP.out.2
end Go.Proofs.YtlinldbbhdpgcaaGreatDoor
