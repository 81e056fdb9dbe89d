/-
  BOOKS: parted and nothing, of the statements over all layers.
-/
import Derived.Test.YtaadelcmhbgpnaaGreatDoorRelA
import Derived.Test.YtaadelcmhbgpnaaGreatDoorPstC
import Derived.Test.YtaadelcmhbgpnaaGreatDoorAccB
import Derived.Test.YtaadelcmhbgpnaaGreatDoorWriA
namespace Go.Proofs.YtaadelcmhbgpnaaGreatDoor
open Go.RowKit
open Go.Lib
attribute [local go_sem] grow_cell grow_frozen
/-! ### nothing -/
theorem parseP_val {t : List UInt8} {x : Po} (h : parseP t = some x) : valPo [x] = 0 := by
  unfold parseP at h
  split at h
  · rename_i he
    have := he.choose_spec
    rw [Option.some.inj h] at this
    exact this.1
  · cases h
theorem postL_val : ∀ {ts : List (List UInt8)} {l : List Po}, postL ts = some l → ∀ x ∈ l, valPo [x] = 0
  | [], l, h, x, hx => by
    rw [postL] at h
    rw [← Option.some.inj h] at hx
    simp at hx
  | t :: ts, l, h, x, hx => by
    rw [postL] at h
    split at h
    · split at h
      · cases h
      · rename_i y hy
        cases h2 : postL ts with
        | none => rw [h2] at h; cases h
        | some m =>
          rw [h2] at h
          have h3 : y :: m = l := Option.some.inj h
          rw [← h3] at hx
          rcases List.mem_cons.1 hx with e | e
          · rw [e]; exact parseP_val hy
          · exact postL_val h2 x e
    · exact postL_val h x hx
theorem posts_val {X : List UInt8} {l : List Po} (h : postsV X = (l, 0)) : valPo l = 0 := by
  unfold postsV at h
  split at h
  · simp at h
  · split at h
    · simp at h
    · rename_i l2 h2
      split at h
      · simp at h
      · rename_i h64
        simp only [Prod.mk.injEq, and_true] at h
        subst h
        have hx := postL_val h2
        refine val_ok h64 ?_ fun k hk => (valPo_one.1 (hx _ (List.getElem_mem hk))).2
        rw [List.all_eq_true]
        exact fun x hm => (valPo_one.1 (hx x hm)).1
theorem triT_facts (l : List Po) : (triV l).length ≤ 128 ∧ (∀ y ∈ triV l, -140737488355328 ≤ y ∧ y ≤ 140737488355328) ∧ (triV l).sum = 0 := by
  unfold triV accsV
  split
  · rename_i h
    obtain ⟨h1, h2⟩ := val_bd h
    have h3 := accT_len (sdL l)
    have h4 := sdL_len l
    refine ⟨by rw [List.length_map]; omega, fun y hy => ?_, trial_zero l⟩
    obtain ⟨a, -, rfl⟩ := List.mem_map.1 hy
    obtain ⟨h5, h6⟩ := balS_bound (sdL l) h2 a
    omega
  · exact ⟨by simp, fun y hy => by simp at hy, rfl⟩
theorem takeT_sum {T : List Int} {k : Nat} (h : k < T.length) : (T.take (k + 1)).sum = (T.take k).sum + T.getD k 0 := by
  rw [List.take_succ_eq_append_getElem h, List.sum_append]
  simp [h]
theorem sumTr_bd {T : List Int} (hb : ∀ y ∈ T, -140737488355328 ≤ y ∧ y ≤ 140737488355328) : ∀ k, k ≤ T.length → -(k * 140737488355328) ≤ (T.take k).sum ∧ (T.take k).sum ≤ k * 140737488355328
  | 0, _ => by simp
  | k + 1, h => by
    obtain ⟨h1, h2⟩ := sumTr_bd hb k (by omega)
    have hk : k < T.length := by omega
    have := hb (T.getD k 0) (by simp [hk])
    rw [takeT_sum hk]
    omega
set_option maxRecDepth 100000 in
set_option maxHeartbeats 2000000 in
theorem nothing_any (s : ByteArray) (hs : s.size ≤ 1000000) (w : World) (hl : LibOK w) :
    Calls Tryz.prog 38 #[.string s] w fun e w' => e = .returned (.bool true) ∧ Below w.heap.size w w' := by
  have HP := Lib.hid (ppostings_any s hs w hl)
  clear hl
  obtain ⟨l, z, hv⟩ : ∃ l z, postsV s.data.toList = (l, z) := ⟨_, _, rfl⟩
  have HV := Lib.hid hv
  clear hv
  go_enter Tryz.func38, Tryz.ntmps38
  go_wp2_with fail
  refine HP.out.mono ?_
  rintro e w1 ⟨v, rfl, hO, hb1⟩
  rw [HV.out] at hO ⊢
  simp only at hO ⊢
  obtain ⟨A1, c1, rfl, hI1, -⟩ := hO.parts
  have HI := Lib.hid hI1
  have HB1 := Lib.hid hb1
  clear hO hI1 hb1 HP
  by_cases hz : z = 0
  · subst hz
    have hvl := posts_val HV.out
    have hll := (val_bd hvl).1
    have HT := ptri_any l A1 c1 (by omega) w1 HI.out
    rw [hvl] at HT
    have HTT := Lib.hid HT
    clear HT hvl
    go_wp2_with fail
    refine HTT.out.mono ?_
    rintro e w5 ⟨v5, rfl, hO5, hb5⟩
    obtain ⟨A5, c5, rfl, hT5⟩ := hO5.isL
    obtain ⟨f1, f2, f3⟩ := triT_facts l
    obtain ⟨T, hT⟩ : ∃ T, T = triV l := ⟨_, rfl⟩
    rw [← hT] at f1 f2 f3 hT5
    rw [← hT]
    have HF2 := Lib.hid f2
    have HF3 := Lib.hid f3
    have HT5 := Lib.hid hT5
    have HB5 := Lib.hid (HB1.out.trans (hb5.mono HB1.out.size))
    clear hT f2 f3 hO5 hb5 hT5 HTT
    go_upto_region 7 with fail
    go_loopw [7, 8] (fun v i wr => ∃ (S : Int) (k : Nat), v = .int .i64 S ∧ i = .int .i64 k ∧ k ≤ T.length ∧ Hid (S = (T.take k).sum) ∧ Hid (Below w5.heap.size w5 wr)) (fun _ i _ => T.length - (RowKit.intOf i).toNat)
    case atStart => exact ⟨0, 0, rfl, rfl, by omega, Lib.hid rfl, Lib.hid (Below.refl _ _)⟩
    case round =>
      obtain ⟨S, k, rfl, rfl, hk, hS, hB⟩ := hrel
      by_cases hlt : k < T.length
      · have dl : decide ((k : Int) < (T.length : Int)) = true := decide_eq_true (by omega)
        obtain ⟨b, o, rfl, hb, hc⟩ := (HT5.out.below hB.out).2 (by omega)
        have q0 := hc k hlt
        have hst := takeT_sum hlt
        obtain ⟨s1, s2⟩ := sumTr_bd HF2.out k hk
        obtain ⟨s3, s4⟩ := HF2.out (T.getD k 0) (by simp [hlt])
        obtain ⟨x, hx⟩ : ∃ x, x = T.getD k 0 := ⟨_, rfl⟩
        rw [← hx] at q0 hst s3 s4
        rw [← hS.out] at hst s1 s2
        have HST := Lib.hid hst
        clear hc hx hst hS
        go_wp2
        go_roundw
        case rel => exact ⟨S + x, k + 1, by go_num, by go_num, by omega, Lib.hid HST.out.symm, hB⟩
        case measure => simp [RowKit.intOf]; omega
      · obtain rfl : k = T.length := by omega
        have dl : decide ((T.length : Int) < (T.length : Int)) = false := decide_eq_false (by omega)
        have hS0 : S = 0 := by
          have := hS.out
          rw [List.take_length, HF3.out] at this
          exact this
        subst hS0
        have HBw := Lib.hid (HB5.out.trans (hB.out.mono HB5.out.size))
        clear hS hB
        go_wp2
        go_ret
        exact ⟨rfl, HBw.out⟩
  · have dz : (z != 0) = true := by simpa using hz
    clear hz
    go_wp2
    go_ret
    exact ⟨rfl, HB1.out⟩
/-! ### parted -/
theorem relL_four : ∀ (l m : List Ln) (i : Nat), (relL l m i = (0, 0) ∧ l = m) ∨ (relL l m i = (1, 0) ∧ l.length < m.length) ∨ (relL l m i = (2, 0) ∧ m.length < l.length) ∨
    ∃ k : Nat, relL l m i = (3, (i : Int) + k + 1) ∧ ∃ (h1 : k < l.length) (h2 : k < m.length), l[k] ≠ m[k] ∧ ∀ j (h : j < k), l[j] = m[j]
  | [], [], i => .inl ⟨by rw [relL], rfl⟩
  | [], y :: m, i => .inr (.inl ⟨by rw [relL], by simp⟩)
  | x :: l, [], i => .inr (.inr (.inl ⟨by rw [relL], by simp⟩))
  | x :: l, y :: m, i => by
    rw [relL]
    by_cases h : x = y
    · rw [if_pos (eqLn_iff.2 h)]
      rcases relL_four l m (i + 1) with ⟨h1, h2⟩ | ⟨h1, h2⟩ | ⟨h1, h2⟩ | ⟨k, h1, h2, h3, h4, h5⟩
      · exact .inl ⟨h1, by rw [h, h2]⟩
      · exact .inr (.inl ⟨h1, by simpa using h2⟩)
      · exact .inr (.inr (.inl ⟨h1, by simpa using h2⟩))
      · refine .inr (.inr (.inr ⟨k + 1, ?_, by simpa using h2, by simpa using h3, by simpa using h4, fun j hj => ?_⟩))
        · rw [h1]; simp only [Prod.mk.injEq, true_and]; omega
        · cases j with
          | zero => simpa using h
          | succ j => simpa using h5 j (by omega)
    · rw [if_neg (fun e => h (eqLn_iff.1 e))]
      refine .inr (.inr (.inr ⟨0, by simp, by simp, by simp, by simpa using h, fun j hj => by omega⟩))
theorem lnS_inj : ∀ (us ts : List (List UInt8)) (n : Nat) (b : Int), lnS n b us = lnS n b ts → us = ts
  | [], [], _, _, _ => rfl
  | [], t :: ts, n, b, h => by simp [lnS] at h
  | u :: us, [], n, b, h => by simp [lnS] at h
  | u :: us, t :: ts, n, b, h => by
    rw [lnS, lnS] at h
    injection h with h1 h2
    have hut : u = t := by
      have h3 := congrArg (fun x => x.t.data.toList) h1
      simpa using h3
    subst hut
    rw [lnS_inj us ts _ _ h2]
theorem whole_uniq {s t : ByteArray} {us : List (List UInt8)} (h1 : readB 200 1 0 s.data.toList = (us, [])) (h2 : readB 200 1 0 t.data.toList = (us, [])) : s = t := by
  have e1 := (reads_of 200 1 0 s.data.toList).eq
  have e2 := (reads_of 200 1 0 t.data.toList).eq
  rw [h1] at e1
  rw [h2] at e2
  exact toList_inj (e1.trans e2.symm)
set_option maxRecDepth 100000 in
set_option maxHeartbeats 4000000 in
theorem parted_any (s t : ByteArray) (hs : s.size ≤ 1000000) (ht : t.size ≤ 1000000) (us ts : List (List UInt8)) (h1 : readB 200 1 0 s.data.toList = (us, [])) (h2 : readB 200 1 0 t.data.toList = (ts, [])) (w : World) (hl : LibOK w) :
    Calls Tryz.prog 37 #[.string s, .string t] w fun e w' => e = .returned (.bool true) ∧ Below w.heap.size w w' := by
  have HL := Lib.hid hl
  obtain ⟨r, n, z, hm⟩ : ∃ r n z, relV s.data.toList t.data.toList = (r, n, z) := ⟨_, _, _, rfl⟩
  have HRL := Lib.hid (prel_any s t hs ht r n z hm w hl)
  have HP1 := Lib.hid (fun w' h => pread_any s hs w' h)
  have HP2 := Lib.hid (fun w' h => pread_any t ht w' h)
  unfold relV at hm
  rw [if_neg (by rw [h1, h2]; simp), h1, h2] at hm
  simp only [Prod.mk.injEq] at hm
  obtain ⟨hm1, hm2, rfl⟩ := hm
  have hst : lnS 1 0 us = lnS 1 0 ts → s = t := fun h => by
    have := lnS_inj _ _ _ _ h
    rw [← this] at h2
    exact whole_uniq h1 h2
  have hts : s = t → lnS 1 0 us = lnS 1 0 ts := fun h => by
    rw [h, h2] at h1
    simp only [Prod.mk.injEq, and_true] at h1
    rw [h1]
  obtain ⟨l, hll⟩ : ∃ l, l = lnS 1 0 us := ⟨_, rfl⟩
  obtain ⟨m, hmm⟩ : ∃ l, l = lnS 1 0 ts := ⟨_, rfl⟩
  have hl2 : l.length ≤ 1000000 := by
    have := read_200 s.data.toList
    rw [h1] at this
    simp only at this
    rw [hll, lnS_len]; omega
  have hm2l : m.length ≤ 1000000 := by
    have := read_200 t.data.toList
    rw [h2] at this
    simp only at this
    rw [hmm, lnS_len]; omega
  rw [← hll, ← hmm] at hm1 hm2 hst hts
  have H1 := Lib.hid (show readB 200 1 0 s.data.toList = (us, []) from h1)
  have H2 := Lib.hid (show readB 200 1 0 t.data.toList = (ts, []) from h2)
  have HLM := Lib.hid (And.intro hll hmm)
  clear h1 h2 hll hmm hl
  have hfour := relL_four l m 0
  have HM := Lib.hid (And.intro hm1 hm2)
  clear hm1 hm2
  go_enter Tryz.func37, Tryz.ntmps37
  go_wp2_with fail
  refine HRL.out.mono ?_
  rintro e w1 ⟨rfl, hb1⟩
  have HB1 := Lib.hid hb1
  have L1 := Lib.hid (HL.out.below hb1)
  clear hb1 HRL
  go_wp2_with fail
  refine (HP1.out _ L1.out).mono ?_
  rintro e w2 ⟨v, r1, rfl, hr, hO, hb2⟩
  rw [H1.out] at hr hO
  simp only at hr hO
  rw [← HLM.out.1] at hO
  obtain ⟨A1, c1, rfl, hI1, -⟩ := hO.parts
  have HI1 := Lib.hid hI1
  have HB2 := Lib.hid (HB1.out.trans (hb2.mono HB1.out.size))
  have L2 := Lib.hid (HL.out.below HB2.out)
  clear hr hO hI1 hb2 HB1 L1 HP1
  go_wp2_with fail
  refine (HP2.out _ L2.out).mono ?_
  rintro e w3 ⟨v, r2, rfl, hr, hO, hb3⟩
  rw [H2.out] at hr hO
  simp only at hr hO
  rw [← HLM.out.2] at hO
  obtain ⟨A2, c2, rfl, hI2, -⟩ := hO.parts
  have HI2 := Lib.hid hI2
  have HI1b := Lib.hid (HI1.out.below hb3)
  have HB3 := Lib.hid (HB2.out.trans (hb3.mono HB2.out.size))
  clear hr hO hI2 hb3 HB2 L2 HP2 HI1
  rcases hfour with ⟨h0, he⟩ | ⟨h0, he⟩ | ⟨h0, he⟩ | ⟨k, h0, hk1, hk2, hne, heq⟩
  · have hse := hst he
    obtain ⟨rfl, rfl⟩ : 0 = r ∧ 0 = n := by have := HM.out; rw [h0] at this; exact this
    have e1 : (s.toList == t.toList) = true := by rw [hse]; simp
    clear hst hts h0 he hse
    go_wp2
    go_ret
    exact ⟨rfl, HB3.out⟩
  · have hse : s ≠ t := fun h => by have := hts h; rw [this] at he; omega
    obtain ⟨rfl, rfl⟩ : 1 = r ∧ 0 = n := by have := HM.out; rw [h0] at this; exact this
    have e1 : (s.toList == t.toList) = false := by
      rw [beq_eq_false_iff_ne, Lib.toList_data, Lib.toList_data]; exact fun h => hse (toList_inj h)
    have dl : decide ((l.length : Int) < (m.length : Int)) = true := decide_eq_true (by omega)
    clear hst hts h0 hse
    go_wp2
    go_ret
    exact ⟨rfl, HB3.out⟩
  · have hse : s ≠ t := fun h => by have := hts h; rw [this] at he; omega
    obtain ⟨rfl, rfl⟩ : 2 = r ∧ 0 = n := by have := HM.out; rw [h0] at this; exact this
    have e1 : (s.toList == t.toList) = false := by
      rw [beq_eq_false_iff_ne, Lib.toList_data, Lib.toList_data]; exact fun h => hse (toList_inj h)
    have dl : decide ((m.length : Int) < (l.length : Int)) = true := decide_eq_true (by omega)
    clear hst hts h0 hse
    go_wp2
    go_ret
    exact ⟨rfl, HB3.out⟩
  · have hse : s ≠ t := fun h => by
      have := hts h
      subst this
      exact hne rfl
    have e1 : (s.toList == t.toList) = false := by
      rw [beq_eq_false_iff_ne, Lib.toList_data, Lib.toList_data]; exact fun h => hse (toList_inj h)
    obtain ⟨rfl, rfl⟩ : 3 = r ∧ (k : Int) + 1 = n := by
      have := HM.out; rw [h0] at this
      refine ⟨this.1, ?_⟩
      have h := this.2
      simp only at h
      omega
    obtain ⟨b, o, rfl, hb, hc⟩ := HI1b.out (by omega)
    obtain ⟨b2, o2, rfl, hb2, hc2⟩ := HI2.out (by omega)
    obtain ⟨q0, q1, q2⟩ := hc k hk1
    obtain ⟨p0, p1, p2⟩ := hc2 k hk2
    cases k with
    | zero =>
      clear hst hts h0 hse heq hc hc2
      have z1 : (1 : Int) ≤ (l.length : Int) := by omega
      have z2 : (1 : Int) ≤ (m.length : Int) := by omega
      simp only [Nat.zero_mul, Nat.add_zero] at q0 q1 q2 p0 p1 p2
      obtain ⟨⟨xn, xt, xz⟩, hx⟩ : ∃ x, x = l[0] := ⟨_, rfl⟩
      obtain ⟨⟨yn, yt, yz⟩, hy⟩ : ∃ x, x = m[0] := ⟨_, rfl⟩
      rw [← hx] at q0 q1 q2 hne
      rw [← hy] at p0 p1 p2 hne
      simp only at q0 q1 q2 p0 p1 p2
      clear hx hy
      by_cases e1 : xn = yn
      · subst e1
        by_cases e2 : xt = yt
        · subst e2
          have e3 : xz ≠ yz := fun h => hne (by rw [h])
          have f1 : (xz == yz) = false := by rw [beq_eq_false_iff_ne]; exact e3
          clear e3 hne
          go_upto_region 8 with fail
          refine region_grow (by kernel_rfl) (by kernel_rfl) ?_
          repeat (go_big_quiet_step ((rfl)))
          refine wpQuiet_nil ?_
          rintro w5 ⟨xg, hxg⟩
          have hb5 := below_grow w3 xg
          rw [← hxg] at hb5
          clear hxg xg
          go_wp2
          go_ret
          exact ⟨rfl, HB3.out.trans (hb5.mono HB3.out.size)⟩
        · have f1 : (xt.toList == yt.toList) = false := by
            rw [beq_eq_false_iff_ne, Lib.toList_data, Lib.toList_data]
            exact fun h => e2 (toList_inj h)
          clear e2 hne
          go_upto_region 8 with fail
          refine region_grow (by kernel_rfl) (by kernel_rfl) ?_
          repeat (go_big_quiet_step ((rfl)))
          refine wpQuiet_nil ?_
          rintro w5 ⟨xg, hxg⟩
          have hb5 := below_grow w3 xg
          rw [← hxg] at hb5
          clear hxg xg
          go_wp2
          go_ret
          exact ⟨rfl, HB3.out.trans (hb5.mono HB3.out.size)⟩
      · have f1 : ((xn : Int) == (yn : Int)) = false := by rw [beq_eq_false_iff_ne]; omega
        clear e1 hne
        go_upto_region 8 with fail
        refine region_grow (by kernel_rfl) (by kernel_rfl) ?_
        repeat (go_big_quiet_step ((rfl)))
        refine wpQuiet_nil ?_
        rintro w5 ⟨xg, hxg⟩
        have hb5 := below_grow w3 xg
        rw [← hxg] at hb5
        clear hxg xg
        go_wp2
        go_ret
        exact ⟨rfl, HB3.out.trans (hb5.mono HB3.out.size)⟩
    | succ j =>
      obtain ⟨q3, q4, q5⟩ := hc j (by omega)
      obtain ⟨p3, p4, p5⟩ := hc2 j (by omega)
      rw [heq j (by omega)] at q3 q4 q5
      obtain ⟨⟨un, ut, uz⟩, hu⟩ : ∃ x, x = m[j] := ⟨_, rfl⟩
      rw [← hu] at q3 q4 q5 p3 p4 p5
      simp only at q3 q4 q5 p3 p4 p5
      clear hst hts h0 hse heq hc hc2 hu
      have z1 : (j : Int) + 2 ≤ (l.length : Int) := by omega
      have z2 : (j : Int) + 2 ≤ (m.length : Int) := by omega
      rw [show ((j + 1 : Nat) : Int) + 1 = (j : Int) + 2 by omega]
      have z0 : (1 : Int) ≤ (j : Int) + 2 := by omega
      have z3 : ((j : Int) + 2 == 1) = false := by rw [beq_eq_false_iff_ne]; omega
      have jl : j ≤ 1000000 := by omega
      have w1 : wrap64 ((j : Int) + 2 - 1) = ((j + 1 : Nat) : Int) := by rw [IntWalk.wrap64_in _ ⟨by omega, by omega⟩]; omega
      have w2 : wrap64 ((j : Int) + 2 - 2) = (j : Int) := by rw [IntWalk.wrap64_in _ ⟨by omega, by omega⟩]; omega
      obtain ⟨⟨xn, xt, xz⟩, hx⟩ : ∃ x, x = l[j + 1] := ⟨_, rfl⟩
      obtain ⟨⟨yn, yt, yz⟩, hy⟩ : ∃ x, x = m[j + 1] := ⟨_, rfl⟩
      rw [← hx] at q0 q1 q2 hne
      rw [← hy] at p0 p1 p2 hne
      simp only at q0 q1 q2 p0 p1 p2
      clear hx hy
      by_cases e1 : xn = yn
      · subst e1
        by_cases e2 : xt = yt
        · subst e2
          have e3 : xz ≠ yz := fun h => hne (by rw [h])
          have f1 : (xz == yz) = false := by rw [beq_eq_false_iff_ne]; exact e3
          clear e3 hne
          go_upto_region 8 with fail
          refine region_grow (by kernel_rfl) (by kernel_rfl) ?_
          repeat (go_big_quiet_step ((rfl)))
          refine wpQuiet_nil ?_
          rintro w5 ⟨xg, hxg⟩
          have hb5 := below_grow w3 xg
          rw [← hxg] at hb5
          clear hxg xg
          go_wp2
          go_ret
          exact ⟨rfl, HB3.out.trans (hb5.mono HB3.out.size)⟩
        · have f1 : (xt.toList == yt.toList) = false := by
            rw [beq_eq_false_iff_ne, Lib.toList_data, Lib.toList_data]
            exact fun h => e2 (toList_inj h)
          clear e2 hne
          go_upto_region 8 with fail
          refine region_grow (by kernel_rfl) (by kernel_rfl) ?_
          repeat (go_big_quiet_step ((rfl)))
          refine wpQuiet_nil ?_
          rintro w5 ⟨xg, hxg⟩
          have hb5 := below_grow w3 xg
          rw [← hxg] at hb5
          clear hxg xg
          go_wp2
          go_ret
          exact ⟨rfl, HB3.out.trans (hb5.mono HB3.out.size)⟩
      · have f1 : ((xn : Int) == (yn : Int)) = false := by rw [beq_eq_false_iff_ne]; omega
        clear e1 hne
        go_upto_region 8 with fail
        refine region_grow (by kernel_rfl) (by kernel_rfl) ?_
        repeat (go_big_quiet_step ((rfl)))
        refine wpQuiet_nil ?_
        rintro w5 ⟨xg, hxg⟩
        have hb5 := below_grow w3 xg
        rw [← hxg] at hb5
        clear hxg xg
        go_wp2
        go_ret
        exact ⟨rfl, HB3.out.trans (hb5.mono HB3.out.size)⟩
end Go.Proofs.YtaadelcmhbgpnaaGreatDoor
