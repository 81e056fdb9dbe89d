/-
  BOOKS: append of a whole slice of texts; put of the reference.
-/
import Derived.Test.YtaadelcmhbgpnaaGreatDoorAccB
import Derived.Deep.MidRow
import Derived.Deep.AppendLies
import Derived.Test.YtaadelcmhbgpnaaGreatDoorRegP
namespace Go.Proofs.YtaadelcmhbgpnaaGreatDoor
open Go.RowKit
open Go.Lib
/-- The cells cs lie at A. -/
def CellsAt (w : World) (A : Option Addr) (cs : List Value) : Prop := 0 < cs.length → ∃ b o, A = some ⟨b, o, none⟩ ∧ b < w.heap.size ∧ ∀ j v, cs[j]? = some v → w.cell? ⟨b, o + j, none⟩ = some v
section
variable {P : Program}
theorem run_append_nil (w : World) (t ty e : TypeId) (i : TypeInfo) (size base : Nat) (ht : P.underlying t = some (.slice e)) (hi : P.info? e = some i) (v : Value) (n c : Nat) (xs : List Value) (hown : w.ownsRow base e size v n xs) :
    (Builtin.append_ #[t, t] ty #[v, .slice none 0 c]).run P w = .ok v w := by
  rcases hown.2 with ⟨rfl, rfl⟩ | ⟨g, cap, cur, rfl, _, _, hnc, _⟩
  · simp [Builtin.append_, run_underlying ht, sizeOf, typeInfo, hi, Builtin.lenOf, Builtin.firstCells]
  · simp [Builtin.append_, run_underlying ht, sizeOf, typeInfo, hi, Builtin.lenOf, Builtin.firstCells, hnc, storeCells]
/-- append of all of a slice, which may be nil or empty. -/
theorem app_run (w : World) (t ty e : TypeId) (i : TypeInfo) (z : Value) (size bytes base : Nat) (ht : P.underlying t = some (.slice e)) (hi : P.info? e = some i) (hz : i.zero = some z)
    (hsize : i.size = size) (hby : i.bytes = bytes) (hzs : z.cells.size = size) (hsz : 0 < size) (v : Value) (n : Nat) (xs : List Value) (hown : w.ownsRow base e size v n xs)
    (A : Option Addr) (m c : Nat) (news : List Value) (hl : news.length = m * size) (hc : CellsAt w A news) (h1 : ∀ u ∈ news, u.oneCell' = true)
    (h63 : n + m ≤ maxLen) (hbytes : (n + m) * bytes ≤ 140737488355328) (hbase : base ≤ w.heap.size) :
    ∃ v' w', (Builtin.append_ #[t, t] ty #[v, .slice A m c]).run P w = .ok v' w' ∧ w'.ownsRow base e size v' (n + m) (xs ++ news) ∧ w.grownBy w' v.ownBlock ∧ (v'.ownBlock = v.ownBlock ∨ v'.ownBlock = some w.heap.size) := by
  cases A with
  | none =>
    have hm : m = 0 := by
      rcases Nat.eq_zero_or_pos m with h | h
      · exact h
      · obtain ⟨b, o, hb, -⟩ := hc (by rw [hl]; exact Nat.mul_pos h hsz)
        cases hb
    subst hm
    have hn : news = [] := List.eq_nil_of_length_eq_zero (by rw [hl, Nat.zero_mul])
    subst hn
    refine ⟨v, w, run_append_nil w t ty e i size base ht hi v n c xs hown, by rw [List.append_nil, Nat.add_zero]; exact hown, ⟨rfl, rfl, rfl, Nat.le_refl _, fun _ _ _ => rfl⟩, .inl rfl⟩
  | some a =>
    obtain ⟨v', w', hr, h2, h3, _, h5⟩ := run_append_own_at (P := P) w base t ty e i z size bytes ht hi hz hsize hby hzs hsz v n xs hown a m c news hl (fun j u hu => by
      have hp : 0 < news.length := by have := (List.getElem?_eq_some_iff.1 hu).1; omega
      obtain ⟨b, o, hb, -, hcc⟩ := hc hp
      cases hb
      rw [Addr.add_mid]
      exact hcc j u hu) h1 h63 hbytes hbase
    exact ⟨v', w', hr, h2, h3, h5⟩
end
section
variable {P : Program} {w : World} {ops : Array Oper} {rest : List Oper} {o : Oper} {a : Act} {Q : Exit → Act → World → Prop}
theorem exec_append (s x : Operand) (t : TypeId) (ho : o.op = .call { callee := .builtin .append, args := #[s, x], argTypes := #[t, t] }) (v y v' : Value) (w' : World) (hs : a.eval s = v) (hx : a.eval x = y)
    (hr : (Builtin.append_ #[t, t] o.type #[v, y]).run P w = .ok v' w') : (execOp a.eval o).run P w = .ok (.value v') w' := by
  unfold execOp
  simp only [ho, resolve, invoke, builtin, Sem.run_bind, Sem.run_pure, Result.andThen_ok, List.map_toArray, List.map_cons, List.map_nil, hs, hx, hr]
theorem wpList_app (hgd : o.guard = none) (s x : Operand) (t : TypeId) (ho : o.op = .call { callee := .builtin .append, args := #[s, x], argTypes := #[t, t] }) (v y v' : Value) (w' : World) (hs : a.eval s = v) (hx : a.eval x = y)
    (hr : (Builtin.append_ #[t, t] o.type #[v, y]).run P w = .ok v' w') (h : wpList P ops Q rest (a.put o.dst v') w') : wpList P ops Q (o :: rest) a w := by
  refine wpList_plain hgd fun K hK => ?_
  unfold Oper.wp
  rw [exec_append s x t ho v y v' w' hs hx hr]
  exact hK _ _ h
end
theorem IsS.cells {w : World} {A : Option Addr} {n : Nat} {xs : List ByteArray} (h : IsS w A n xs) : CellsAt w A (xs.map Value.string) := by
  intro hp
  obtain ⟨b, o, rfl, hb, hc⟩ := h.2 (by have := h.1; simp at hp; omega)
  refine ⟨b, o, rfl, hb, fun j v hv => ?_⟩
  obtain ⟨hj, rfl⟩ := List.getElem?_eq_some_iff.1 hv
  rw [List.length_map] at hj
  rw [hc j hj]; simp
theorem IsS.drop {w : World} {A : Option Addr} {xs : List ByteArray} (h : IsS w A xs.length xs) (j : Nat) : IsS w (A.map (fun x => x.add j)) (xs.length - j) (xs.drop j) := by
  refine ⟨by simp, fun hp => ?_⟩
  obtain ⟨b, o, rfl, hb, hc⟩ := h.2 (by omega)
  refine ⟨b, o + j, by simp [Addr.add], hb, fun k hk => ?_⟩
  rw [List.length_drop] at hk
  have h1 := hc (j + k) (by omega)
  rw [List.getElem_drop, show o + j + k = o + (j + k) by omega]
  exact h1
theorem IsS.drop_some {w : World} {b o : Nat} {xs : List ByteArray} (h : IsS w (some ⟨b, o, none⟩) xs.length xs) (j : Nat) : IsS w (some ⟨b, o + j, none⟩) (xs.length - j) (xs.drop j) := by
  have := h.drop j
  rw [show Option.map (fun x : Addr => x.add j) (some (⟨b, o, none⟩ : Addr)) = some ⟨b, o + j, none⟩ by simp [Addr.add]] at this
  exact this
/-- append(s, l...) of a whole slice of texts. -/
theorem append_strs {w : World} {ops : Array Oper} {rest : List Oper} {o : Oper} {a : Act} {Q : Exit → Act → World → Prop} (s x : Operand)
    (ho : o.op = .call { callee := .builtin .append, args := #[s, x], argTypes := #[22, 22] }) (hgd : o.guard = none)
    (B : Nat) (v : Value) (xs ys : List ByteArray) (A : Option Addr) (m c : Nat) (hs : a.eval s = v) (hown : OwnS w B v xs) (hx : a.eval x = .slice A m c) (hy : IsS w A m ys)
    (hn : xs.length + m ≤ 1000000) (hB : B ≤ w.heap.size)
    (h : ∀ v' w', OwnS w' B v' (xs ++ ys) → w.grownBy w' v.ownBlock → wpList Tryz.prog ops Q rest (a.put o.dst v') w') : wpList Tryz.prog ops Q (o :: rest) a w := by
  obtain ⟨i0, hi, hz0, hz1, hz2⟩ := info_parts strInfo
  obtain ⟨v', w', h1, h2, h3, -⟩ := app_run (P := Tryz.prog) w 22 o.type 9 i0 (.string ByteArray.empty) 1 16 B Tryz.underlying22 hi hz0 hz1 hz2 rfl (by decide) v xs.length _ hown A m c (ys.map Value.string) (by rw [List.length_map, hy.1]; simp) hy.cells
    (fun u hu => by obtain ⟨y, -, rfl⟩ := List.mem_map.1 hu; rfl) (by unfold maxLen; omega) (by omega) hB
  refine wpList_app hgd s x 22 ho v _ v' w' hs hx h1 (h v' w' ?_ h3)
  unfold OwnS
  rw [List.length_append, List.map_append, hy.1]
  exact h2
theorem putB_step {l : List ByteArray} {s : ByteArray} {k : Nat} (hlt : k < l.length) (h : bLt l[k] s) : l.take k ++ putB (l.drop k) s = l.take (k + 1) ++ putB (l.drop (k + 1)) s := by
  rw [List.drop_eq_getElem_cons hlt]
  conv => lhs; unfold putB
  rw [if_pos h, List.take_succ_eq_append_getElem hlt, List.append_assoc]
  rfl
theorem putB_same {l : List ByteArray} {s : ByteArray} {k : Nat} (hlt : k < l.length) (h : ¬ bLt l[k] s) (he : l[k] = s) : l.take k ++ putB (l.drop k) s = (l.take k ++ [s]) ++ l.drop (k + 1) := by
  rw [List.drop_eq_getElem_cons hlt]
  conv => lhs; unfold putB
  rw [if_neg h, if_pos he]
  simp
theorem putB_less {l : List ByteArray} {s : ByteArray} {k : Nat} (hlt : k < l.length) (h : ¬ bLt l[k] s) (he : l[k] ≠ s) : l.take k ++ putB (l.drop k) s = (l.take k ++ [s]) ++ l.drop k := by
  rw [List.drop_eq_getElem_cons hlt]
  conv => lhs; unfold putB
  rw [if_neg h, if_neg he]
  simp
theorem putB_end {l : List ByteArray} {s : ByteArray} : l.take l.length ++ putB (l.drop l.length) s = (l.take l.length ++ [s]) ++ l.drop l.length := by
  simp [putB]
theorem bless : ∀ x y : List UInt8, Op.bytesLess x y = decide (x < y)
  | [], [] => by simp [Op.bytesLess]
  | [], _ :: _ => by simp [Op.bytesLess]
  | _ :: _, [] => by simp [Op.bytesLess]
  | a :: x, b :: y => by
    rw [Op.bytesLess, bless x y, Bool.eq_iff_iff]
    simp [List.cons_lt_cons_iff]
theorem bless_yes {x s : ByteArray} (h : bLt x s) : Op.bytesLess x.toList s.toList = true := by
  rw [bless, Lib.toList_data, Lib.toList_data]; exact decide_eq_true h
theorem bless_no {x s : ByteArray} (h : ¬ bLt x s) : Op.bytesLess x.toList s.toList = false := by
  rw [bless, Lib.toList_data, Lib.toList_data]; exact decide_eq_false h
set_option maxRecDepth 100000 in
set_option maxHeartbeats 2000000 in
theorem rput_any (l : List ByteArray) (A : Option Addr) (c : Nat) (s : ByteArray) (hn : l.length ≤ 1000) (hc : l.length ≤ c) (w : World) (hI : IsS w A l.length l) :
    Calls Tryz.prog 80 #[.slice A l.length c, .string s] w fun e w' => ∃ v, e = .returned v ∧ OwnS w' w.heap.size v (putB l s) ∧ Below w.heap.size w w' := by
  have HI := Lib.hid hI
  clear hI
  go_enter Tryz.func80, Tryz.ntmps80
  go_upto_region 3 with fail
  go_loopw [5, 6] (fun v i wr => ∃ k : Nat, i = .int .i64 k ∧ k ≤ l.length ∧ Hid (OwnS wr w.heap.size v (l.take k)) ∧ Hid (l.take k ++ putB (l.drop k) s = putB l s) ∧ Hid (Below w.heap.size w wr)) (fun _ i _ => l.length - (RowKit.intOf i).toNat)
  case atStart => exact ⟨0, rfl, by omega, Lib.hid (OwnS.nil _ _), Lib.hid (by simp), Lib.hid (Below.refl _ _)⟩
  case round =>
    obtain ⟨k, rfl, hk, hO, hP, hB⟩ := hrel
    by_cases hlt : k < l.length
    · obtain ⟨b, o, rfl, hb, hcl⟩ := (HI.out.below hB.out).2 (by omega)
      have q0 := hcl k hlt
      by_cases hx : bLt l[k] s
      · have HP1 := Lib.hid ((putB_step hlt hx).symm.trans hP.out)
        have HT := Lib.hid (List.take_succ_eq_append_getElem hlt)
        have HL := Lib.hid (show (l.take k).length ≤ 1000000 by rw [List.length_take]; omega)
        have hz := hB.out.size
        obtain ⟨x, hxe⟩ : ∃ x, x = l[k] := ⟨_, rfl⟩
        rw [← hxe] at q0 HT hx
        have hx' : Op.bytesLess x.toList s.toList = true := bless_yes hx
        clear hcl hxe hP hx
        go_wp2_with (at_builtin; refine append_str (.tmp 19) (.tmp 24) rfl rfl w.heap.size _ _ x wr rfl rfl hO.out rfl HL.out hz ?_)
        intro v' w4 ho hg' hd'
        have HB4 := Lib.hid (hB.out.grown hg' hz (fun g hg => (hO.out.lt g hg).1))
        have HO4 := Lib.hid (show OwnS w4 w.heap.size v' (l.take (k + 1)) by rw [HT.out]; exact ho)
        clear ho hg' hd' hO hB
        go_wp2
        go_roundw
        case rel => exact ⟨k + 1, by go_num, by omega, HO4, HP1, HB4⟩
        case measure => simp [RowKit.intOf]; omega
      · obtain ⟨x, hxe⟩ : ∃ x, x = l[k] := ⟨_, rfl⟩
        have HL := Lib.hid (show (l.take k).length ≤ 1000000 by rw [List.length_take]; omega)
        have hz := hB.out.size
        have hx' : Op.bytesLess x.toList s.toList = false := bless_no (hxe ▸ hx)
        by_cases he : l[k] = s
        · have HP2 := Lib.hid ((putB_same hlt hx he).symm.trans hP.out)
          have e1 : (x.toList == s.toList) = true := by rw [hxe, he]; simp
          have q5 : ∀ w4, Below w.heap.size w w4 → w4.cell? ⟨b, o + k, none⟩ = some (.string x) := fun w4 hb => by
            obtain ⟨b4, o4, hbo, hb4, hcl4⟩ := (HI.out.below hb).2 (by omega)
            cases hbo
            rw [hcl4 k hlt, hxe]
          rw [← hxe] at q0
          clear hcl hxe hP hx he
          go_wp2_with (at_builtin; refine append_str (.tmp 28) (.tmp 30) rfl rfl w.heap.size _ _ s wr rfl rfl hO.out rfl HL.out hz ?_)
          intro v' w4 ho hg' hd'
          have HB4 := Lib.hid (hB.out.grown hg' hz (fun g hg => (hO.out.lt g hg).1))
          have HO4 := Lib.hid ho
          have hI4 := HI.out.below HB4.out
          have HS4 := Lib.hid (hI4.drop_some (k + 1))
          have q4 := q5 w4 HB4.out
          have hz4 := HB4.out.size
          have HL4 := Lib.hid (show (l.take k ++ [s]).length + (l.length - (k + 1)) ≤ 1000000 by rw [List.length_append, List.length_take]; simp; omega)
          clear ho hg' hd' hO hB hI4 q0 q5
          go_wp2_with (at_builtin; refine append_strs (.tmp 46) (.tmp 49) rfl rfl w.heap.size _ _ (l.drop (k + 1)) _ _ _ rfl HO4.out rfl (by first | exact HS4.out | exact ⟨by simp, fun h => by omega⟩ | (split; exact ⟨by simp, fun h => by omega⟩; exact HS4.out)) HL4.out hz4 ?_; intro v5 w5 ho5 hg5)
          all_goals
            have HB5 := Lib.hid (HB4.out.grown hg5 hz4 (fun g hg => (HO4.out.lt g hg).1))
            have HO5 := Lib.hid ho5
            clear ho5 hg5
            go_wp2
            go_ret
            refine ⟨_, rfl, ?_, HB5.out⟩
            have := HO5.out
            rw [HP2.out] at this
            exact this
        · have HP2 := Lib.hid ((putB_less hlt hx he).symm.trans hP.out)
          have e1 : (x.toList == s.toList) = false := by
            rw [hxe, beq_eq_false_iff_ne, Lib.toList_data, Lib.toList_data]; exact fun h => he (toList_inj h)
          have q5 : ∀ w4, Below w.heap.size w w4 → w4.cell? ⟨b, o + k, none⟩ = some (.string x) := fun w4 hb => by
            obtain ⟨b4, o4, hbo, hb4, hcl4⟩ := (HI.out.below hb).2 (by omega)
            cases hbo
            rw [hcl4 k hlt, hxe]
          rw [← hxe] at q0
          clear hcl hxe hP hx he
          go_wp2_with (at_builtin; refine append_str (.tmp 28) (.tmp 30) rfl rfl w.heap.size _ _ s wr rfl rfl hO.out rfl HL.out hz ?_)
          intro v' w4 ho hg' hd'
          have HB4 := Lib.hid (hB.out.grown hg' hz (fun g hg => (hO.out.lt g hg).1))
          have HO4 := Lib.hid ho
          have hI4 := HI.out.below HB4.out
          have HS4 := Lib.hid (hI4.drop_some (k))
          have q4 := q5 w4 HB4.out
          have hz4 := HB4.out.size
          have HL4 := Lib.hid (show (l.take k ++ [s]).length + (l.length - (k)) ≤ 1000000 by rw [List.length_append, List.length_take]; simp; omega)
          clear ho hg' hd' hO hB hI4 q0 q5
          go_wp2_with (at_builtin; refine append_strs (.tmp 46) (.tmp 49) rfl rfl w.heap.size _ _ (l.drop (k)) _ _ _ rfl HO4.out rfl (by first | exact HS4.out | exact ⟨by simp, fun h => by omega⟩ | (split; exact ⟨by simp, fun h => by omega⟩; exact HS4.out)) HL4.out hz4 ?_; intro v5 w5 ho5 hg5)
          all_goals
            have HB5 := Lib.hid (HB4.out.grown hg5 hz4 (fun g hg => (HO4.out.lt g hg).1))
            have HO5 := Lib.hid ho5
            clear ho5 hg5
            go_wp2
            go_ret
            refine ⟨_, rfl, ?_, HB5.out⟩
            have := HO5.out
            rw [HP2.out] at this
            exact this
    · obtain rfl : k = l.length := by omega
      have HP2 := Lib.hid (show (l ++ [s]) ++ [] = putB l s by
        have := putB_end.symm.trans hP.out
        rwa [List.take_length, List.drop_length] at this)
      have HOL := Lib.hid (show OwnS wr w.heap.size _ l by have := hO.out; rwa [List.take_length] at this)
      have HL := Lib.hid (show l.length ≤ 1000000 by omega)
      have hz := hB.out.size
      clear hP hO
      go_wp2_with (at_builtin; refine append_str (.tmp 28) (.tmp 30) rfl rfl w.heap.size _ _ s wr rfl rfl HOL.out rfl HL.out hz ?_)
      intro v' w4 ho hg' hd'
      have HB4 := Lib.hid (hB.out.grown hg' hz (fun g hg => (HOL.out.lt g hg).1))
      have HO4 := Lib.hid ho
      have hI4 := HI.out.below HB4.out
      have hz4 := HB4.out.size
      have HL4 := Lib.hid (show (l ++ [s]).length + 0 ≤ 1000000 by rw [List.length_append]; simp; omega)
      clear ho hg' hd' hB hI4
      go_wp2_with (at_builtin; refine append_strs (.tmp 46) (.tmp 49) rfl rfl w.heap.size _ _ [] _ _ _ rfl HO4.out rfl ⟨rfl, fun h => absurd h (Nat.lt_irrefl 0)⟩ HL4.out hz4 ?_; intro v5 w5 ho5 hg5)
      all_goals
        have HB5 := Lib.hid (HB4.out.grown hg5 hz4 (fun g hg => (HO4.out.lt g hg).1))
        have HO5 := Lib.hid ho5
        clear ho5 hg5
        go_wp2
        go_ret
        refine ⟨_, rfl, ?_, HB5.out⟩
        have := HO5.out
        rw [HP2.out] at this
        exact this
end Go.Proofs.YtaadelcmhbgpnaaGreatDoor
/-
  BOOKS: balance, accounts, Balance, Accounts, Trial, SameTexts of the reference.
-/
namespace Go.Proofs.YtaadelcmhbgpnaaGreatDoor
open Go.RowKit
open Go.Lib
theorem balS_two {l : List Po} {k : Nat} (h : k < l.length) (a : ByteArray) : balS (sdL (l.take (k + 1))) a = if l[k].c = a then (if l[k].d = a then balS (sdL (l.take k)) a + l[k].p else balS (sdL (l.take k)) a) - l[k].p else if l[k].d = a then balS (sdL (l.take k)) a + l[k].p else balS (sdL (l.take k)) a := by
  rw [sdL_take h, show sdL (l.take k) ++ [(true, l[k]), (false, l[k])] = (sdL (l.take k) ++ [(true, l[k])]) ++ [(false, l[k])] by simp, balS_snoc, balS_snoc]
  simp only [sdN, sdA, if_true, Bool.false_eq_true, if_false]
  by_cases h1 : l[k].c = a
  · rw [if_pos h1, if_pos h1]; omega
  · rw [if_neg h1, if_neg h1]
theorem accT_two {l : List Po} {k : Nat} (h : k < l.length) : accT (sdL (l.take (k + 1))) = putB (putB (accT (sdL (l.take k))) l[k].d) l[k].c := by
  rw [sdL_take h, show sdL (l.take k) ++ [(true, l[k]), (false, l[k])] = (sdL (l.take k) ++ [(true, l[k])]) ++ [(false, l[k])] by simp, accT_snoc, accT_snoc]
  rfl
theorem putB_le (m : List ByteArray) (s : ByteArray) : (putB m s).length ≤ m.length + 1 := by
  induction m with
  | nil => simp [putB]
  | cons x m ih =>
    unfold putB
    split
    · simpa using ih
    · split <;> simp
theorem OwnS.down {w : World} {B B' : Nat} {v : Value} {l : List ByteArray} (h : OwnS w B v l) (hB : B' ≤ B) : OwnS w B' v l := by
  refine ⟨h.1, ?_⟩
  rcases h.2 with h2 | ⟨g, cap, cur, hv, hb, h3⟩
  · exact .inl h2
  · exact .inr ⟨g, cap, cur, hv, Nat.le_trans hB hb, h3⟩
set_option maxRecDepth 100000 in
set_option maxHeartbeats 2000000 in
theorem rbalance_any (l : List Po) (A : Option Addr) (c : Nat) (a : ByteArray) (hn : l.length ≤ 1000) (hb : ∀ x ∈ l, 1 ≤ x.p ∧ x.p ≤ 1099511627776) (w : World) (hI : IsPo w A l) :
    Calls Tryz.prog 51 #[.slice A l.length c, .string a] w fun e w' => e = .returned (.int .i64 (balS (sdL l) a)) ∧ Below w.heap.size w w' := by
  have HI := Lib.hid hI
  have HBD := Lib.hid hb
  clear hI hb
  go_enter Tryz.func51, Tryz.ntmps51
  go_upto_region 3 with fail
  go_loopw [5, 6] (fun v i wr => ∃ (S : Int) (k : Nat), v = .int .i64 S ∧ i = .int .i64 k ∧ k ≤ l.length ∧ -(k * 1099511627776) ≤ S ∧ S ≤ k * 1099511627776 ∧ Hid (S = balS (sdL (l.take k)) a) ∧ Hid (Below w.heap.size w wr)) (fun _ i _ => l.length - (RowKit.intOf i).toNat)
  case atStart => exact ⟨0, 0, rfl, rfl, by omega, by omega, by omega, Lib.hid rfl, Lib.hid (Below.refl _ _)⟩
  case round =>
    obtain ⟨S, k, rfl, rfl, hk, hS0, hS1, hS, hB⟩ := hrel
    by_cases hlt : k < l.length
    · obtain ⟨b, o, rfl, hb, hcl⟩ := (HI.out.below hB.out) (by omega)
      obtain ⟨q0, q1, q2⟩ := hcl k hlt
      have hst := balS_two hlt a
      have hbd := HBD.out l[k] (List.getElem_mem hlt)
      obtain ⟨⟨xd, xc, xp⟩, hx⟩ : ∃ x, x = l[k] := ⟨_, rfl⟩
      rw [← hx] at q0 q1 q2 hst hbd
      rw [← hS.out] at hst
      obtain ⟨p1, p2⟩ := hbd
      simp only at p1 p2 q0 q1 q2 hst
      have HST := Lib.hid hst
      clear hcl hx hst hS
      by_cases hd : xd = a
      · by_cases hc : xc = a
        · have HS2 := Lib.hid (show S + xp - xp = balS (sdL (l.take (k + 1))) a by
            rw [HST.out]
            simp only [if_pos hd, if_pos hc])
          have e1 : (xd.toList == a.toList) = true := by rw [hd]; simp
          have e2 : (xc.toList == a.toList) = true := by rw [hc]; simp
          clear hd hc HST
          go_wp2
          go_roundw
          case rel => exact ⟨S + xp - xp, k + 1, by go_num, by go_num, by omega, by omega, by omega, HS2, hB⟩
          case measure => simp [RowKit.intOf]; omega
        · have HS2 := Lib.hid (show S + xp = balS (sdL (l.take (k + 1))) a by
            rw [HST.out]
            simp only [if_pos hd, if_neg hc])
          have e1 : (xd.toList == a.toList) = true := by rw [hd]; simp
          have e2 : (xc.toList == a.toList) = false := by rw [beq_eq_false_iff_ne, Lib.toList_data, Lib.toList_data]; exact fun h => hc (toList_inj h)
          clear hd hc HST
          go_wp2
          go_roundw
          case rel => exact ⟨S + xp, k + 1, by go_num, by go_num, by omega, by omega, by omega, HS2, hB⟩
          case measure => simp [RowKit.intOf]; omega
      · by_cases hc : xc = a
        · have HS2 := Lib.hid (show S - xp = balS (sdL (l.take (k + 1))) a by
            rw [HST.out]
            simp only [if_neg hd, if_pos hc])
          have e1 : (xd.toList == a.toList) = false := by rw [beq_eq_false_iff_ne, Lib.toList_data, Lib.toList_data]; exact fun h => hd (toList_inj h)
          have e2 : (xc.toList == a.toList) = true := by rw [hc]; simp
          clear hd hc HST
          go_wp2
          go_roundw
          case rel => exact ⟨S - xp, k + 1, by go_num, by go_num, by omega, by omega, by omega, HS2, hB⟩
          case measure => simp [RowKit.intOf]; omega
        · have HS2 := Lib.hid (show S = balS (sdL (l.take (k + 1))) a by
            rw [HST.out]
            simp only [if_neg hd, if_neg hc])
          have e1 : (xd.toList == a.toList) = false := by rw [beq_eq_false_iff_ne, Lib.toList_data, Lib.toList_data]; exact fun h => hd (toList_inj h)
          have e2 : (xc.toList == a.toList) = false := by rw [beq_eq_false_iff_ne, Lib.toList_data, Lib.toList_data]; exact fun h => hc (toList_inj h)
          clear hd hc HST
          go_wp2
          go_roundw
          case rel => exact ⟨S, k + 1, rfl, by go_num, by omega, by omega, by omega, HS2, hB⟩
          case measure => simp [RowKit.intOf]; omega
    · obtain rfl : k = l.length := by omega
      have hS' := hS.out
      rw [List.take_length] at hS'
      have HS := Lib.hid hS'
      clear hS hS'
      go_wp2
      go_ret
      exact ⟨by rw [← HS.out] <;> rfl, hB.out⟩
attribute [local go_sem] grow_cell grow_frozen
attribute [local irreducible] RP.plainUpon RP.stepC
set_option maxRecDepth 100000 in
set_option maxHeartbeats 2000000 in
theorem raccounts_any (l : List Po) (A : Option Addr) (c : Nat) (hn : l.length ≤ 400) (w : World) (hI : IsPo w A l) :
    Calls Tryz.prog 54 #[.slice A l.length c] w fun e w' => ∃ v, e = .returned v ∧ OwnS w' w.heap.size v (accT (sdL l)) ∧ Below w.heap.size w w' := by
  have HI := Lib.hid hI
  clear hI
  go_enter Tryz.func54, Tryz.ntmps54
  go_upto_region 3 with fail
  go_loopw [3, 4] (fun v i wr => ∃ k : Nat, i = .int .i64 k ∧ k ≤ l.length ∧ Hid (OwnS wr w.heap.size v (accT (sdL (l.take k)))) ∧ Hid (Below w.heap.size w wr)) (fun _ i _ => l.length - (RowKit.intOf i).toNat)
  case atStart => exact ⟨0, rfl, by omega, Lib.hid (OwnS.nil _ _), Lib.hid (Below.refl _ _)⟩
  case round =>
    obtain ⟨k, rfl, hk, hO, hB⟩ := hrel
    by_cases hlt : k < l.length
    · have dl : decide ((k : Int) < (l.length : Int)) = true := decide_eq_true (by omega)
      obtain ⟨b, o, rfl, hb, hcl⟩ := (HI.out.below hB.out) (by omega)
      obtain ⟨q0, q1, q2⟩ := hcl k hlt
      have hst := accT_two hlt
      have hal := accT_len (sdL (l.take k))
      rw [sdL_len, List.length_take, Nat.min_eq_left hk] at hal
      obtain ⟨⟨xd, xc, xp⟩, hx⟩ : ∃ x, x = l[k] := ⟨_, rfl⟩
      rw [← hx] at q0 q1 q2 hst
      obtain ⟨acc, hacc⟩ : ∃ acc, acc = accT (sdL (l.take k)) := ⟨_, rfl⟩
      have hO1 := hO.out
      rw [← hacc] at hst hal hO1
      simp only at q0 q1 q2 hst
      have HST := Lib.hid hst
      obtain ⟨A2, c2, rfl, hS2, hcc⟩ := hO1.isS
      have HS2 := Lib.hid hS2
      have HCC := Lib.hid hcc
      have HAL := Lib.hid hal
      have hz := hB.out.size
      clear hcl hx hst hO hO1 hacc hS2 hcc hal
      go_upto_region 5 with fail
      refine RP.region_treeP (C := fun w' => ∃ x, w' = grow wr x) (fun _ _ _ => False) [0, 1, 2, 3, 4, 5, 7, 8, 9, 10, 11] (.one 6 (.one 12 .nil)) 13 (fun _ _ _ h => h.elim) (by kernel_rfl) (by kernel_rfl) (grow_start wr) ?_
      simp only [pickL, List.getElem?_cons_zero, List.getElem?_cons_succ]
      repeat (go_big_quiet_step (fail))
      refine wpQuiet_nil ?_
      obtain ⟨wx, hwx⟩ : ∃ wx : World, wx = { wr with drawn := wr.drawn + 1 } := ⟨_, rfl⟩
      have hbx : Below wr.heap.size wr wx := by rw [hwx]; exact (Below.refl _ _).drew
      rw [← hwx]
      clear hwx
      simp only [RP.treeS, atOp, List.getElem?_cons_zero, List.getElem?_cons_succ]
      refine ⟨grow_of_below hbx, ?_⟩
      refine RP.p_call 80 #[.slice A2 acc.length c2, .string xd] rfl (by go_simp) ?_
      refine (rput_any acc A2 c2 xd (by have := HAL.out; omega) HCC.out wx (HS2.out.below hbx)).mono ?_
      rintro e wx1 ⟨v1, rfl, hO1, hc1⟩
      have hbx1 := hbx.trans (hc1.mono hbx.size)
      obtain ⟨A3, c3, rfl, hS3, hcc3⟩ := hO1.isS
      refine .inl ⟨_, rfl, ?_⟩
      refine ⟨grow_of_below hbx1, ?_⟩
      refine RP.p_call 80 #[.slice A3 (putB acc xd).length c3, .string xc] rfl (by go_simp) ?_
      refine (rput_any (putB acc xd) A3 c3 xc (by have := HAL.out; have := putB_le acc xd; omega) hcc3 wx1 hS3).mono ?_
      rintro e wx2 ⟨v2, rfl, hO2, hc2⟩
      have hbx2 := hbx1.trans (hc2.mono hbx1.size)
      refine .inl ⟨_, rfl, ?_⟩
      have hgb := grow_of_below hbx2
      have HO4 := Lib.hid (show OwnS wx2 w.heap.size v2 (accT (sdL (l.take (k + 1)))) by rw [HST.out]; exact hO2.down (Nat.le_trans hz hbx1.size))
      have HB4 := Lib.hid (hB.out.trans (hbx2.mono hz))
      clear hbx hbx1 hbx2 hc1 hc2 hO1 hO2 hS3 q0 q1 q2
      refine ⟨hgb, ?_⟩
      refine RP.p_assign _ rfl rfl v2 (by go_simp) ?_
      go_simp
      go_wp2
      go_roundw
      case rel => exact ⟨k + 1, by go_num, by omega, HO4, HB4⟩
      case measure => simp [RowKit.intOf]; omega
    · obtain rfl : k = l.length := by omega
      have dl : decide ((l.length : Int) < (l.length : Int)) = false := decide_eq_false (by omega)
      have hO' := hO.out
      rw [List.take_length] at hO'
      have HO := Lib.hid hO'
      clear hO hO'
      go_wp2
      go_ret
      exact ⟨_, rfl, HO.out, hB.out⟩
end Go.Proofs.YtaadelcmhbgpnaaGreatDoor
/-
  BOOKS: Balance, Accounts, Trial, SameTexts of the reference.
-/
namespace Go.Proofs.YtaadelcmhbgpnaaGreatDoor
open Go.RowKit
open Go.Lib
theorem val_bd2 {l : List Po} (h : valPo l = 0) : l.length ≤ 64 ∧ ∀ x ∈ l, 1 ≤ x.p ∧ x.p ≤ 1099511627776 := by
  obtain ⟨h1, h2⟩ := val_bd h
  refine ⟨h1, fun x hx => ?_⟩
  exact h2 (true, x) (List.mem_flatMap.2 ⟨x, hx, by simp⟩)
set_option maxRecDepth 100000 in
set_option maxHeartbeats 2000000 in
theorem rbal_any (l : List Po) (A : Option Addr) (c : Nat) (a : ByteArray) (hn : l.length ≤ 400) (w : World) (hI : IsPo w A l) :
    Calls Tryz.prog 25 #[.slice A l.length c, .string a] w fun e w' => e = .returned (.tuple #[.int .i64 (balV l a), .int .i64 (valPo l)]) ∧ Below w.heap.size w w' := by
  have HI := Lib.hid hI
  clear hI
  go_enter Tryz.func25, Tryz.ntmps25
  go_wp2_with fail
  refine (rval_any l A c (by omega) w HI.out).mono ?_
  rintro e w1 ⟨rfl, hb1⟩
  have HB1 := Lib.hid hb1
  clear hb1
  by_cases hv : valPo l = 0
  · have HBD := Lib.hid (val_bd2 hv)
    have HV := Lib.hid hv
    rw [hv]
    clear hv
    go_wp2_with fail
    refine (rbalance_any l A c a (by omega) HBD.out.2 w1 (HI.out.below HB1.out)).mono ?_
    rintro e w3 ⟨rfl, hb3⟩
    have HB3 := Lib.hid (HB1.out.trans (hb3.mono HB1.out.size))
    clear hb3
    go_wp2
    go_ret2
    exact ⟨by unfold balV; rw [if_pos HV.out, HV.out] <;> rfl, HB3.out⟩
  · have dv : (valPo l != 0) = true := by simpa using hv
    have HV := Lib.hid hv
    clear hv
    go_wp2
    go_ret2
    exact ⟨by unfold balV; rw [if_neg HV.out] <;> rfl, HB1.out⟩
set_option maxRecDepth 100000 in
set_option maxHeartbeats 2000000 in
theorem raccs_any (l : List Po) (A : Option Addr) (c : Nat) (hn : l.length ≤ 400) (w : World) (hI : IsPo w A l) :
    Calls Tryz.prog 27 #[.slice A l.length c] w fun e w' => ∃ D d, e = .returned (.tuple #[.slice D (accsV l).length d, .int .i64 (valPo l)]) ∧ IsS w' D (accsV l).length (accsV l) ∧ Below w.heap.size w w' := by
  have HI := Lib.hid hI
  clear hI
  go_enter Tryz.func27, Tryz.ntmps27
  go_wp2_with fail
  refine (rval_any l A c (by omega) w HI.out).mono ?_
  rintro e w1 ⟨rfl, hb1⟩
  have HB1 := Lib.hid hb1
  clear hb1
  by_cases hv : valPo l = 0
  · have HV := Lib.hid hv
    rw [hv]
    clear hv
    go_wp2_with fail
    refine (raccounts_any l A c (by omega) w1 (HI.out.below HB1.out)).mono ?_
    rintro e w3 ⟨v, rfl, hO, hb3⟩
    have HA := Lib.hid (show accsV l = accT (sdL l) by unfold accsV; rw [if_pos HV.out])
    rw [← HA.out] at hO
    obtain ⟨D, d, rfl, hS, -⟩ := hO.isS
    have HS := Lib.hid hS
    have HB3 := Lib.hid (HB1.out.trans (hb3.mono HB1.out.size))
    clear hb3 hO hS
    go_wp2
    go_ret2
    exact ⟨D, d, by rw [HV.out] <;> rfl, HS.out, HB3.out⟩
  · have dv : (valPo l != 0) = true := by simpa using hv
    have HA := Lib.hid (show accsV l = [] by unfold accsV; rw [if_neg hv])
    clear hv
    go_wp2
    go_ret2
    exact ⟨none, 0, by rw [HA.out] <;> rfl, by rw [HA.out]; exact ⟨rfl, fun h => absurd h (by simp)⟩, HB1.out⟩
set_option maxRecDepth 100000 in
set_option maxHeartbeats 2000000 in
theorem rtri_any (l : List Po) (A : Option Addr) (c : Nat) (hn : l.length ≤ 400) (w : World) (hI : IsPo w A l) :
    Calls Tryz.prog 29 #[.slice A l.length c] w fun e w' => ∃ v, e = .returned (.tuple #[v, .int .i64 (valPo l)]) ∧ OwnI w' w.heap.size v (triV l) ∧ Below w.heap.size w w' := by
  have HI := Lib.hid hI
  clear hI
  go_enter Tryz.func29, Tryz.ntmps29
  go_wp2_with fail
  refine (rval_any l A c (by omega) w HI.out).mono ?_
  rintro e w1 ⟨rfl, hb1⟩
  have HB1 := Lib.hid hb1
  clear hb1
  by_cases hv : valPo l = 0
  · have HV := Lib.hid hv
    have HBD := Lib.hid (val_bd2 hv)
    rw [hv]
    clear hv
    go_wp2_with fail
    refine (raccounts_any l A c (by omega) w1 (HI.out.below HB1.out)).mono ?_
    rintro e w2 ⟨v, rfl, hO, hb2⟩
    obtain ⟨N, hNe⟩ : ∃ N, N = accT (sdL l) := ⟨_, rfl⟩
    have HNL := Lib.hid (show N.length ≤ 2000 by
      have := accT_len (sdL l)
      rw [sdL_len, ← hNe] at this
      omega)
    have HT := Lib.hid (show triV l = N.map (balS (sdL l)) by unfold triV accsV; rw [if_pos HV.out, hNe])
    rw [← hNe] at hO
    obtain ⟨D, d, rfl, hS, -⟩ := hO.isS
    have HN2 := Lib.hid hS
    obtain ⟨S, hSe⟩ : ∃ S, S = sdL l := ⟨_, rfl⟩
    have HSE := Lib.hid hSe
    have HB2 := Lib.hid (HB1.out.trans (hb2.mono HB1.out.size))
    clear hO hS hb2 hSe hNe
    go_upto_region 7 with fail
    go_loopw [6, 7] (fun v i wr => ∃ k : Nat, i = .int .i64 k ∧ k ≤ N.length ∧ Hid (OwnI wr w2.heap.size v ((N.map (balS S)).take k)) ∧ Hid (Below w2.heap.size w2 wr)) (fun _ i _ => N.length - (RowKit.intOf i).toNat)
    case atStart => exact ⟨0, rfl, by omega, Lib.hid (OwnI.nil _ _), Lib.hid (Below.refl _ _)⟩
    case round =>
      obtain ⟨k, rfl, hk, hO, hB⟩ := hrel
      by_cases hlt : k < N.length
      · have dl : decide ((k : Int) < (N.length : Int)) = true := decide_eq_true (by omega)
        obtain ⟨b, o, rfl, hb, hc⟩ := (HN2.out.below hB.out).2 (by omega)
        have q0 := hc k hlt
        have hst := bal_take (S := S) hlt
        obtain ⟨x, hx⟩ : ∃ x, x = N[k] := ⟨_, rfl⟩
        rw [← hx] at q0 hst
        have HST := Lib.hid hst
        have HTL := Lib.hid (show ((N.map (balS S)).take k).length ≤ 1000000 by rw [List.length_take]; have := HNL.out; omega)
        clear hc hx hst
        go_wp2_with fail
        refine (rbalance_any l A c x (by omega) HBD.out.2 wr ((HI.out.below HB2.out).below (hB.out.mono (Nat.le_refl _)))).mono ?_
        rintro e w3 ⟨rfl, hb3⟩
        rw [← HSE.out]
        obtain ⟨y, hy⟩ : ∃ y, y = balS S x := ⟨_, rfl⟩
        rw [← hy]
        rw [← hy] at HST
        have HB3 := Lib.hid (hB.out.trans (hb3.mono hB.out.size))
        have HO3 := Lib.hid (hO.out.keep hb3)
        have hz := HB3.out.size
        have hnl := HNL.out
        clear hb3 q0 hO hB hy
        go_wp2_with (at_builtin; refine append_i64 (.tmp 21) (.tmp 28) rfl rfl w2.heap.size _ _ y w3 rfl rfl HO3.out rfl HTL.out hz ?_)
        intro v' w4 ho hg' hd'
        have HB4 := Lib.hid (HB3.out.grown hg' hz (fun g hg => (HO3.out.lt' g hg).1))
        have HO4 := Lib.hid (show OwnI w4 w2.heap.size v' ((N.map (balS S)).take (k + 1)) by rw [HST.out]; exact ho)
        clear ho hg' hd' HO3 HB3
        go_wp2
        go_roundw
        case rel => exact ⟨k + 1, by go_num, by omega, HO4, HB4⟩
        case measure => simp [RowKit.intOf]; omega
      · obtain rfl : k = N.length := by omega
        have dl : decide ((N.length : Int) < (N.length : Int)) = false := decide_eq_false (by omega)
        have HO := Lib.hid (show OwnI wr w2.heap.size _ (N.map (balS S)) by
          have hO' := hO.out
          rw [show N.length = (N.map (balS S)).length by simp, List.take_length] at hO'
          exact hO')
        have HB := Lib.hid (HB2.out.trans (hB.out.mono HB2.out.size))
        clear hO
        have hz := HB2.out.size
        go_wp2
        go_ret2
        refine ⟨_, by rw [HV.out] <;> rfl, ?_, HB.out⟩
        rw [HT.out, ← HSE.out]
        exact HO.out.down hz
  · have dv : (valPo l != 0) = true := by simpa using hv
    have HA := Lib.hid (show triV l = [] by unfold triV accsV; rw [if_neg hv]; rfl)
    clear hv
    go_wp2
    go_ret2
    exact ⟨_, rfl, by rw [HA.out]; exact OwnI.nil _ _, HB1.out⟩
attribute [local go_sem] grow_cell grow_frozen
set_option maxRecDepth 100000 in
set_option maxHeartbeats 1000000 in
theorem rsamet_any (l : List ByteArray) (A B : Option Addr) (c d : Nat) (hn : l.length ≤ 1000000) (w : World) (hI : IsS w A l.length l) (hJ : IsS w B l.length l) :
    Calls Tryz.prog 32 #[.slice A l.length c, .slice B l.length d] w fun e w' => e = .returned (.bool true) ∧ Below w.heap.size w w' := by
  have HI := Lib.hid hI
  have HJ := Lib.hid hJ
  clear hI hJ
  go_enter Tryz.func32, Tryz.ntmps32
  go_upto_region 4 with fail
  go_loopw [5] (fun i wr => ∃ k : Nat, i = .int .i64 k ∧ k ≤ l.length ∧ Hid (Below w.heap.size w wr)) (fun i _ => l.length - (RowKit.intOf i).toNat)
  case atStart => exact ⟨0, rfl, by omega, Lib.hid (Below.refl _ _)⟩
  case round =>
    obtain ⟨k, rfl, hk, hB⟩ := hrel
    by_cases hlt : k < l.length
    · have dl : decide ((k : Int) < (l.length : Int)) = true := decide_eq_true (by omega)
      obtain ⟨b, o, rfl, hb, hc⟩ := (HI.out.below hB.out).2 (by omega)
      obtain ⟨b2, o2, rfl, hb2, hc2⟩ := (HJ.out.below hB.out).2 (by omega)
      have q0 := hc k hlt
      have p0 := hc2 k hlt
      obtain ⟨x, hx⟩ : ∃ x, x = l[k] := ⟨_, rfl⟩
      rw [← hx] at q0 p0
      clear hc hc2 hx
      go_upto_region 6 with fail
      refine region_grow (by kernel_rfl) (by kernel_rfl) ?_
      repeat (go_big_quiet_step ((fail)))
      refine wpQuiet_nil ?_
      rintro w5 ⟨xg, hxg⟩
      have hb5 := below_grow wr xg
      rw [← hxg] at hb5
      clear hxg xg
      have HB5 := Lib.hid (hB.out.trans (hb5.mono hB.out.size))
      clear hb5 q0 p0
      go_wp2
      go_roundw
      case rel => exact ⟨k + 1, by go_num, by omega, HB5⟩
      case measure => simp [RowKit.intOf]; omega
    · have dl : decide ((k : Int) < (l.length : Int)) = false := decide_eq_false (by omega)
      go_wp2
      go_ret
      exact ⟨rfl, hB.out⟩
end Go.Proofs.YtaadelcmhbgpnaaGreatDoor
