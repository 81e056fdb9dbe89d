/-
  BOOKS: the sides of postings: lists of interface values; the methods; sides of the program.
-/
import Derived.Test.YtaadelcmhbgpnaaGreatDoorPstC
namespace Go.Proofs.YtaadelcmhbgpnaaGreatDoor
open Go.RowKit
open Go.Lib
/-- A side: of the debit (true) or of the credit. -/
def sdV (y : Bool × Po) : Value := .iface (if y.1 then 106 else 107) (.agg #[.string y.2.d, .string y.2.c, .int .i64 y.2.p])
def sdN (y : Bool × Po) : ByteArray := if y.1 then y.2.d else y.2.c
def sdL (l : List Po) : List (Bool × Po) := l.flatMap fun x => [(true, x), (false, x)]
theorem sdL_len : ∀ l : List Po, (sdL l).length = l.length * 2
  | [] => rfl
  | x :: l => by
    have := sdL_len l
    unfold sdL at this ⊢
    rw [List.flatMap_cons, List.length_append, List.length_cons, this]
    simp; omega
theorem sdL_app (l m : List Po) : sdL (l ++ m) = sdL l ++ sdL m := List.flatMap_append
/-- The slice value v holds sides in memory from block B on, and may be appended to. -/
def OwnSd (w : World) (B : Nat) (v : Value) (l : List (Bool × Po)) : Prop := w.ownsRow B 77 1 v l.length (l.map sdV)
theorem OwnSd.nil (w : World) (B : Nat) : OwnSd w B (.slice none 0 0) [] := World.ownsRow_nil _ _ _ _
theorem OwnSd.keep {w w' : World} {B : Nat} {v : Value} {l : List (Bool × Po)} (hb : Below w.heap.size w w') (h : OwnSd w B v l) : OwnSd w' B v l :=
  World.ownsRow.kept h (row := none) ⟨hb.os, hb.tape, hb.output, hb.size, fun k hk _ => hb.block k hk⟩ (by cases v.ownBlock <;> simp)
theorem OwnSd.lt {w : World} {B : Nat} {v : Value} {l : List (Bool × Po)} (h : OwnSd w B v l) : ∀ g, v.ownBlock = some g → B ≤ g ∧ g < w.heap.size := World.ownsRow.lt h
/-- The sides that lie at A. -/
def IsSd (w : World) (A : Option Addr) (l : List (Bool × Po)) : Prop :=
  0 < l.length → ∃ b o, A = some ⟨b, o, none⟩ ∧ b < w.heap.size ∧ ∀ k (h : k < l.length), w.cell? ⟨b, o + k, none⟩ = some (sdV l[k])
theorem IsSd.below {w w' : World} {A : Option Addr} {l : List (Bool × Po)} (hb : Below w.heap.size w w') (h : IsSd w A l) : IsSd w' A l := by
  intro hp
  obtain ⟨b, o, rfl, hlt, hc⟩ := h hp
  exact ⟨b, o, rfl, Nat.lt_of_lt_of_le hlt hb.size, fun k hk => (hb.cell (p := ⟨b, _, none⟩) hlt).trans (hc k hk)⟩
theorem OwnSd.parts {w : World} {B : Nat} {v : Value} {l : List (Bool × Po)} (h : OwnSd w B v l) : ∃ A c, v = .slice A l.length c ∧ IsSd w A l ∧ l.length ≤ c := by
  rcases h.2 with ⟨hv, h0⟩ | ⟨g, cap, cur, hv, hB, hg, hn, -, hs, ht⟩
  · exact ⟨none, 0, by rw [hv, h0], fun hp => by omega, by omega⟩
  · subst hv
    have hr := (Row.of_own h).1
    refine ⟨some ⟨g, 0, none⟩, cap, rfl, fun _ => ⟨g, 0, rfl, hr.lt, fun k hk => ?_⟩, hn⟩
    have q1 := hr.get k (by simpa using hk)
    rw [Nat.zero_add, q1]
    simp
theorem sdInfo : (Tryz.prog.info? 77).map (fun i => (i.zero, i.size, i.bytes)) = some (some .nilIface, 1, 16) := by kernel_rfl
/-- append(s, x, y) of two sides. -/
theorem append_sides {w : World} {ops : Array Oper} {rest : List Oper} {o : Oper} {a : Act} {Q : Exit → Act → World → Prop} (s x : Operand)
    (ho : o.op = .call { callee := .builtin .append, args := #[s, x], argTypes := #[73, 73] }) (hgd : o.guard = none)
    (B : Nat) (v : Value) (l : List (Bool × Po)) (p q : Bool × Po) (W : World) (hW : w = W.alloc (.cells #[sdV p, sdV q] 77)) (hs : a.eval s = v) (hown : OwnSd W B v l) (hx : a.eval x = .slice (some ⟨W.heap.size, 0, none⟩) 2 2)
    (hn : l.length ≤ 1000000) (hB : B ≤ W.heap.size)
    (h : ∀ v' w', OwnSd w' B v' (l ++ [p, q]) → W.grownBy w' v.ownBlock → (v'.ownBlock = v.ownBlock ∨ v'.ownBlock = some (W.heap.size + 1)) → wpList Tryz.prog ops Q rest (a.put o.dst v') w') : wpList Tryz.prog ops Q (o :: rest) a w := by
  subst hW
  obtain ⟨i0, hi, hz0, hz1, hz2⟩ := info_parts sdInfo
  refine wpList_append_lies (P := Tryz.prog) (w := W.alloc (.cells #[sdV p, sdV q] 77)) hgd s x 73 ho B 77 i0 .nilIface 1 16 Tryz.underlying73 hi hz0 hz1 hz2 rfl (by decide) v l.length _ hs (World.ownsRow.alloc hown _) ⟨W.heap.size, 0, none⟩ 2 2 [sdV p, sdV q] hx rfl
    (by intro j u hu; match j, hu with | 0, hu => simp at hu; subst hu; simp [Addr.add] | 1, hu => simp at hu; subst hu; simp [Addr.add]) (by intro u hu; simp at hu; rcases hu with rfl | rfl <;> rfl) (by omega) (by unfold maxLen; omega) (by omega) (by simp; omega) (W.heap.size + 1) (by simp) ?_
  intro g cap w' h1 h2 h3 h4
  refine h _ w' ?_ ?_ ?_
  · unfold OwnSd
    rw [List.length_append, List.map_append]
    exact h1
  · exact ⟨h2.os, h2.tape, h2.output, by have := h2.size; simp at this; omega, fun k hk hne => (h2.block k (by simp; omega) hne).trans (heap_alloc_old W _ hk)⟩
  · rcases h3 with h3 | h3
    · exact .inl h3.symm
    · subst h3; exact .inr rfl
theorem debit_of (d c : ByteArray) (p : Int) (w : World) :
    Calls Tryz.prog 177 #[.agg #[.string d, .string c, .int .i64 p]] w fun e w' => e = .returned (.string d) ∧ Below w.heap.size w w' := by
  go_enter Tryz.func177, Tryz.ntmps177
  go_wp2
  go_ret
  exact ⟨rfl, (by repeat' (first | (with_reducible exact Below.refl _ _) | (with_reducible assumption) | (with_reducible refine below_drewN ?_ _) | (with_reducible refine below_step (by assumption) ?_ ?_) | (with_reducible refine Below.alloc ?_ ?_ _) | (with_reducible refine Below.setCell ?_ ?_ _) | (with_reducible refine Below.drew ?_) | go_size | (exact Below.size (by assumption)) | (refine Nat.le_trans (Below.size (by assumption)) ?_)))⟩
theorem credit_of (d c : ByteArray) (p : Int) (w : World) :
    Calls Tryz.prog 178 #[.agg #[.string d, .string c, .int .i64 p]] w fun e w' => e = .returned (.string c) ∧ Below w.heap.size w w' := by
  go_enter Tryz.func178, Tryz.ntmps178
  go_wp2
  go_ret
  exact ⟨rfl, (by repeat' (first | (with_reducible exact Below.refl _ _) | (with_reducible assumption) | (with_reducible refine below_drewN ?_ _) | (with_reducible refine below_step (by assumption) ?_ ?_) | (with_reducible refine Below.alloc ?_ ?_ _) | (with_reducible refine Below.setCell ?_ ?_ _) | (with_reducible refine Below.drew ?_) | go_size | (exact Below.size (by assumption)) | (refine Nat.le_trans (Below.size (by assumption)) ?_)))⟩
theorem sdL_take {l : List Po} {k : Nat} (h : k < l.length) : sdL (l.take (k + 1)) = sdL (l.take k) ++ [(true, l[k]), (false, l[k])] := by
  rw [List.take_succ_eq_append_getElem h, sdL_app]
  simp [sdL]
set_option maxRecDepth 100000 in
set_option maxHeartbeats 2000000 in
theorem psides_any (l : List Po) (A : Option Addr) (c : Nat) (hn : l.length ≤ 1000) (w : World) (hI : IsPo w A l) :
    Calls Tryz.prog 50 #[.slice A l.length c] w fun e w' => ∃ v, e = .returned v ∧ OwnSd w' w.heap.size v (sdL l) ∧ Below w.heap.size w w' := by
  have HI := Lib.hid hI
  clear hI
  go_enter Tryz.func50, Tryz.ntmps50
  go_upto_region 3 with fail
  go_loopw [3, 8] (fun v i wr => ∃ k : Nat, i = .int .i64 k ∧ k ≤ l.length ∧ Hid (OwnSd wr w.heap.size v (sdL (l.take k))) ∧ Hid (Below w.heap.size w wr)) (fun _ i _ => l.length - (RowKit.intOf i).toNat)
  case atStart => exact ⟨0, rfl, by omega, Lib.hid (OwnSd.nil _ _), Lib.hid (Below.refl _ _)⟩
  case round =>
    obtain ⟨k, rfl, hk, hO, hB⟩ := hrel
    obtain ⟨A', c', rfl, -, -⟩ := hO.out.parts
    have hll := sdL_len (l.take k)
    rw [List.length_take, Nat.min_eq_left hk] at hll
    rw [hll] at hO ⊢
    by_cases hlt : k < l.length
    · have dl : decide ((k : Int) < (l.length : Int)) = true := decide_eq_true (by omega)
      obtain ⟨b, o, rfl, hb, hc⟩ := (HI.out.below hB.out) (by omega)
      obtain ⟨q0, q1, q2⟩ := hc k hlt
      have hst := sdL_take hlt
      obtain ⟨⟨xd, xc, xp⟩, hx⟩ : ∃ x, x = l[k] := ⟨_, rfl⟩
      rw [← hx] at q0 q1 q2 hst
      simp only at q0 q1 q2
      have HST := Lib.hid hst
      have hX := Box3.new wr (.string xd) (.string xc) (.int .i64 xp) 65
      have hnw := below_new wr (.cells #[.string xd, .string xc, .int .i64 xp] 65)
      have HO1 := Lib.hid (hO.out.keep hnw)
      have HB1 := Lib.hid (hB.out.trans (hnw.mono hB.out.size))
      obtain ⟨u, hu⟩ : ∃ u, u = wr.alloc (.cells #[.string xd, .string xc, .int .i64 xp] 65) := ⟨_, rfl⟩
      obtain ⟨g, hg⟩ : ∃ g, g = wr.heap.size := ⟨_, rfl⟩
      rw [← hu, ← hg] at hX
      rw [← hu] at HO1 HB1
      have HU := Lib.hid hu
      have HG := Lib.hid hg
      have hln : (sdL (l.take k)).length ≤ 1000000 := by rw [hll]; omega
      have HLN := Lib.hid hln
      have hww := HB1.out.size
      clear hc hx hst hnw hu hg hO hB hll hln
      obtain ⟨x0, x1, x2, x3, x4, x5, x6⟩ := hX
      go_upto_region 5 with fail
      rw [← HU.out, ← HG.out]
      clear q0 q1 q2
      go_wp2_with (at_builtin; refine append_sides (.tmp 12) (.tmp 17) rfl rfl w.heap.size _ (sdL (l.take k)) (true, ⟨xd, xc, xp⟩) (false, ⟨xd, xc, xp⟩) u rfl rfl HO1.out rfl HLN.out hww ?_)
      intro v' w3 ho hgr hd
      have HB5 := Lib.hid (HB1.out.grown hgr hww (fun g hg => (HO1.out.lt g hg).1))
      have HO4 := Lib.hid (show OwnSd w3 w.heap.size v' (sdL (l.take (k + 1))) by rw [HST.out]; exact ho)
      clear ho hgr hd HO1 x0 x1 x2 x3 x4 x5 x6
      go_wp2
      go_roundw
      case rel => exact ⟨k + 1, by go_num, by omega, HO4, HB5⟩
      case measure => simp [RowKit.intOf]; omega
    · obtain rfl : k = l.length := by omega
      have hO' := hO.out
      rw [List.take_length] at hO'
      have HO := Lib.hid hO'
      clear hO hO' hll
      go_wp2
      go_ret
      exact ⟨_, rfl, HO.out, hB.out⟩
end Go.Proofs.YtaadelcmhbgpnaaGreatDoor
/-
  BOOKS: the balance of an account, of the program.
-/
namespace Go.Proofs.YtaadelcmhbgpnaaGreatDoor
open Go.RowKit
open Go.Lib
def sdA (y : Bool × Po) : Int := if y.1 then y.2.p else -y.2.p
def balS (l : List (Bool × Po)) (a : ByteArray) : Int := l.foldl (fun s y => if sdN y = a then s + sdA y else s) 0
theorem balS_take {l : List (Bool × Po)} {k : Nat} (h : k < l.length) (a : ByteArray) : balS (l.take (k + 1)) a = if sdN l[k] = a then balS (l.take k) a + sdA l[k] else balS (l.take k) a := by
  unfold balS
  rw [List.take_succ_eq_append_getElem h, List.foldl_append]
  rfl
theorem as_no (d c : ByteArray) (p : Int) (w : World) : (Instr.typeAssert (.iface 107 (.agg #[.string d, .string c, .int .i64 p])) 77 106 true).run Tryz.prog w = .ok (.tuple #[.agg #[.string ⟨#[]⟩, .string ⟨#[]⟩, .int .i64 0], .bool false]) w := by kernel_rfl
theorem as_credit (d c : ByteArray) (p : Int) (w : World) : (Instr.typeAssert (.iface 107 (.agg #[.string d, .string c, .int .i64 p])) 77 107 true).run Tryz.prog w = .ok (.tuple #[.agg #[.string d, .string c, .int .i64 p], .bool true]) w := by kernel_rfl
theorem as_debit (d c : ByteArray) (p : Int) (w : World) : (Instr.typeAssert (.iface 106 (.agg #[.string d, .string c, .int .i64 p])) 77 106 true).run Tryz.prog w = .ok (.tuple #[.agg #[.string d, .string c, .int .i64 p], .bool true]) w := by kernel_rfl
attribute [local go_sem] as_no as_credit as_debit
set_option maxRecDepth 100000 in
set_option maxHeartbeats 2000000 in
theorem pbalance_any (l : List (Bool × Po)) (A : Option Addr) (c : Nat) (a : ByteArray) (hn : l.length ≤ 1000) (hb : ∀ y ∈ l, 1 ≤ y.2.p ∧ y.2.p ≤ 1099511627776) (w : World) (hI : IsSd w A l) :
    Calls Tryz.prog 49 #[.slice A l.length c, .string a] w fun e w' => e = .returned (.int .i64 (balS l a)) ∧ Below w.heap.size w w' := by
  have HI := Lib.hid hI
  have HB := Lib.hid hb
  clear hI hb
  go_enter Tryz.func49, Tryz.ntmps49
  go_upto_region 3 with fail
  go_loopw [5, 12] (fun v i wr => ∃ (S : Int) (k : Nat), v = .int .i64 S ∧ i = .int .i64 k ∧ k ≤ l.length ∧ -(k * 1099511627776) ≤ S ∧ S ≤ k * 1099511627776 ∧ Hid (S = balS (l.take k) a) ∧ Hid (Below w.heap.size w wr)) (fun _ i _ => l.length - (RowKit.intOf i).toNat)
  case atStart => exact ⟨0, 0, rfl, rfl, by omega, by omega, by omega, Lib.hid rfl, Lib.hid (Below.refl _ _)⟩
  case round =>
    obtain ⟨S, k, rfl, rfl, hk, hS0, hS1, hS, hB⟩ := hrel
    by_cases hlt : k < l.length
    · have dl : decide ((k : Int) < (l.length : Int)) = true := decide_eq_true (by omega)
      obtain ⟨b, o, rfl, hb, hc⟩ := (HI.out.below hB.out) (by omega)
      have q0 := hc k hlt
      have hst := balS_take hlt a
      have hbd := HB.out l[k] (List.getElem_mem hlt)
      obtain ⟨⟨bo, xd, xc, xp⟩, hx⟩ : ∃ x, x = l[k] := ⟨_, rfl⟩
      rw [← hx] at q0 hst hbd
      rw [← hS.out] at hst
      obtain ⟨p1, p2⟩ := hbd
      simp only at p1 p2
      have HST := Lib.hid hst
      clear hc hx hst hS
      cases bo
      · unfold sdV at q0
        simp only at q0
        go_wp2_with fail
        refine (credit_of xd xc xp _).mono ?_
        rintro e w1 ⟨rfl, hb1⟩
        have HB1 := Lib.hid (hB.out.trans (hb1.mono hB.out.size))
        clear hb1 q0
        by_cases he : xc = a
        · have HS2 := Lib.hid (show S - xp = balS (l.take (k + 1)) a by
            rw [HST.out, if_pos (show sdN (false, ⟨xd, xc, xp⟩) = a from he)]
            show S - xp = S + -xp; omega)
          have e1 : (xc.toList == a.toList) = true := by rw [he]; simp
          have e2 : (xc.toList != a.toList) = false := by rw [he]; simp
          have HB2 := Lib.hid (HB1.out.alloc HB1.out.size (.cells #[.string xd, .string xc, .int .i64 xp] 107))
          clear he HST
          go_wp2
          go_roundw
          case rel => exact ⟨S - xp, k + 1, by go_num, by go_num, by omega, by omega, by omega, HS2, HB2⟩
          case measure => simp [RowKit.intOf]; omega
        · have HS2 := Lib.hid (show S = balS (l.take (k + 1)) a by
            rw [HST.out, if_neg (show ¬ sdN (false, ⟨xd, xc, xp⟩) = a from he)])
          have e1 : (xc.toList == a.toList) = false := by
            rw [beq_eq_false_iff_ne, Lib.toList_data, Lib.toList_data]; exact fun h => he (toList_inj h)
          have e2 : (xc.toList != a.toList) = true := by
            rw [bne_iff_ne, Lib.toList_data, Lib.toList_data]; exact fun h => he (toList_inj h)
          clear he HST
          go_wp2
          go_roundw
          case rel => exact ⟨S, k + 1, rfl, by go_num, by omega, by omega, by omega, HS2, HB1⟩
          case measure => simp [RowKit.intOf]; omega
      · unfold sdV at q0
        simp only at q0
        go_wp2_with fail
        refine (debit_of xd xc xp _).mono ?_
        rintro e w1 ⟨rfl, hb1⟩
        have HB1 := Lib.hid (hB.out.trans (hb1.mono hB.out.size))
        clear hb1 q0
        by_cases he : xd = a
        · have HS2 := Lib.hid (show S + xp = balS (l.take (k + 1)) a by
            rw [HST.out, if_pos (show sdN (true, ⟨xd, xc, xp⟩) = a from he)]
            rfl)
          have e1 : (xd.toList == a.toList) = true := by rw [he]; simp
          have e2 : (xd.toList != a.toList) = false := by rw [he]; simp
          have HB2 := Lib.hid (HB1.out.alloc HB1.out.size (.cells #[.string xd, .string xc, .int .i64 xp] 106))
          clear he HST
          go_wp2
          go_roundw
          case rel => exact ⟨S + xp, k + 1, by go_num, by go_num, by omega, by omega, by omega, HS2, HB2⟩
          case measure => simp [RowKit.intOf]; omega
        · have HS2 := Lib.hid (show S = balS (l.take (k + 1)) a by
            rw [HST.out, if_neg (show ¬ sdN (true, ⟨xd, xc, xp⟩) = a from he)])
          have e1 : (xd.toList == a.toList) = false := by
            rw [beq_eq_false_iff_ne, Lib.toList_data, Lib.toList_data]; exact fun h => he (toList_inj h)
          have e2 : (xd.toList != a.toList) = true := by
            rw [bne_iff_ne, Lib.toList_data, Lib.toList_data]; exact fun h => he (toList_inj h)
          clear he HST
          go_wp2
          go_roundw
          case rel => exact ⟨S, k + 1, rfl, by go_num, by omega, by omega, by omega, HS2, HB1⟩
          case measure => simp [RowKit.intOf]; omega
    · obtain rfl : k = l.length := by omega
      have dl : decide ((l.length : Int) < (l.length : Int)) = false := decide_eq_false (by omega)
      have hS' := hS.out
      rw [List.take_length] at hS'
      have HS := Lib.hid hS'
      clear hS hS'
      go_wp2
      go_ret
      exact ⟨by rw [← HS.out] <;> rfl, hB.out⟩
end Go.Proofs.YtaadelcmhbgpnaaGreatDoor
