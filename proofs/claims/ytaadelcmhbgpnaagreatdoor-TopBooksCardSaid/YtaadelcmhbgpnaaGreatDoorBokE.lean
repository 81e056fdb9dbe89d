/-
  BOOKS: the text of a line: the reference's Write.
-/
import Derived.Test.YtaadelcmhbgpnaaGreatDoorBokC
import Derived.Test.YtaadelcmhbgpnaaGreatDoorTxtI
import Derived.Test.YtaadelcmhbgpnaaGreatDoorMonB
namespace Go.Proofs.YtaadelcmhbgpnaaGreatDoor
open Go.RowKit
open Go.Lib
theorem bytes_of (s : ByteArray) : s = ⟨s.data.toList.toArray⟩ := by cases s; simp
theorem lineS_bytes (n : Nat) (s : ByteArray) : ((⟨(itoa (n : Int)).toArray⟩ : ByteArray) ++ ⟨#[32]⟩) ++ s = ⟨(lineS n s.data.toList).toArray⟩ := by
  conv => lhs; rw [bytes_of s]
  rw [bytes_lit1, bytes_app2, bytes_app2]
  simp [lineS]
theorem line_bytes (n : Nat) (z : Int) (s : ByteArray) : (((((⟨(itoa (n : Int)).toArray⟩ : ByteArray) ++ ⟨#[32]⟩) ++ ⟨(itoa z).toArray⟩) ++ ⟨#[32]⟩) ++ s) ++ ⟨#[10]⟩ = ⟨(itoa (n : Int) ++ 32 :: (itoa z ++ 32 :: (s.data.toList ++ [10]))).toArray⟩ := by
  conv => lhs; rw [bytes_of s]
  simp only [bytes_app2]
  simp
theorem str_size (l : List UInt8) : (⟨l.toArray⟩ : ByteArray).size = l.length := by simp [ByteArray.size]
theorem lineS_len {n : Nat} (hn : n ≤ 1000000) (l : List UInt8) : (lineS n l).length ≤ l.length + 8 := by
  have := itoa_small (z := (n : Int)) (k := 7) (by omega) (by omega) (by omega)
  unfold lineS
  simp; omega
theorem lineS_toList (n : Nat) (l : List UInt8) : (⟨(lineS n l).toArray⟩ : ByteArray).data.toList = lineS n l := by simp
set_option maxRecDepth 100000 in
theorem rwrite_any (n : Nat) (hn : n ≤ 1000000) (b : Int) (s : ByteArray) (hs : s.size ≤ 100000) (w : World) (hl : LibOK w) :
    Calls Tryz.prog 76 #[.int .i64 n, .int .i64 b, .string s] w fun e w' => e = .returned (.string ⟨(lineT n b s.data.toList).toArray⟩) ∧ Below w.heap.size w w' := by
  have HB := Lib.hid (lineS_bytes n s)
  have HT := Lib.hid (line_bytes n (lineZ n b s.data.toList) s)
  have HL := Lib.hid hl
  have HSZ := Lib.hid (show (⟨(lineS n s.data.toList).toArray⟩ : ByteArray).size ≤ 1000000 by
    rw [str_size]; have := lineS_len hn s.data.toList; rw [lt_list] at this; omega)
  have HZ := Lib.hid (sumT_bd b (lineS n s.data.toList))
  have z0 := (sumT_bd b (lineS n s.data.toList)).1
  have z1 := (sumT_bd b (lineS n s.data.toList)).2
  have l1 := itoa_small (z := (n : Int)) (k := 7) (by omega) (by omega) (by omega)
  have l2 := itoa_small (k := 7) z0 (by omega) (by omega)
  clear hl
  go_enter Tryz.func76, Tryz.ntmps76
  go_wp2_with fail
  refine (itoa_any n (by omega) (by omega) _ HL.out).mono ?_
  rintro e w1 ⟨rfl, hb1⟩
  simp only [str]
  have L1 := Lib.hid (HL.out.below hb1)
  go_wp2_with fail
  refine (itoa_any n (by omega) (by omega) _ L1.out).mono ?_
  rintro e w2 ⟨rfl, hb2⟩
  simp only [str]
  have hB2 : Below w.heap.size w w2 := (by repeat' (first | (with_reducible exact Below.refl _ _) | (with_reducible assumption) | (with_reducible refine below_drewN ?_ _) | (with_reducible refine below_step (by assumption) ?_ ?_) | (with_reducible refine Below.alloc ?_ ?_ _) | (with_reducible refine Below.setCell ?_ ?_ _) | (with_reducible refine Below.drew ?_) | go_size | (exact Below.size (by assumption)) | (refine Nat.le_trans (Below.size (by assumption)) ?_)))
  have L2 := Lib.hid (HL.out.below hB2)
  go_wp2_with fail
  rw [HB.out]
  refine (rsum_any b _ HSZ.out _).mono ?_
  rintro e w3 ⟨rfl, rfl⟩
  rw [lineS_toList]
  go_wp2_with fail
  refine (itoa_any _ (by omega) (by omega) _ L2.out).mono ?_
  rintro e w3 ⟨rfl, hb3⟩
  simp only [str]
  go_wp2
  go_ret
  refine ⟨?_, (by repeat' (first | (with_reducible exact Below.refl _ _) | (with_reducible assumption) | (with_reducible refine below_drewN ?_ _) | (with_reducible refine below_step (by assumption) ?_ ?_) | (with_reducible refine Below.alloc ?_ ?_ _) | (with_reducible refine Below.setCell ?_ ?_ _) | (with_reducible refine Below.drew ?_) | go_size | (exact Below.size (by assumption)) | (refine Nat.le_trans (Below.size (by assumption)) ?_)))⟩
  have := HT.out
  unfold lineZ at this
  rw [this]
  rfl
end Go.Proofs.YtaadelcmhbgpnaaGreatDoor
/-
  BOOKS: the line that a book begins with: the reference's first.
-/
namespace Go.Proofs.YtaadelcmhbgpnaaGreatDoor
open Go.RowKit
open Go.Lib
/-- What lies behind so many blanks. -/
def skB : Nat → List UInt8 → List UInt8
  | 0, l => l
  | _ + 1, [] => []
  | k + 1, c :: l => if c = 32 then skB k l else skB (k + 1) l
theorem skB_nil : ∀ k, skB k [] = []
  | 0 => rfl
  | _ + 1 => rfl
theorem skB_app {k : Nat} {r : List UInt8} : ∀ {a : List UInt8}, (32 : UInt8) ∉ a → skB (k + 1) (a ++ 32 :: r) = skB k r
  | [], _ => by simp [skB]
  | c :: a, h => by
    have hc : c ≠ 32 := fun e => h (by rw [e]; simp)
    rw [List.cons_append, skB, if_neg hc, skB_app fun hm => h (List.mem_cons_of_mem _ hm)]
theorem line_head (n : Nat) (b : Int) (t : List UInt8) : lineT n b t = (itoa (n : Int) ++ 32 :: (itoa (lineZ n b t) ++ 32 :: t)) ++ [10] := by
  unfold lineT lineZ
  simp [List.append_assoc]
theorem line_skB (n : Nat) (b : Int) (t : List UInt8) : skB 2 (itoa (n : Int) ++ 32 :: (itoa (lineZ n b t) ++ 32 :: t)) = t := by
  rw [skB_app (itoa_free (by decide)), skB_app (a := itoa (lineZ n b t)) (itoa_free' (sumT_bd _ _).1 (by decide))]
  simp [skB]
theorem line_no10 {n : Nat} {b : Int} {t : List UInt8} (h : (10 : UInt8) ∉ t) : (10 : UInt8) ∉ itoa (n : Int) ++ 32 :: (itoa (lineZ n b t) ++ 32 :: t) := by
  intro hm
  rw [List.mem_append, List.mem_cons, List.mem_append, List.mem_cons] at hm
  rcases hm with hm | hm | hm | hm | hm
  · exact itoa_free (by decide) hm
  · cases hm
  · exact itoa_free' (sumT_bd _ _).1 (by decide) hm
  · cases hm
  · exact h hm
theorem cut_uniq : ∀ {a b x y : List UInt8}, (10 : UInt8) ∉ a → (10 : UInt8) ∉ b → a ++ 10 :: x = b ++ 10 :: y → a = b
  | [], [], _, _, _, _, _ => rfl
  | [], c :: b, _, _, _, hb, h => by
    simp only [List.nil_append, List.cons_append, List.cons.injEq] at h
    exact absurd (by rw [← h.1]; simp) hb
  | c :: a, [], _, _, ha, _, h => by
    simp only [List.nil_append, List.cons_append, List.cons.injEq] at h
    exact absurd (by rw [h.1]; simp) ha
  | c :: a, d :: b, _, _, ha, hb, h => by
    simp only [List.cons_append, List.cons.injEq] at h
    rw [h.1, cut_uniq (fun hm => ha (List.mem_cons_of_mem _ hm)) (fun hm => hb (List.mem_cons_of_mem _ hm)) h.2]
theorem first_no10 {X : List UInt8} {n : Nat} {b : Int} (h : (10 : UInt8) ∉ X) : firstB X n b = none := by
  rw [firstB_none]
  rintro t ht ⟨r, rfl⟩
  exact h (by rw [line_head]; simp)
theorem first_is {X : List UInt8} {n e : Nat} {b : Int} (he : e < X.length) (h1 : (10 : UInt8) ∉ X.take e) (h2 : X[e]? = some 10) {t : List UInt8} (ht : t = skB 2 (X.take e)) : firstB X n b = if rightT t = true ∧ lineT n b t = X.take (e + 1) then some t else none := by
  have hx : X = X.take e ++ 10 :: X.drop (e + 1) := by
    rw [List.getElem?_eq_getElem he] at h2
    conv => lhs; rw [← List.take_append_drop e X, List.drop_eq_getElem_cons he, Option.some.inj h2]
  have hx1 : X.take (e + 1) = X.take e ++ [10] := by
    rw [List.take_add_one, h2]; rfl
  split
  · rename_i hc
    rw [firstB_some]
    refine ⟨hc.1, ?_⟩
    rw [hc.2]
    exact List.take_prefix _ _
  · rename_i hc
    rw [firstB_none]
    rintro u hu ⟨r, hr⟩
    apply hc
    rw [hx, line_head] at hr
    rw [List.append_assoc] at hr
    have hq := cut_uniq (line_no10 (right_no hu)) h1 hr
    have htu : t = u := by rw [ht, ← hq, line_skB]
    rw [htu]
    refine ⟨hu, ?_⟩
    rw [hx1, ← hq, line_head]
theorem first_no {X : List UInt8} {n e : Nat} {b : Int} (he : e < X.length) (h1 : (10 : UInt8) ∉ X.take e) (h2 : X[e]? = some 10) {t : List UInt8} (ht : t = skB 2 (X.take e)) (hc : rightT t = false ∨ lineT n b t ≠ X.take (e + 1)) : firstB X n b = none := by
  rw [first_is he h1 h2 ht, if_neg]
  rintro ⟨h3, h4⟩
  rcases hc with hc | hc
  · rw [hc] at h3; cases h3
  · exact hc h4
theorem first_yes {X : List UInt8} {n e : Nat} {b : Int} (he : e < X.length) (h1 : (10 : UInt8) ∉ X.take e) (h2 : X[e]? = some 10) {t : List UInt8} (ht : t = skB 2 (X.take e)) (h3 : rightT t = true) (h4 : lineT n b t = X.take (e + 1)) : firstB X n b = some t := by
  rw [first_is he h1 h2 ht, if_pos ⟨h3, h4⟩]
theorem skB_step {H : List UInt8} {f c : Nat} (hf : f < H.length) (hc : c < 2) : skB (2 - c) (H.drop f) = if H[f] = 32 then skB (2 - (c + 1)) (H.drop (f + 1)) else skB (2 - c) (H.drop (f + 1)) := by
  rw [List.drop_eq_getElem_cons hf, show 2 - c = (2 - (c + 1)) + 1 by omega, skB]
/-- What first returns. -/
def firstE (o : Option (List UInt8)) : Value := match o with
  | none => .tuple #[.string ⟨#[]⟩, .bool false]
  | some t => .tuple #[.string ⟨t.toArray⟩, .bool true]
theorem at_ne {s : ByteArray} {k : Nat} (h : k < s.size) (hc : s[k] ≠ 10) (hr : (10 : UInt8) ∉ s.data.toList.take k) : (10 : UInt8) ∉ s.data.toList.take (k + 1) := by
  rw [List.take_add_one, at_list s k h]
  simp only [Option.toList, List.mem_append, List.mem_singleton]
  rintro (hm | hm)
  · exact hr hm
  · exact hc hm.symm
set_option maxRecDepth 100000 in
theorem rfirst_any (s : ByteArray) (hs : s.size ≤ 1000000) (n : Nat) (hn : n ≤ 1000000) (b : Int) (w : World) (hl : LibOK w) :
    Calls Tryz.prog 69 #[.string s, .int .i64 n, .int .i64 b] w fun e w' => e = .returned (firstE (firstB s.data.toList n b)) ∧ Below w.heap.size w w' := by
  have HL := Lib.hid hl
  clear hl
  go_enter Tryz.func69, Tryz.ntmps69
  go_upto_region 2 with fail
  go_loopw [8] (fun t wr => ∃ k : Nat, t = .int .i64 k ∧ wr = w ∧ k ≤ s.size ∧ Hid ((10 : UInt8) ∉ s.data.toList.take k)) (fun t _ => s.size - (Go.RowKit.intOf t).toNat)
  case atStart => exact ⟨0, rfl, rfl, by omega, Lib.hid (by simp)⟩
  case round =>
    obtain ⟨k, rfl, rfl, hk, hr⟩ := hrel
    by_cases hlt : k < s.size
    · have dl : decide ((k : Int) < (s.size : Int)) = true := decide_eq_true (by omega)
      by_cases hc : s[k] = 10
      · have e0 : ((s[k].toNat : Int) == 10) = true := by rw [hc]; rfl
        have HC := Lib.hid hc
        have hne : ((k : Int) == (s.size : Int)) = false := by rw [beq_eq_false_iff_ne]; omega
        clear hc dl
        go_upto_region 5 with fail
        go_loopw [9, 10] (fun t u wx => ∃ f c : Nat, t = .int .i64 f ∧ u = .int .i64 c ∧ wx = wr ∧ f ≤ k ∧ c ≤ 2 ∧ Hid (skB (2 - c) ((s.data.toList.take k).drop f) = skB 2 (s.data.toList.take k))) (fun t _ _ => k - (Go.RowKit.intOf t).toNat)
        case atStart => exact ⟨0, 0, rfl, rfl, rfl, by omega, by omega, Lib.hid rfl⟩
        case round =>
          obtain ⟨f, c, rfl, rfl, rfl, hf, hc, hq⟩ := hrel
          by_cases h1 : f < k
          · have d1 : decide ((f : Int) < (k : Int)) = true := decide_eq_true (by omega)
            by_cases h2 : c < 2
            · have d2 : decide ((c : Int) < 2) = true := decide_eq_true (by omega)
              have hsz : f < s.size := by omega
              have hgt : (s.data.toList.take k)[f]'(by rw [List.length_take, lt_list]; omega) = s[f] := by
                rw [List.getElem_take]; exact Option.some.inj (by rw [← List.getElem?_eq_getElem]; exact at_list s f hsz)
              have hst := skB_step (H := s.data.toList.take k) (f := f) (c := c) (by rw [List.length_take, lt_list]; omega) h2
              rw [hq.out, hgt] at hst
              by_cases h3 : s[f] = 32
              · rw [if_pos h3] at hst
                have e1 : ((s[f].toNat : Int) == 32) = true := by rw [h3]; rfl
                have HQ := Lib.hid hst.symm
                clear hst hq h3 hgt
                go_wp2
                go_roundw
                case rel => exact ⟨f + 1, c + 1, by go_num, by go_num, trivial, by omega, by omega, HQ⟩
                case measure => simp [Go.RowKit.intOf]; omega
              · rw [if_neg h3] at hst
                have e1 : ((s[f].toNat : Int) == 32) = false := u8_ne (n := 32) (by omega) h3
                have HQ := Lib.hid hst.symm
                clear hst hq h3 hgt
                go_wp2
                go_roundw
                case rel => exact ⟨f + 1, c, by go_num, by go_num, trivial, by omega, by omega, HQ⟩
                case measure => simp [Go.RowKit.intOf]; omega
            · have d2 : decide ((c : Int) < 2) = false := decide_eq_false (by omega)
              obtain rfl : c = 2 := by omega
              have HQ := Lib.hid (show skB 2 (s.data.toList.take k) = (s.data.toList.drop f).take (k - f) from by
                rw [← hq.out, ← List.drop_take]; simp [skB])
              clear hq
              go_upto_region 9 with fail
              have HQ2 := Lib.hid (show (s.extract f k).data.toList = skB 2 (s.data.toList.take k) by rw [ext_list, HQ.out])
              have hsz : (s.extract f k).size = k - f := by rw [ByteArray.size_extract]; omega
              have hX : k < s.data.toList.length := by rw [lt_list]; exact hlt
              have hA : s.data.toList[k]? = some 10 := by rw [at_list s k hlt, HC.out]
              have hB : wr.heap.size ≤ wr.heap.size := Nat.le_refl _
              clear HQ
              by_cases g1 : 80 < k - f
              · have HR := Lib.hid (first_no (n := n) (b := b) hX hr.out hA HQ2.out (.inl (right_no1 (by omega))))
                have d3 : (80 : Int) < (k : Int) - (f : Int) := by omega
                clear hA hX hr HQ2
                refine region_grow (by kernel_rfl) (by kernel_rfl) ?_
                repeat (go_big_quiet_step (fail))
                refine wpQuiet_nil ?_
                rintro w3 ⟨xg, hxg⟩
                have hb3 := below_grow wr xg
                rw [← hxg] at hb3
                clear hxg xg
                go_wp2
                go_ret2
                exact ⟨by rw [HR.out] <;> rfl, (by repeat' (first | (with_reducible exact Below.refl _ _) | (with_reducible assumption) | (with_reducible refine below_drewN ?_ _) | (with_reducible refine below_step (by assumption) ?_ ?_) | (with_reducible refine Below.alloc ?_ ?_ _) | (with_reducible refine Below.setCell ?_ ?_ _) | (with_reducible refine Below.drew ?_) | go_size | (exact Below.size (by assumption)) | (refine Nat.le_trans (Below.size (by assumption)) ?_)))⟩
              · have d3 : ¬ (80 : Int) < (k : Int) - (f : Int) := by omega
                by_cases g2 : rightT (s.extract f k).data.toList = true
                · have HT := Lib.hid (fun w' => rright_any (s.extract f k) (by omega) w')
                  rw [g2] at HT
                  have HWT := Lib.hid (fun w' (h : LibOK w') => rwrite_any n hn b (s.extract f k) (by omega) w' h)
                  have he1 : (s.extract 0 (k + 1)).data.toList = s.data.toList.take (k + 1) := by rw [ext_list]; simp
                  by_cases g3 : lineT n b (s.extract f k).data.toList = s.data.toList.take (k + 1)
                  · have HR := Lib.hid (first_yes (n := n) (b := b) hX hr.out hA HQ2.out g2 g3)
                    have HE := Lib.hid (show (lineT n b (s.extract f k).data.toList == (s.extract 0 (k + 1)).toList) = true by rw [Lib.toList_data, he1, g3]; simp)
                    obtain ⟨L, hL⟩ : ∃ L, L = lineT n b (s.extract f k).data.toList := ⟨_, rfl⟩
                    rw [← hL] at HWT HE
                    have e2 := HE.out
                    clear hA hX hr HQ2 g2 g3 he1 hL
                    refine region_grow (by kernel_rfl) (by kernel_rfl) ?_
                    repeat (go_big_quiet_step ((first | (go_at_call 91; exact grow_call_same (HT.out _)) | (go_at_call 76; exact grow_call (HWT.out _ (HL.out.below (below_grow _ _)))))))
                    refine wpQuiet_nil ?_
                    rintro w3 ⟨xg, hxg⟩
                    have hb3 := below_grow wr xg
                    rw [← hxg] at hb3
                    clear hxg xg
                    go_wp2
                    go_ret2
                    exact ⟨by rw [HR.out, firstE, ← bytes_of] <;> rfl, (by repeat' (first | (with_reducible exact Below.refl _ _) | (with_reducible assumption) | (with_reducible refine below_drewN ?_ _) | (with_reducible refine below_step (by assumption) ?_ ?_) | (with_reducible refine Below.alloc ?_ ?_ _) | (with_reducible refine Below.setCell ?_ ?_ _) | (with_reducible refine Below.drew ?_) | go_size | (exact Below.size (by assumption)) | (refine Nat.le_trans (Below.size (by assumption)) ?_)))⟩
                  · have HR := Lib.hid (first_no (n := n) (b := b) hX hr.out hA HQ2.out (.inr g3))
                    have HE := Lib.hid (show (lineT n b (s.extract f k).data.toList == (s.extract 0 (k + 1)).toList) = false by rw [Lib.toList_data, he1, beq_eq_false_iff_ne]; exact g3)
                    obtain ⟨L, hL⟩ : ∃ L, L = lineT n b (s.extract f k).data.toList := ⟨_, rfl⟩
                    rw [← hL] at HWT HE
                    have e2 := HE.out
                    clear hA hX hr HQ2 g2 g3 he1 hL
                    refine region_grow (by kernel_rfl) (by kernel_rfl) ?_
                    repeat (go_big_quiet_step ((first | (go_at_call 91; exact grow_call_same (HT.out _)) | (go_at_call 76; exact grow_call (HWT.out _ (HL.out.below (below_grow _ _)))))))
                    refine wpQuiet_nil ?_
                    rintro w3 ⟨xg, hxg⟩
                    have hb3 := below_grow wr xg
                    rw [← hxg] at hb3
                    clear hxg xg
                    go_wp2
                    go_ret2
                    exact ⟨by rw [HR.out] <;> rfl, (by repeat' (first | (with_reducible exact Below.refl _ _) | (with_reducible assumption) | (with_reducible refine below_drewN ?_ _) | (with_reducible refine below_step (by assumption) ?_ ?_) | (with_reducible refine Below.alloc ?_ ?_ _) | (with_reducible refine Below.setCell ?_ ?_ _) | (with_reducible refine Below.drew ?_) | go_size | (exact Below.size (by assumption)) | (refine Nat.le_trans (Below.size (by assumption)) ?_)))⟩
                · have g2' : rightT (s.extract f k).data.toList = false := by simpa using g2
                  have HR := Lib.hid (first_no (n := n) (b := b) hX hr.out hA HQ2.out (.inl g2'))
                  have HT := Lib.hid (fun w' => rright_any (s.extract f k) (by omega) w')
                  rw [g2'] at HT
                  clear hA hX hr HQ2 g2 g2'
                  refine region_grow (by kernel_rfl) (by kernel_rfl) ?_
                  repeat (go_big_quiet_step ((go_at_call 91; exact grow_call_same (HT.out _))))
                  refine wpQuiet_nil ?_
                  rintro w3 ⟨xg, hxg⟩
                  have hb3 := below_grow wr xg
                  rw [← hxg] at hb3
                  clear hxg xg
                  go_wp2
                  go_ret2
                  exact ⟨by rw [HR.out] <;> rfl, (by repeat' (first | (with_reducible exact Below.refl _ _) | (with_reducible assumption) | (with_reducible refine below_drewN ?_ _) | (with_reducible refine below_step (by assumption) ?_ ?_) | (with_reducible refine Below.alloc ?_ ?_ _) | (with_reducible refine Below.setCell ?_ ?_ _) | (with_reducible refine Below.drew ?_) | go_size | (exact Below.size (by assumption)) | (refine Nat.le_trans (Below.size (by assumption)) ?_)))⟩
          · have d1 : decide ((f : Int) < (k : Int)) = false := decide_eq_false (by omega)
            have HQ := Lib.hid (show skB 2 (s.data.toList.take k) = (s.data.toList.drop f).take (k - f) from by
              rw [← hq.out, ← List.drop_take, List.drop_of_length_le (by rw [List.length_take]; omega), skB_nil])
            clear hq
            go_upto_region 9 with fail
            have HQ2 := Lib.hid (show (s.extract f k).data.toList = skB 2 (s.data.toList.take k) by rw [ext_list, HQ.out])
            have hsz : (s.extract f k).size = k - f := by rw [ByteArray.size_extract]; omega
            have hX : k < s.data.toList.length := by rw [lt_list]; exact hlt
            have hA : s.data.toList[k]? = some 10 := by rw [at_list s k hlt, HC.out]
            have hB : wr.heap.size ≤ wr.heap.size := Nat.le_refl _
            clear HQ
            by_cases g1 : 80 < k - f
            · have HR := Lib.hid (first_no (n := n) (b := b) hX hr.out hA HQ2.out (.inl (right_no1 (by omega))))
              have d3 : (80 : Int) < (k : Int) - (f : Int) := by omega
              clear hA hX hr HQ2
              refine region_grow (by kernel_rfl) (by kernel_rfl) ?_
              repeat (go_big_quiet_step (fail))
              refine wpQuiet_nil ?_
              rintro w3 ⟨xg, hxg⟩
              have hb3 := below_grow wr xg
              rw [← hxg] at hb3
              clear hxg xg
              go_wp2
              go_ret2
              exact ⟨by rw [HR.out] <;> rfl, (by repeat' (first | (with_reducible exact Below.refl _ _) | (with_reducible assumption) | (with_reducible refine below_drewN ?_ _) | (with_reducible refine below_step (by assumption) ?_ ?_) | (with_reducible refine Below.alloc ?_ ?_ _) | (with_reducible refine Below.setCell ?_ ?_ _) | (with_reducible refine Below.drew ?_) | go_size | (exact Below.size (by assumption)) | (refine Nat.le_trans (Below.size (by assumption)) ?_)))⟩
            · have d3 : ¬ (80 : Int) < (k : Int) - (f : Int) := by omega
              by_cases g2 : rightT (s.extract f k).data.toList = true
              · have HT := Lib.hid (fun w' => rright_any (s.extract f k) (by omega) w')
                rw [g2] at HT
                have HWT := Lib.hid (fun w' (h : LibOK w') => rwrite_any n hn b (s.extract f k) (by omega) w' h)
                have he1 : (s.extract 0 (k + 1)).data.toList = s.data.toList.take (k + 1) := by rw [ext_list]; simp
                by_cases g3 : lineT n b (s.extract f k).data.toList = s.data.toList.take (k + 1)
                · have HR := Lib.hid (first_yes (n := n) (b := b) hX hr.out hA HQ2.out g2 g3)
                  have HE := Lib.hid (show (lineT n b (s.extract f k).data.toList == (s.extract 0 (k + 1)).toList) = true by rw [Lib.toList_data, he1, g3]; simp)
                  obtain ⟨L, hL⟩ : ∃ L, L = lineT n b (s.extract f k).data.toList := ⟨_, rfl⟩
                  rw [← hL] at HWT HE
                  have e2 := HE.out
                  clear hA hX hr HQ2 g2 g3 he1 hL
                  refine region_grow (by kernel_rfl) (by kernel_rfl) ?_
                  repeat (go_big_quiet_step ((first | (go_at_call 91; exact grow_call_same (HT.out _)) | (go_at_call 76; exact grow_call (HWT.out _ (HL.out.below (below_grow _ _)))))))
                  refine wpQuiet_nil ?_
                  rintro w3 ⟨xg, hxg⟩
                  have hb3 := below_grow wr xg
                  rw [← hxg] at hb3
                  clear hxg xg
                  go_wp2
                  go_ret2
                  exact ⟨by rw [HR.out, firstE, ← bytes_of] <;> rfl, (by repeat' (first | (with_reducible exact Below.refl _ _) | (with_reducible assumption) | (with_reducible refine below_drewN ?_ _) | (with_reducible refine below_step (by assumption) ?_ ?_) | (with_reducible refine Below.alloc ?_ ?_ _) | (with_reducible refine Below.setCell ?_ ?_ _) | (with_reducible refine Below.drew ?_) | go_size | (exact Below.size (by assumption)) | (refine Nat.le_trans (Below.size (by assumption)) ?_)))⟩
                · have HR := Lib.hid (first_no (n := n) (b := b) hX hr.out hA HQ2.out (.inr g3))
                  have HE := Lib.hid (show (lineT n b (s.extract f k).data.toList == (s.extract 0 (k + 1)).toList) = false by rw [Lib.toList_data, he1, beq_eq_false_iff_ne]; exact g3)
                  obtain ⟨L, hL⟩ : ∃ L, L = lineT n b (s.extract f k).data.toList := ⟨_, rfl⟩
                  rw [← hL] at HWT HE
                  have e2 := HE.out
                  clear hA hX hr HQ2 g2 g3 he1 hL
                  refine region_grow (by kernel_rfl) (by kernel_rfl) ?_
                  repeat (go_big_quiet_step ((first | (go_at_call 91; exact grow_call_same (HT.out _)) | (go_at_call 76; exact grow_call (HWT.out _ (HL.out.below (below_grow _ _)))))))
                  refine wpQuiet_nil ?_
                  rintro w3 ⟨xg, hxg⟩
                  have hb3 := below_grow wr xg
                  rw [← hxg] at hb3
                  clear hxg xg
                  go_wp2
                  go_ret2
                  exact ⟨by rw [HR.out] <;> rfl, (by repeat' (first | (with_reducible exact Below.refl _ _) | (with_reducible assumption) | (with_reducible refine below_drewN ?_ _) | (with_reducible refine below_step (by assumption) ?_ ?_) | (with_reducible refine Below.alloc ?_ ?_ _) | (with_reducible refine Below.setCell ?_ ?_ _) | (with_reducible refine Below.drew ?_) | go_size | (exact Below.size (by assumption)) | (refine Nat.le_trans (Below.size (by assumption)) ?_)))⟩
              · have g2' : rightT (s.extract f k).data.toList = false := by simpa using g2
                have HR := Lib.hid (first_no (n := n) (b := b) hX hr.out hA HQ2.out (.inl g2'))
                have HT := Lib.hid (fun w' => rright_any (s.extract f k) (by omega) w')
                rw [g2'] at HT
                clear hA hX hr HQ2 g2 g2'
                refine region_grow (by kernel_rfl) (by kernel_rfl) ?_
                repeat (go_big_quiet_step ((go_at_call 91; exact grow_call_same (HT.out _))))
                refine wpQuiet_nil ?_
                rintro w3 ⟨xg, hxg⟩
                have hb3 := below_grow wr xg
                rw [← hxg] at hb3
                clear hxg xg
                go_wp2
                go_ret2
                exact ⟨by rw [HR.out] <;> rfl, (by repeat' (first | (with_reducible exact Below.refl _ _) | (with_reducible assumption) | (with_reducible refine below_drewN ?_ _) | (with_reducible refine below_step (by assumption) ?_ ?_) | (with_reducible refine Below.alloc ?_ ?_ _) | (with_reducible refine Below.setCell ?_ ?_ _) | (with_reducible refine Below.drew ?_) | go_size | (exact Below.size (by assumption)) | (refine Nat.le_trans (Below.size (by assumption)) ?_)))⟩
      · have e0 : ((s[k].toNat : Int) == 10) = false := u8_ne (n := 10) (by omega) hc
        have R2 := Lib.hid (at_ne hlt hc hr.out)
        clear hr hc
        go_wp2
        go_roundw
        case rel => exact ⟨k + 1, by go_num, trivial, by omega, R2⟩
        case measure => simp [Go.RowKit.intOf]; omega
    · obtain rfl : k = s.size := by omega
      have dl : decide ((s.size : Int) < (s.size : Int)) = false := decide_eq_false (by omega)
      have HR := Lib.hid (first_no10 (n := n) (b := b) (X := s.data.toList) (by have := hr.out; rwa [List.take_of_length_le (by rw [lt_list]; omega)] at this))
      have heq : ((s.size : Int) == (s.size : Int)) = true := by simp
      clear hr hlt dl
      go_upto_region 5 with fail
      go_loopw [9, 10] (fun t u wx => ∃ f c : Nat, t = .int .i64 f ∧ u = .int .i64 c ∧ wx = wr ∧ f ≤ s.size ∧ c ≤ 2) (fun t _ _ => s.size - (Go.RowKit.intOf t).toNat)
      case atStart => exact ⟨0, 0, rfl, rfl, rfl, by omega, by omega⟩
      case round =>
        obtain ⟨f, c, rfl, rfl, rfl, hf, hc⟩ := hrel
        by_cases h1 : f < s.size
        · have d1 : decide ((f : Int) < (s.size : Int)) = true := decide_eq_true (by omega)
          by_cases h2 : c < 2
          · have d2 : decide ((c : Int) < 2) = true := decide_eq_true (by omega)
            by_cases h3 : s[f] = 32
            · have e1 : ((s[f].toNat : Int) == 32) = true := by rw [h3]; rfl
              clear h3
              go_wp2
              go_roundw
              case rel => exact ⟨f + 1, c + 1, by go_num, by go_num, trivial, by omega, by omega⟩
              case measure => simp [Go.RowKit.intOf]; omega
            · have e1 : ((s[f].toNat : Int) == 32) = false := u8_ne (n := 32) (by omega) h3
              clear h3
              go_wp2
              go_roundw
              case rel => exact ⟨f + 1, c, by go_num, by go_num, trivial, by omega, by omega⟩
              case measure => simp [Go.RowKit.intOf]; omega
          · have d2 : decide ((c : Int) < 2) = false := decide_eq_false (by omega)
            go_upto_region 9 with fail
            have hB : wr.heap.size ≤ wr.heap.size := Nat.le_refl _
            refine region_grow (by kernel_rfl) (by kernel_rfl) ?_
            repeat (go_big_quiet_step (fail))
            refine wpQuiet_nil ?_
            rintro w3 ⟨xg, hxg⟩
            have hb3 := below_grow wr xg
            rw [← hxg] at hb3
            clear hxg xg
            go_wp2
            go_ret2
            exact ⟨by rw [HR.out] <;> rfl, (by repeat' (first | (with_reducible exact Below.refl _ _) | (with_reducible assumption) | (with_reducible refine below_drewN ?_ _) | (with_reducible refine below_step (by assumption) ?_ ?_) | (with_reducible refine Below.alloc ?_ ?_ _) | (with_reducible refine Below.setCell ?_ ?_ _) | (with_reducible refine Below.drew ?_) | go_size | (exact Below.size (by assumption)) | (refine Nat.le_trans (Below.size (by assumption)) ?_)))⟩
        · have d1 : decide ((f : Int) < (s.size : Int)) = false := decide_eq_false (by omega)
          go_upto_region 9 with fail
          have hB : wr.heap.size ≤ wr.heap.size := Nat.le_refl _
          refine region_grow (by kernel_rfl) (by kernel_rfl) ?_
          repeat (go_big_quiet_step (fail))
          refine wpQuiet_nil ?_
          rintro w3 ⟨xg, hxg⟩
          have hb3 := below_grow wr xg
          rw [← hxg] at hb3
          clear hxg xg
          go_wp2
          go_ret2
          exact ⟨by rw [HR.out] <;> rfl, (by repeat' (first | (with_reducible exact Below.refl _ _) | (with_reducible assumption) | (with_reducible refine below_drewN ?_ _) | (with_reducible refine below_step (by assumption) ?_ ?_) | (with_reducible refine Below.alloc ?_ ?_ _) | (with_reducible refine Below.setCell ?_ ?_ _) | (with_reducible refine Below.drew ?_) | go_size | (exact Below.size (by assumption)) | (refine Nat.le_trans (Below.size (by assumption)) ?_)))⟩
end Go.Proofs.YtaadelcmhbgpnaaGreatDoor
