/-
  BOOKS: the lines and the rest of a text: the reference's Read.
-/
import Derived.Test.YtaadelcmhbgpnaaGreatDoorBokG
namespace Go.Proofs.YtaadelcmhbgpnaaGreatDoor
open Go.RowKit
open Go.Lib
/-- How far a book has been read. -/
structure RdS (X : List UInt8) (ts : List (List UInt8)) (z : Int) (L : List UInt8) : Prop where
  sum : z = endZ 1 0 ts
  eq : X = writeB 1 0 ts ++ L
  right : ∀ t ∈ ts, rightT t = true
theorem RdS.start (X : List UInt8) : RdS X [] 0 X := ⟨rfl, rfl, fun t h => by cases h⟩
theorem endZ_snoc (ts : List (List UInt8)) (t : List UInt8) : endZ 1 0 (ts ++ [t]) = lineZ (ts.length + 1) (endZ 1 0 ts) t := by
  rw [endZ_app, show 1 + ts.length = ts.length + 1 by omega]; rfl
theorem lnS_snoc (ts : List (List UInt8)) (t : List UInt8) : lnS 1 0 (ts ++ [t]) = lnS 1 0 ts ++ [⟨ts.length + 1, ⟨t.toArray⟩, lineZ (ts.length + 1) (endZ 1 0 ts) t⟩] := by
  rw [lnS_app, show 1 + ts.length = ts.length + 1 by omega]; rfl
theorem lineT_len (n : Nat) (b : Int) (t : List UInt8) : (lineT n b t).length = (itoa (n : Int)).length + (itoa (lineZ n b t)).length + t.length + 3 := by
  unfold lineT lineZ
  simp; omega
theorem RdS.step {X L t : List UInt8} {ts : List (List UInt8)} {z : Int} (h : RdS X ts z L) (hf : firstB L (ts.length + 1) z = some t) : RdS X (ts ++ [t]) (lineZ (ts.length + 1) z t) (L.drop (lineT (ts.length + 1) z t).length) ∧ (lineT (ts.length + 1) z t).length ≤ L.length ∧ rightT t = true := by
  obtain ⟨h1, r, h2⟩ := firstB_some.1 hf
  refine ⟨⟨?_, ?_, ?_⟩, ?_, h1⟩
  · rw [endZ_snoc, h.sum]
  · rw [writeB_app, ← h.sum, show 1 + ts.length = ts.length + 1 by omega]
    rw [h.eq, ← h2]
    simp [writeB]
  · intro u hu
    rcases List.mem_append.1 hu with hu | hu
    · exact h.right u hu
    · rw [List.mem_singleton.1 hu]; exact h1
  · rw [← h2]; simp
theorem RdS.fin {X L : List UInt8} {ts : List (List UInt8)} {z : Int} (h : RdS X ts z L) (hl : ts.length ≤ 200) (hf : ts.length = 200 ∨ firstB L (ts.length + 1) z = none) : readB 200 1 0 X = (ts, L) :=
  reads_uniq 200 1 0 X ts L ⟨h.eq, h.right, hl, by rw [← h.sum, show 1 + ts.length = ts.length + 1 by omega]; exact hf⟩
/-- What Read returns. -/
def OutRd (w : World) (X : List UInt8) (e : Ending) (w' : World) : Prop :=
  ∃ v r, e = .returned (.tuple #[v, .string r]) ∧ r.data.toList = (readB 200 1 0 X).2 ∧ OwnLn w' w.heap.size v (lnS 1 0 (readB 200 1 0 X).1) ∧ Below w.heap.size w w'
theorem OutRd.of {w w' : World} {X : List UInt8} {e : Ending} {ts : List (List UInt8)} {v : Value} {r : ByteArray} (h : readB 200 1 0 X = (ts, r.data.toList)) (he : e = .returned (.tuple #[v, .string r])) (ho : OwnLn w' w.heap.size v (lnS 1 0 ts)) (hb : Below w.heap.size w w') : OutRd w X e w' :=
  ⟨v, r, he, by rw [h], by rw [h]; exact ho, hb⟩
def strLen : Value → Nat
  | .string s => s.size
  | _ => 0
theorem OwnLn.grown {w w' : World} {B : Nat} {v : Value} {l : List Ln} {row : Option Nat} (h : OwnLn w B v l) (hg : w.grownBy w' row) (hne : v.ownBlock = none ∨ v.ownBlock ≠ row) : OwnLn w' B v l := World.ownsRow.kept h hg hne
theorem Below.grown' {B : Nat} {w w1 w2 : World} {v : Value} (hb : Below B w w1) (hg : w1.grownBy w2 v.ownBlock) (hB : B ≤ w1.heap.size) (h : ∀ g, v.ownBlock = some g → B ≤ g) : Below B w w2 := Below.grown hb hg hB h
set_option maxRecDepth 100000 in
set_option maxHeartbeats 4000000 in
theorem rread_any (s : ByteArray) (hs : s.size ≤ 1000000) (w : World) (hl : LibOK w) :
    Calls Tryz.prog 44 #[.string s] w (OutRd w s.data.toList) := by
  have HL := Lib.hid hl
  have HS0 := Lib.hid (RdS.start s.data.toList)
  obtain ⟨X, hX⟩ : ∃ X, X = s.data.toList := ⟨_, rfl⟩
  clear hl
  go_enter Tryz.func44, Tryz.ntmps44
  go_upto_region 3 with fail
  rw [← hX]
  go_loopw [0, 4, 5] (fun a v c wr => ∃ (L : ByteArray) (ts : List (List UInt8)) (z : Int), a = .string L ∧ c = .int .i64 z ∧ L.size ≤ 1000000 ∧ ts.length ≤ 200 ∧ 0 ≤ z ∧ z < 1000003 ∧ Hid (RdS X ts z L.data.toList) ∧ OwnLn wr w.heap.size v (lnS 1 0 ts) ∧ Below w.heap.size w wr) (fun a _ _ _ => strLen a)
  case atStart => exact ⟨s, [], 0, rfl, rfl, hs, by simp, by omega, by omega, Lib.hid (by rw [hX]; exact HS0.out), OwnLn.nil _ _, Below.refl _ _⟩
  case round =>
    obtain ⟨L, ts, z, rfl, rfl, hL, hts, hz0, hz1, hR, hO, hB⟩ := hrel
    obtain ⟨A, c, rfl, -, -⟩ := hO.parts
    rw [lnS_len] at hO ⊢
    have L1 := Lib.hid (HL.out.below hB)
    have hz := hB.size
    by_cases hlt : ts.length < 200
    · have dl : decide ((ts.length : Int) < 200) = true := decide_eq_true (by omega)
      have HO := Lib.hid hO
      have HB := Lib.hid hB
      clear hO hB
      match hf : firstB L.data.toList (ts.length + 1) z with
      | none =>
        have HF := Lib.hid (hR.out.fin hts (.inr hf))
        have HC := Lib.hid (rfirst_any L hL (ts.length + 1) (by omega) z _ L1.out)
        simp only [hf, firstE] at HC
        go_wp2_with (go_at_call 69; refine HC.out.mono ?_; rintro e w1 ⟨rfl, hb1⟩)
        go_ret2
        exact OutRd.of (by rw [← hX]; exact HF.out) rfl (HO.out.keep hb1) (HB.out.trans (hb1.mono hz))
      | some t =>
        obtain ⟨hS, hln, hrt⟩ := hR.out.step hf
        obtain ⟨T, hT⟩ : ∃ T : ByteArray, T = ⟨t.toArray⟩ := ⟨_, rfl⟩
        have hTl : T.data.toList = t := by rw [hT]
        have ht80 : T.size ≤ 80 := by rw [← lt_list, hTl]; exact (rightT_iff.1 hrt).2.1
        have HC := Lib.hid (rfirst_any L hL (ts.length + 1) (by omega) z _ L1.out)
        simp only [hf, firstE] at HC
        rw [← hT] at HC
        have hSn := lnS_snoc ts t
        rw [← hR.out.sum, ← hT] at hSn
        have HB1 := Lib.hid (lineS_bytes (ts.length + 1) T)
        have hSZ : (⟨(lineS (ts.length + 1) T.data.toList).toArray⟩ : ByteArray).size ≤ 1000000 := by
          rw [str_size]; have := lineS_len (n := ts.length + 1) (by omega) T.data.toList; rw [lt_list] at this; omega
        have HSU := Lib.hid (fun w' => rsum_any z _ hSZ w')
        rw [lineS_toList, hTl] at HSU
        rw [hTl] at HB1
        have hll := lineT_len (ts.length + 1) z t
        obtain ⟨y0, y1⟩ : 0 ≤ lineZ (ts.length + 1) z t ∧ lineZ (ts.length + 1) z t < 1000003 := sumT_bd _ _
        have hzy : sumT z (lineS (ts.length + 1) t) = lineZ (ts.length + 1) z t := rfl
        rw [hzy] at HSU
        have htl : t.length = T.size := by rw [← hTl, lt_list]
        rw [htl] at hll
        rw [lt_list] at hln
        obtain ⟨y, hy⟩ : ∃ y, y = lineZ (ts.length + 1) z t := ⟨_, rfl⟩
        rw [← hy] at hS hSn HSU y0 y1 hll
        obtain ⟨q, hq⟩ : ∃ q, q = (lineT (ts.length + 1) z t).length := ⟨_, rfl⟩
        rw [← hq] at hS hln hll
        obtain ⟨S, hSS⟩ : ∃ S : ByteArray, S = ⟨(lineS (ts.length + 1) t).toArray⟩ := ⟨_, rfl⟩
        rw [← hSS] at HB1 HSU
        have l1 := itoa_small (z := ((ts.length + 1 : Nat) : Int)) (k := 7) (by omega) (by omega) (by omega)
        have l2 := itoa_small (k := 7) y0 (by omega) (by omega)
        have HS := Lib.hid hS
        have HSN := Lib.hid hSn
        have HT := Lib.hid hTl
        clear hf hS hSn hSZ hzy htl hTl hT hrt hy hq hSS hR
        obtain ⟨m, hm⟩ : ∃ m, m = ts.length + 1 := ⟨_, rfl⟩
        rw [← hm] at HB1 HC l1 hll HSN
        have HMI := Lib.hid (show (ts.length : Int) + 1 = (m : Int) by omega)
        have HLL := Lib.hid (And.intro hll (And.intro hln (And.intro hm (And.intro l1 l2))))
        clear hll hln hm l1 l2 ht80
        go_wp2_with fail
        rw [HMI.out]
        refine HC.out.mono ?_
        rintro e w1 ⟨rfl, hb1⟩
        have mb : m ≤ 200 := by have := HLL.out.2.2.1; omega
        have hB1 := HB.out.trans (hb1.mono hz)
        have L2 := Lib.hid (HL.out.below hB1)
        have HO1 := Lib.hid (HO.out.keep hb1)
        have HB1' := Lib.hid hB1
        have l1 := HLL.out.2.2.2.1
        have t80 : T.size ≤ 1000000 := by have := HLL.out.1; have := HLL.out.2.1; omega
        clear hB1 hb1 L1 HO HB HC
        go_wp2_with fail
        refine (itoa_any m (by omega) (by omega) _ L2.out).mono ?_
        rintro e w2 ⟨rfl, hb2⟩
        simp only [str]
        have hB2 := HB1'.out.trans (hb2.mono HB1'.out.size)
        have L3 := Lib.hid (HL.out.below hB2)
        have HO2 := Lib.hid (HO1.out.keep hb2)
        have HB2 := Lib.hid hB2
        clear hB2 hb2 L2 HO1 HB1'
        go_wp2_with fail
        rw [HB1.out]
        refine (HSU.out _).mono ?_
        rintro e w3 ⟨rfl, rfl⟩
        have hz2 := HB2.out.size
        go_wp2_with (at_builtin; refine append_line (.tmp 31) (.tmp 36) rfl rfl w.heap.size _ (lnS 1 0 ts) ⟨m, T, y⟩ w2 rfl rfl HO2.out rfl (by rw [lnS_len]; omega) hz2 ?_)
        intro v' w3 ho hg hd
        have hB3 := HB2.out.grown hg hz2 (fun g hg => (HO2.out.lt g hg).1)
        have L4 := Lib.hid (HL.out.below hB3)
        have HO3 := Lib.hid ho
        have HB3 := Lib.hid hB3
        have hz3 := hB3.size
        clear ho hg hd hB3 L3 HO2 HB2 hz2
        go_wp2_with fail
        refine (itoa_any m (by omega) (by omega) _ L4.out).mono ?_
        rintro e w4 ⟨rfl, hb4⟩
        simp only [str]
        have hB4 := HB3.out.trans (hb4.mono hz3)
        have L5 := Lib.hid (HL.out.below hB4)
        have HO4 := Lib.hid (HO3.out.keep hb4)
        have HB4 := Lib.hid hB4
        have hz4 := hB4.size
        clear hB4 hb4 L4 HO3 HB3 hz3
        go_wp2_with fail
        refine (itoa_any y (by omega) (by omega) _ L5.out).mono ?_
        rintro e w5 ⟨rfl, hb5⟩
        simp only [str]
        have HO5 := Lib.hid (HO4.out.keep hb5)
        have HB5 := Lib.hid (HB4.out.trans (hb5.mono hz4))
        have l2 := HLL.out.2.2.2.2
        have hqq : (((itoa (m : Int)).length : Int) + ((itoa y).length : Int) + (T.size : Int) + 3) = (q : Int) := by have := HLL.out.1; omega
        have hql : q ≤ L.size := HLL.out.2.1
        clear hb5 HO4 HB4 L5
        go_wp2_with fail
        have he : (L.extract q L.size).data.toList = L.data.toList.drop q := by
          rw [ext_list, List.take_of_length_le (by rw [List.length_drop, lt_list]; exact Nat.le_refl _)]
        have hsz : (L.extract q L.size).size = L.size - q := by rw [ByteArray.size_extract]; omega
        refine ⟨⟨L.extract q L.size, ts ++ [t], y, rfl, rfl, by omega, by rw [List.length_append, List.length_singleton]; omega, y0, y1, Lib.hid (by rw [he]; exact HS.out), by rw [HSN.out]; exact HO5.out, HB5.out⟩, ?_⟩
        show (L.extract q L.size).size < L.size
        have := HLL.out.1
        omega
    · have HF := Lib.hid (hR.out.fin hts (.inl (by omega)))
      have dl : decide ((ts.length : Int) < 200) = false := decide_eq_false (by omega)
      have HO := Lib.hid hO
      have HB := Lib.hid hB
      clear hO hB hR
      go_wp2
      go_ret2
      exact OutRd.of (by rw [← hX]; exact HF.out) rfl HO.out HB.out
end Go.Proofs.YtaadelcmhbgpnaaGreatDoor
