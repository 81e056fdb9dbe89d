/-
  THE TEXTS OF OPERATIONS ON PATTERNS: PLAIN.
-/
import Derived.Test.YtlinldbbhdpgcaaGreatDoorFmtD
namespace Go.Proofs.YtlinldbbhdpgcaaGreatDoor
open Go.RowKit
theorem lst_colF {p : PatD} (h : valP p = 0) : colF (lstO p) = colF p := by rw [lstO_zero h, (lst_pat h).lst_col]
theorem turnT_lst {p : PatD} (h : valP p = 0) : turnT (lstO p) = turnT p := by
  unfold turnT
  rw [if_neg (by simp [(lstO_good h).val]), if_neg (by simp [h]), lst_colF h]
theorem mirT_lst {p : PatD} (h : valP p = 0) : mirT (lstO p) = mirT p := by
  unfold mirT
  rw [if_neg (by simp [(lstO_good h).val]), if_neg (by simp [h]), lst_colF h]
theorem swe_lst {p : PatD} (h : valP p = 0) (t : Int) : sweT (lstO p) t = sweT p t ∧ sweE (lstO p) t = sweE p t := by
  have e : sweZ (lstO p) t = sweZ p t := by unfold sweZ; rw [(lstO_good h).val, h]
  unfold sweT sweE
  rw [e, lst_colF h]
  exact ⟨rfl, rfl⟩
theorem ove_lst {p q : PatD} (h : valP p = 0) (k : valP q = 0) : oveT (lstO p) (lstO q) = oveT p q ∧ oveZ (lstO p) (lstO q) = oveZ p q := by
  have e1 : twoZ (lstO p) (lstO q) = 0 := by unfold twoZ; rw [if_neg (by simp [(lstO_good h).val]), (lstO_good k).val]
  have e2 : twoZ p q = 0 := by unfold twoZ; rw [if_neg (by simp [h]), k]
  unfold oveT oveZ
  rw [e1, e2, lst_colF h, lst_colF k]
  exact ⟨rfl, rfl⟩
/-- " ( " s " )" behind some bytes. -/
def parT (q : PatD) : List UInt8 := 32 :: 40 :: 32 :: (formT q ++ [32, 41])
def parW (q : PatD) : List ByteArray := [txt [40], txt [103, 114, 105, 100], ⟨(Lib.itoa q.a).toArray⟩, ⟨(Lib.itoa q.b).toArray⟩, ⟨(Lib.itoa q.c).toArray⟩, ⟨(cellsT q.a 0 q.xs).toArray⟩, txt [41]]
theorem split_par {q : PatD} (h : GoodP q) {u : List UInt8} (hu : (32 : UInt8) ∉ u) (r : List UInt8) (hr : r = [] ∨ ∃ r', r = 32 :: r') : splitL 32 (u ++ (parT q ++ r)) = u :: ((parW q).map (·.data.toList) ++ (match r with | [] => [] | _ :: r' => splitL 32 r')) := by
  have h1 := h.a0
  have h2 := h.a1
  have h3 := h.b0
  have h4 := h.b1
  have h5 := h.c0
  have h6 := h.c1
  have e : u ++ (parT q ++ r) = u ++ 32 :: ([40] ++ 32 :: ([103, 114, 105, 100] ++ 32 :: (Lib.itoa q.a ++ 32 :: (Lib.itoa q.b ++ 32 :: (Lib.itoa q.c ++ 32 :: (cellsT q.a 0 q.xs ++ 32 :: ([41] ++ r))))))) := by simp [parT, formT, frontT]
  rw [e, splitL_app hu, splitL_app (by decide), splitL_app (by decide), splitL_app (itoa_no (by omega) (by omega) 32 (by decide)), splitL_app (itoa_no (by omega) (by omega) 32 (by decide)), splitL_app (itoa_no (by omega) (by omega) 32 (by decide)), splitL_app (cells_no q.a 32 (by decide) q.xs 0 h.col)]
  rcases hr with rfl | ⟨r', rfl⟩
  · rw [List.append_nil, splitL_none (by decide)]
    rfl
  · rw [splitL_app (by decide)]
    rfl
theorem paren_par {q : PatD} (h : GoodP q) (k : Nat) (r : List ByteArray) : paren (exprO (k + 1)) (parW q ++ r) = some (formX q, r) :=
  paren_some.2 ⟨_, rfl, expr_form h k (txt [41] :: r)⟩
theorem words_of_split' {x : ByteArray} {xs : List ByteArray} (h : xs.map (·.data.toList) = splitL 32 x.data.toList) : xs = wordsS x := by
  have h2 : (wordsS x).map (·.data.toList) = splitL 32 x.data.toList := splitB_one x 32
  rw [← h2] at h
  exact (List.map_inj_right (fun a b e => ByteArray.ext (Array.ext' e))).1 h
theorem words_eq {s : ByteArray} {l : List ByteArray} (h : splitL 32 s.data.toList = l.map (·.data.toList)) : wordsS s = l := (words_of_split' h.symm).symm
theorem prs_words {s : ByteArray} (hs : s.size ≤ 4000) {x : ExprD} (h : exprO 12 (wordsS s) = some (x, [])) : prsT s = valX x := prsT_yes (by omega) h
/-- "turn ( .. )", "mirror ( .. )". -/
theorem one_text {u : List UInt8} {q : PatD} (h : GoodP q) (hu : (32 : UInt8) ∉ u) {s : ByteArray} (hs : s.data.toList = u ++ (parT q ++ [])) {n d : List Int} (hh : ∀ r, headO (txt u) r = some ((n, d, 1), r)) : exprO 12 (wordsS s) = some (.one (txt u) n d (formX q), []) := by
  have hw : wordsS s = txt u :: parW q := words_eq (by rw [hs, split_par h hu [] (.inl rfl)]; simp [txt])
  rw [hw]
  exact exprO_succ.2 ⟨n, d, 1, parW q, [formX q], hh _, partsO_succ.2 ⟨formX q, [], [], by have := paren_par h 10 []; rwa [List.append_nil] at this, rfl, rfl⟩, rfl⟩
theorem turn_text {p : PatD} (h : valP p = 0) {s : ByteArray} (hz : s.size ≤ 4000) (hs : s.data.toList = [116, 117, 114, 110] ++ (parT (lstO p) ++ [])) (hq : lst (colF (lstO p)) = lstO p) : prsT s = (turnT p, 0) := by
  have hg := lstO_good h
  rw [prs_words hz (one_text hg (by decide) hs (fun r => headO_turn rfl))]
  simp only [valX]
  rw [val_form hg hq, if_pos rfl]
  unfold oneV
  rw [if_neg (by decide), if_neg (by decide), if_pos rfl, turnT_lst h, hg.val]
theorem mir_text {p : PatD} (h : valP p = 0) {s : ByteArray} (hz : s.size ≤ 4000) (hs : s.data.toList = [109, 105, 114, 114, 111, 114] ++ (parT (lstO p) ++ [])) (hq : lst (colF (lstO p)) = lstO p) : prsT s = (mirT p, 0) := by
  have hg := lstO_good h
  rw [prs_words hz (one_text hg (by decide) hs (fun r => headO_mirror rfl))]
  simp only [valX]
  rw [val_form hg hq, if_pos rfl]
  unfold oneV
  rw [if_neg (by decide), if_neg (by decide), if_neg (by decide), if_pos rfl, mirT_lst h, hg.val]
/-- "over ( .. ) ( .. )". -/
theorem over_text {p q : PatD} (h : valP p = 0) (k : valP q = 0) {s : ByteArray} (hz : s.size ≤ 4000) (hs : s.data.toList = [111, 118, 101, 114] ++ (parT (lstO p) ++ parT (lstO q))) (hp : lst (colF (lstO p)) = lstO p) (hq : lst (colF (lstO q)) = lstO q) : prsT s = (oveT p q, oveZ p q) := by
  have hg := lstO_good h
  have hk := lstO_good k
  have e2 : splitL 32 ([40] ++ 32 :: (formT (lstO q) ++ [32, 41])) = (parW (lstO q)).map (·.data.toList) := by
    have e3 := split_par hk (u := []) (by simp) [] (.inl rfl)
    rw [List.nil_append, List.append_nil] at e3
    have e4 : splitL 32 (parT (lstO q)) = [] :: splitL 32 ([40] ++ 32 :: (formT (lstO q) ++ [32, 41])) := by
      show splitL 32 (32 :: _) = _
      simp only [splitL, if_true]
      rfl
    rw [e4] at e3
    simpa using e3
  have hw : wordsS s = txt [111, 118, 101, 114] :: (parW (lstO p) ++ parW (lstO q)) := words_eq (by
    rw [hs, split_par hg (by decide) (parT (lstO q)) (.inr ⟨_, rfl⟩)]
    simp only [List.map_cons, List.map_append]
    rw [← e2]
    rfl)
  have hx : exprO 12 (wordsS s) = some (.two (txt [111, 118, 101, 114]) [] [] (formX (lstO p)) (formX (lstO q)), []) := by
    rw [hw]
    exact exprO_succ.2 ⟨[], [], 2, parW (lstO p) ++ parW (lstO q), [formX (lstO p), formX (lstO q)], headO_over rfl, partsO_succ.2 ⟨formX (lstO p), parW (lstO q), [formX (lstO q)], paren_par hg 10 _, partsO_succ.2 ⟨formX (lstO q), [], [], by have := paren_par hk 10 []; rwa [List.append_nil] at this, rfl, rfl⟩, rfl⟩, rfl⟩
  rw [prs_words hz hx]
  simp only [valX]
  rw [val_form hg hp, val_form hk hq, if_pos rfl, if_pos rfl, (ove_lst h k).1, (ove_lst h k).2]
/-- "swell t ( .. )". -/
theorem swell_text {p : PatD} (h : valP p = 0) {t : Int} (t0 : 1 ≤ t) (t1 : t ≤ 9) {s : ByteArray} (hz : s.size ≤ 4000) (hs : s.data.toList = [115, 119, 101, 108, 108] ++ 32 :: (Lib.itoa t ++ (parT (lstO p) ++ []))) (hq : lst (colF (lstO p)) = lstO p) : prsT s = (sweT p t, sweE p t) := by
  have hg := lstO_good h
  have hw : wordsS s = txt [115, 119, 101, 108, 108] :: ⟨(Lib.itoa t).toArray⟩ :: parW (lstO p) := words_eq (by
    rw [hs, splitL_app (by decide), split_par hg (itoa_no (by omega) (by omega) 32 (by decide)) [] (.inl rfl)]
    simp [txt])
  have hn : numsO 1 (⟨(Lib.itoa t).toArray⟩ :: parW (lstO p)) = some ([t], parW (lstO p)) := by
    have vt : numV ⟨(Lib.itoa t).toArray⟩ = some t := numV_of rfl (by omega) (by omega)
    simp [numsO, vt]
  have hx : exprO 12 (wordsS s) = some (.one (txt [115, 119, 101, 108, 108]) [t] [] (formX (lstO p)), []) := by
    rw [hw]
    exact exprO_succ.2 ⟨[t], [], 1, parW (lstO p), [formX (lstO p)], by rw [headO_swell rfl, hn]; rfl, partsO_succ.2 ⟨formX (lstO p), [], [], by have := paren_par hg 10 []; rwa [List.append_nil] at this, rfl, rfl⟩, rfl⟩
  rw [prs_words hz hx]
  simp only [valX]
  rw [val_form hg hq, if_pos rfl]
  unfold oneV
  rw [if_neg (by decide), if_pos rfl]
  simp only [List.getD_cons_zero]
  rw [(swe_lst h t).1, (swe_lst h t).2]
/-- Texts tell least patterns apart. -/
theorem form_inj {p q : PatD} (h : valP p = 0) (k : valP q = 0) : formT (lstO p) = formT (lstO q) ↔ lstO p = lstO q := by
  constructor
  · intro e
    have h1 := prs_form (lstO_good h) (lst_again h)
    have h2 := prs_form (lstO_good k) (lst_again k)
    rw [e, h2] at h1
    exact (Prod.mk.inj h1).1.symm
  · intro e; rw [e]
end Go.Proofs.YtlinldbbhdpgcaaGreatDoor
