/- Texts of the proof, joined: DiskP. -/
import Derived.Test.YtnmidfcefljafaaGreatQtG
namespace Go.AI
open Go
theorem getD_lt {α : Type} {l : List α} {i : Nat} {d : α} (h : i < l.length) : l.getD i d = l[i] := by simp [List.getD, h]
theorem drop_cons {α : Type} {l : List α} {i : Nat} (d : α) (h : i < l.length) : l.drop i = l.getD i d :: l.drop (i + 1) := by rw [List.drop_eq_getElem_cons h, getD_lt h]
theorem nat1 (i : Nat) : (i : Int) + 1 = ((i + 1 : Nat) : Int) := by omega
theorem small_iff {d : DK} : smallD d = true ↔ d.1.length ≤ 1000000 ∧ d.2.1.length ≤ 100000000 := by simp only [smallD, decide_eq_true_eq]
theorem okP_iff {n : Nat} {l : List Pend} : okP n l = true ↔ ∀ p, p ∈ l → 0 ≤ p.1 ∧ p.1 < (n : Int) := by simp [okP]
theorem fit_iff {d : DK} {a n : Int} : fitD d a n = true ↔ 0 ≤ a ∧ 0 ≤ n ∧ a + n ≤ d.1.length := by simp only [fitD, decide_eq_true_eq]
theorem clPage_plain (s : List Page) (h : clPage_P s = true) : ∃ F, ∀ {X : Type} (fail : X) (both : X → X → X) (_ : ∀ x, both x x = x) (ret : List Page → X), clPage F s fail both ret = ret (clPage_r s) := ⟨0, fun fail both hb ret => by
 simp only [clPage_P, decide_eq_true_eq] at h
 unfold clPage clPage_r
 rw [le_big (by omega)]
 cases s with
 | nil => exact hb _
 | cons a s => rfl⟩
theorem clPend_plain (s : List Pend) (h : clPend_P s = true) : ∃ F, ∀ {X : Type} (fail : X) (both : X → X → X) (_ : ∀ x, both x x = x) (ret : List Pend → X), clPend F s fail both ret = ret (clPend_r s) := ⟨0, fun fail both hb ret => by
 simp only [clPend_P, decide_eq_true_eq] at h
 unfold clPend clPend_r
 rw [le_big (by omega)]
 cases s with
 | nil => exact hb _
 | cons a s => rfl⟩
theorem dFits_plain (d : DK) (a n : Int) (h : dFits_P d a n = true) : ∃ F, ∀ {X : Type} (fail : X) (ret : Bool → X), dFits F d a n fail ret = ret (dFits_r d a n) := ⟨0, fun fail ret => by
 have h := small_iff.1 h
 unfold dFits dFits_r
 by_cases c1 : a ≥ 0
 ·rw [bif_true (tt c1)]
  by_cases c2 : n ≥ 0
  ·rw [bif_true (tt c2)]
   by_cases c3 : a ≤ (d.1.length : Int)
   ·rw [bif_true (tt c3), subI_eq (by omega) (by omega)]
    congr 1
    unfold fitD
    by_cases c4 : n ≤ (d.1.length : Int) - a
    ·rw [tt c4, tt (by omega)]
    ·rw [ff c4, ff (by omega)]
   ·rw [bif_false (ff c3), show fitD d a n = false from ff (by omega)]
  ·rw [bif_false (ff c2), show fitD d a n = false from ff (by omega)]
 ·rw [bif_false (ff c1), show fitD d a n = false from ff (by omega)]⟩
theorem dNew_plain (n : Int) (_ : dNew_P n = true) : ∃ F, ∀ {X : Type} (fail : X) (ret : DK → Int → X), dNew F n fail ret = ret (dNew_r0 n) (dNew_r1 n) := ⟨0, fun fail ret => by
 unfold dNew dNew_r0 dNew_r1 newD newE
 by_cases c1 : n < 1
 ·rw [bif_true (tt c1), if_neg (by omega), if_neg (by omega)]; rfl
 by_cases c2 : n > 8192
 ·rw [bif_false (ff c1), bif_true (tt c2), if_neg (by omega), if_neg (by omega)]; rfl
 have e : (decide ((0 : Int) ≤ n) && true && decide (n ≤ ((big : Nat) : Int))) = true := by rw [tt (by omega), tt (by unfold big; omega)]; rfl
 rw [bif_false (ff c1), bif_false (ff c2), bif_true e, if_pos (by omega), if_pos (by omega)]⟩
theorem okP_cons (n : Nat) (p : Pend) (l : List Pend) : okP n (p :: l) = (decide (0 ≤ p.1 ∧ p.1 < (n : Int)) && okP n l) := rfl
theorem dCheck_loop {X : Type} (F : Nat) (fail : X) (ex0 ex1 : List Pend → Int → Int → Int → DK → X) (a b : X) (d : DK) (s : List Pend) (hs : s.length ≤ 100000000) (h0 : ∀ j : Nat, ex0 s j (s.length : Nat) j d = a) (h1 : ∀ s4 j, ex1 s s4 (s.length : Nat) j d = b) : ∀ (j m i : Nat) (s4 : Int), i + j = s.length → j ≤ m →
  dCheck_l1F F fail ex0 ex1 (m + 1) s s4 (s.length : Nat) i d = if okP d.1.length (s.drop i) then b else a
 | 0, m, i, s4, hi, _ => by
  rw [dCheck_l1F, dCheck_l1]
  rw [bif_false (ff (by omega)), h1, List.drop_eq_nil_of_le (by omega)]; rfl
 | j + 1, 0, i, _, _, hm => absurd hm (by omega)
 | j + 1, m + 1, i, s4, hi, hm => by
  have ih := dCheck_loop F fail ex0 ex1 a b d s hs h0 h1 j m (i + 1) s4 (by omega) (by omega)
  rw [dCheck_l1F, dCheck_l1]
  rw [Int.toNat_natCast, bif_true (tt (by omega)), bif_true (tt2 (by omega) (by omega)), drop_cons ((0 : Int), (z16, ())) (show i < s.length by omega), okP_cons]
  generalize (s.getD i ((0 : Int), (z16, ()))).1 = q
  by_cases c1 : q < 0
  ·rw [bif_true (tt c1), h0, ff (by omega)]; rfl
  by_cases c2 : q ≥ (d.1.length : Int)
  ·rw [bif_false (ff c1), bif_true (tt c2), h0, ff (by omega)]; rfl
  ·rw [bif_false (ff c1), bif_false (ff c2), tt (by omega), Bool.true_and, addI_eq (by omega) (by omega)]
   exact ih
theorem chk_cases (d : DK) : (d.1.length < 1 ∧ chkD d = 2) ∨ (d.1.length > 8192 ∧ chkD d = 2) ∨ (1 ≤ d.1.length ∧ d.1.length ≤ 8192 ∧ chkD d = if okP d.1.length d.2.1 then 0 else 2) := by
 unfold chkD okD
 by_cases c1 : d.1.length < 1
 ·exact .inl ⟨c1, by rw [ff (by omega)]; rfl⟩
 by_cases c2 : d.1.length > 8192
 ·exact .inr (.inl ⟨c2, by rw [ff (by omega)]; rfl⟩)
 ·exact .inr (.inr ⟨by omega, by omega, by rw [tt (by omega), Bool.true_and]⟩)
theorem dCheck_plain (d : DK) (h : dCheck_P d = true) : ∃ F, ∀ {X : Type} (fail : X) (ret : Int → X), dCheck F d fail ret = ret (dCheck_r d) := ⟨d.2.1.length + 1, fun fail ret => by
 have h := small_iff.1 h
 unfold dCheck dCheck_r
 rcases chk_cases d with ⟨c, e⟩ | ⟨c, e⟩ | ⟨c1, c2, e⟩ <;> rw [e]
 ·rw [bif_true (tt (by omega))]
 ·rw [bif_false (ff (by omega)), bif_true (tt (by omega))]
 ·rw [bif_false (ff (by omega)), bif_false (ff (by omega))]
  refine (dCheck_loop (d.2.1.length + 1) fail _ _ (ret 2) (ret 0) d d.2.1 (by omega) (fun j => ?_) (fun _ _ => rfl) d.2.1.length _ 0 0 (by omega) (by omega)).trans ?_
  ·exact bif_true (tt (by omega)) _ _
  ·rw [List.drop_zero]; split <;> rfl⟩
theorem putS_len : ∀ (l : List Pend) (s : List Page), (putS s l).length = s.length
 | [], _ => rfl
 | p :: l, s => by
  show (putS (s.set p.1.toNat p.2.1) l).length = _
  rw [putS_len l, List.length_set]
theorem con_len (d : DK) : (conS d).length = d.1.length := putS_len _ _
theorem put_snoc (s : List Page) (l : List Pend) (p : Pend) : putS s (l ++ [p]) = (putS s l).set p.1.toNat p.2.1 := by simp [putS]
theorem con_loop {X : Type} (F : Nat) (fail : X) (ex0 : List Pend → Int → Int → List Page → X) (d : DK) (hs : d.2.1.length ≤ 100000000) (ho : okP d.1.length d.2.1 = true) : ∀ (j m i : Nat), i + j = d.2.1.length → j ≤ m →
  contents_l1F F fail ex0 (m + 1) d.2.1 (d.2.1.length : Nat) i (putS d.1 (d.2.1.take i)) = ex0 d.2.1 (d.2.1.length : Nat) (d.2.1.length : Nat) (conS d)
 | 0, m, i, hi, _ => by
  have e : i = d.2.1.length := by omega
  subst e
  rw [contents_l1F, contents_l1]
  rw [bif_false (ff (by omega)), List.take_length]; rfl
 | j + 1, 0, i, _, hm => absurd hm (by omega)
 | j + 1, m + 1, i, hi, hm => by
  have ih := con_loop F fail ex0 d hs ho j m (i + 1) (by omega) (by omega)
  rw [contents_l1F, contents_l1]
  have hmem : d.2.1.getD i ((0 : Int), (z16, ())) ∈ d.2.1 := by rw [getD_lt (show i < d.2.1.length by omega)]; exact List.getElem_mem _
  obtain ⟨q1, q2⟩ := okP_iff.1 ho _ hmem
  rw [take_snoc _ i ((0 : Int), (z16, ())) (by omega), put_snoc] at ih
  rw [Int.toNat_natCast, bif_true (tt (by omega)), bif_true (tt2 (by omega) (by omega)), putS_len, bif_true (tt2 (by omega) (by omega)), addI_eq (by omega) (by omega)]
  exact ih
theorem contents_plain (d : DK) (h : contents_P d = true) : ∃ F, ∀ {X : Type} (fail : X) (ret : List Page → X), contents F d fail ret = ret (contents_r d) := ⟨d.2.1.length + 1, fun fail ret => by
 simp only [contents_P, Bool.and_eq_true] at h
 have hs := small_iff.1 h.1
 unfold contents
 rw [bif_true (c := clPage_P d.1) (tt (by omega))]
 exact con_loop (d.2.1.length + 1) fail _ d (by omega) h.2 d.2.1.length _ 0 (by omega) (by omega)⟩
theorem okD_iff {d : DK} : okD d = true ↔ (1 ≤ d.1.length ∧ d.1.length ≤ 8192) ∧ okP d.1.length d.2.1 = true := by simp only [okD, Bool.and_eq_true, decide_eq_true_eq]
theorem chk_ok {d : DK} (h : okD d = true) : chkD d = 0 := by unfold chkD; rw [h]; rfl
theorem chk_bad {d : DK} (h : okD d = false) : chkD d = 2 := by unfold chkD; rw [h]; rfl
theorem dRead_plain (d : DK) (a n : Int) (h : dRead_P d a n = true) : ∃ F, ∀ {X : Type} (fail : X) (ret : List Page → Int → X), dRead F d a n fail ret = ret (dRead_r0 d a n) (dRead_r1 d a n) := ⟨0, fun fail ret => by
 have hs := small_iff.1 h
 unfold dRead dRead_r0 dRead_r1 readV readE dCheck_r dFits_r
 rw [bif_true (c := dCheck_P d) h]
 cases hk : okD d with
 | false => rw [chk_bad hk]; rfl
 | true =>
  have hok := okD_iff.1 hk
  rw [chk_ok hk, bif_false (bne_f rfl), bif_true (c := dFits_P d a n) h, Bool.true_and]
  cases hf : fitD d a n with
  | false => rfl
  | true =>
   have hf := fit_iff.1 hf
   have hc := con_len d
   rw [bif_false (c := !true) rfl, bif_true (c := contents_P d) (by unfold contents_P; rw [show smallD d = true from h, hok.2]; rfl), show contents_r d = conS d from rfl, addI_eq (by omega) (by omega), bif_true (tt3 (by omega) (by omega) (by omega))]
   have hl : (List.take ((a + n).toNat - a.toNat) (List.drop a.toNat (conS d))).length ≤ 2000000000 := by rw [List.length_take, List.length_drop]; omega
   rw [bif_true (c := clPage_P _) (tt hl)]
   have e : (a + n).toNat - a.toNat = n.toNat := by omega
   rw [e]; rfl⟩
end Go.AI
