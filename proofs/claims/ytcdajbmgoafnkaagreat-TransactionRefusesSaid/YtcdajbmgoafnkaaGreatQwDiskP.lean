/- Texts of the proof, joined: DiskP. Names of our own are shortened by program; the long ones stand in wip/. -/
import Derived.Test.YtcdajbmgoafnkaaGreatQwG
namespace Go.AI
open Go
theorem Jd8 {α : Type} {l : List α} {i : Nat} {d : α} (h : i < l.length) : l.getD i d = l[i] := by simp [List.getD, h]
theorem Jcu {α : Type} {l : List α} {i : Nat} (d : α) (h : i < l.length) : l.drop i = l.getD i d :: l.drop (i + 1) := by rw [List.drop_eq_getElem_cons h, Jd8 h]
theorem J0e (i : Nat) : (i : Int) + 1 = ((i + 1 : Nat) : Int) := by omega
theorem Jie {d : DK} : Jrv d = true ↔ d.1.length ≤ 1000000 ∧ d.2.1.length ≤ 100000000 := by simp only [Jrv, decide_eq_true_eq]
theorem K41 {n : Nat} {l : List Jwi} : okP n l = true ↔ ∀ p, p ∈ l → 0 ≤ p.1 ∧ p.1 < (n : Int) := by simp [okP]
theorem Kr2 {d : DK} {a n : Int} : Kfi d a n = true ↔ 0 ≤ a ∧ 0 ≤ n ∧ a + n ≤ d.1.length := by simp only [Kfi, decide_eq_true_eq]
theorem Kla (s : List Ja7) (h : Jkk s = true) : ∃ F, ∀ {X : Type} (fail : X) (Ju3 : X → X → X) (_ : ∀ x, Ju3 x x = x) (ret : List Ja7 → X), K4h F s fail Ju3 ret = ret (Jtn s) := ⟨0, fun fail Ju3 hb ret => by
 simp only [Jkk, decide_eq_true_eq] at h
 unfold K4h Jtn
 rw [Jcg (by omega)]
 cases s with
 | nil => exact hb _
 | cons a s => rfl⟩
theorem Klb (s : List Jwi) (h : Jx6 s = true) : ∃ F, ∀ {X : Type} (fail : X) (Ju3 : X → X → X) (_ : ∀ x, Ju3 x x = x) (ret : List Jwi → X), K4i F s fail Ju3 ret = ret (J4l s) := ⟨0, fun fail Ju3 hb ret => by
 simp only [Jx6, decide_eq_true_eq] at h
 unfold K4i J4l
 rw [Jcg (by omega)]
 cases s with
 | nil => exact hb _
 | cons a s => rfl⟩
theorem Kr3 (d : DK) (a n : Int) (h : J0r d a n = true) : ∃ F, ∀ {X : Type} (fail : X) (ret : Bool → X), Qe6 F d a n fail ret = ret (Jrw d a n) := ⟨0, fun fail ret => by
 have h := Jie.1 h
 unfold Qe6 Jrw
 by_cases c1 : a ≥ 0
 ·rw [Jaa (tt c1)]
  by_cases c2 : n ≥ 0
  ·rw [Jaa (tt c2)]
   by_cases c3 : a ≤ (d.1.length : Int)
   ·rw [Jaa (tt c3), Jcf (by omega) (by omega)]
    congr 1
    unfold Kfi
    by_cases c4 : n ≤ (d.1.length : Int) - a
    ·rw [tt c4, tt (by omega)]
    ·rw [ff c4, ff (by omega)]
   ·rw [Jab (ff c3), show Kfi d a n = false from ff (by omega)]
  ·rw [Jab (ff c2), show Kfi d a n = false from ff (by omega)]
 ·rw [Jab (ff c1), show Kfi d a n = false from ff (by omega)]⟩
theorem Kzt (n : Int) (_ : K38 n = true) : ∃ F, ∀ {X : Type} (fail : X) (ret : DK → Int → X), dNew F n fail ret = ret (Jl3 n) (J6l n) := ⟨0, fun fail ret => by
 unfold dNew Jl3 J6l Qc8 newE
 by_cases c1 : n < 1
 ·rw [Jaa (tt c1), if_neg (by omega), if_neg (by omega)]; rfl
 by_cases c2 : n > 8192
 ·rw [Jab (ff c1), Jaa (tt c2), if_neg (by omega), if_neg (by omega)]; rfl
 have e : (decide ((0 : Int) ≤ n) && true && decide (n ≤ ((big : Nat) : Int))) = true := by rw [tt (by omega), tt (by unfold big; omega)]; rfl
 rw [Jab (ff c1), Jab (ff c2), Jaa e, if_pos (by omega), if_pos (by omega)]⟩
theorem Kw6 (n : Nat) (p : Jwi) (l : List Jwi) : okP n (p :: l) = (decide (0 ≤ p.1 ∧ p.1 < (n : Int)) && okP n l) := rfl
theorem J6y {X : Type} (F : Nat) (fail : X) (ex0 ex1 : List Jwi → Int → Int → Int → DK → X) (a b : X) (d : DK) (s : List Jwi) (hs : s.length ≤ 100000000) (h0 : ∀ j : Nat, ex0 s j (s.length : Nat) j d = a) (h1 : ∀ s4 j, ex1 s s4 (s.length : Nat) j d = b) : ∀ (j m i : Nat) (s4 : Int), i + j = s.length → j ≤ m →
  Jlg F fail ex0 ex1 (m + 1) s s4 (s.length : Nat) i d = if okP d.1.length (s.drop i) then b else a
 | 0, m, i, s4, hi, _ => by
  rw [Jlg, Jyj]
  rw [Jab (ff (by omega)), h1, List.drop_eq_nil_of_le (by omega)]; rfl
 | j + 1, 0, i, _, _, hm => absurd hm (by omega)
 | j + 1, m + 1, i, s4, hi, hm => by
  have ih := J6y F fail ex0 ex1 a b d s hs h0 h1 j m (i + 1) s4 (by omega) (by omega)
  rw [Jlg, Jyj]
  rw [Int.toNat_natCast, Jaa (tt (by omega)), Jaa (tt2 (by omega) (by omega)), Jcu ((0 : Int), (z16, ())) (show i < s.length by omega), Kw6]
  generalize (s.getD i ((0 : Int), (z16, ()))).1 = q
  by_cases c1 : q < 0
  ·rw [Jaa (tt c1), h0, ff (by omega)]; rfl
  by_cases c2 : q ≥ (d.1.length : Int)
  ·rw [Jab (ff c1), Jaa (tt c2), h0, ff (by omega)]; rfl
  ·rw [Jab (ff c1), Jab (ff c2), tt (by omega), Bool.true_and, Jak (by omega) (by omega)]
   exact ih
theorem K42 (d : DK) : (d.1.length < 1 ∧ Kwu d = 2) ∨ (d.1.length > 8192 ∧ Kwu d = 2) ∨ (1 ≤ d.1.length ∧ d.1.length ≤ 8192 ∧ Kwu d = if okP d.1.length d.2.1 then 0 else 2) := by
 unfold Kwu okD
 by_cases c1 : d.1.length < 1
 ·exact .inl ⟨c1, by rw [ff (by omega)]; rfl⟩
 by_cases c2 : d.1.length > 8192
 ·exact .inr (.inl ⟨c2, by rw [ff (by omega)]; rfl⟩)
 ·exact .inr (.inr ⟨by omega, by omega, by rw [tt (by omega), Bool.true_and]⟩)
theorem Klc (d : DK) (h : Jto d = true) : ∃ F, ∀ {X : Type} (fail : X) (ret : Int → X), K4j F d fail ret = ret (Jkl d) := ⟨d.2.1.length + 1, fun fail ret => by
 have h := Jie.1 h
 unfold K4j Jkl
 rcases K42 d with ⟨c, e⟩ | ⟨c, e⟩ | ⟨c1, c2, e⟩ <;> rw [e]
 ·rw [Jaa (tt (by omega))]
 ·rw [Jab (ff (by omega)), Jaa (tt (by omega))]
 ·rw [Jab (ff (by omega)), Jab (ff (by omega))]
  refine (J6y (d.2.1.length + 1) fail _ _ (ret 2) (ret 0) d d.2.1 (by omega) (fun j => ?_) (fun _ _ => rfl) d.2.1.length _ 0 0 (by omega) (by omega)).trans ?_
  ·exact Jaa (tt (by omega)) _ _
  ·rw [List.drop_zero]; split <;> rfl⟩
theorem Kgf : ∀ (l : List Jwi) (s : List Ja7), (Kwt s l).length = s.length
 | [], _ => rfl
 | p :: l, s => by
  show (Kwt (s.set p.1.toNat p.2.1) l).length = _
  rw [Kgf l, List.length_set]
theorem J04 (d : DK) : (Jxd d).length = d.1.length := Kgf _ _
theorem Qa1 (s : List Ja7) (l : List Jwi) (p : Jwi) : Kwt s (l ++ [p]) = (Kwt s l).set p.1.toNat p.2.1 := by simp [Kwt]
theorem Kw7 {X : Type} (F : Nat) (fail : X) (ex0 : List Jwi → Int → Int → List Ja7 → X) (d : DK) (hs : d.2.1.length ≤ 100000000) (ho : okP d.1.length d.2.1 = true) : ∀ (j m i : Nat), i + j = d.2.1.length → j ≤ m →
  Jhq F fail ex0 (m + 1) d.2.1 (d.2.1.length : Nat) i (Kwt d.1 (d.2.1.take i)) = ex0 d.2.1 (d.2.1.length : Nat) (d.2.1.length : Nat) (Jxd d)
 | 0, m, i, hi, _ => by
  have e : i = d.2.1.length := by omega
  subst e
  rw [Jhq, Jpu]
  rw [Jab (ff (by omega)), List.take_length]; rfl
 | j + 1, 0, i, _, hm => absurd hm (by omega)
 | j + 1, m + 1, i, hi, hm => by
  have ih := Kw7 F fail ex0 d hs ho j m (i + 1) (by omega) (by omega)
  rw [Jhq, Jpu]
  have hmem : d.2.1.getD i ((0 : Int), (z16, ())) ∈ d.2.1 := by rw [Jd8 (show i < d.2.1.length by omega)]; exact List.getElem_mem _
  obtain ⟨q1, q2⟩ := K41.1 ho _ hmem
  rw [Jdx _ i ((0 : Int), (z16, ())) (by omega), Qa1] at ih
  rw [Int.toNat_natCast, Jaa (tt (by omega)), Jaa (tt2 (by omega) (by omega)), Kgf, Jaa (tt2 (by omega) (by omega)), Jak (by omega) (by omega)]
  exact ih
theorem Kai (d : DK) (h : Jhm d = true) : ∃ F, ∀ {X : Type} (fail : X) (ret : List Ja7 → X), Kfr F d fail ret = ret (Jix d) := ⟨d.2.1.length + 1, fun fail ret => by
 simp only [Jhm, Bool.and_eq_true] at h
 have hs := Jie.1 h.1
 unfold Kfr
 rw [Jaa (c := Jkk d.1) (tt (by omega))]
 exact Kw7 (d.2.1.length + 1) fail _ d (by omega) h.2 d.2.1.length _ 0 (by omega) (by omega)⟩
theorem Jsa {d : DK} : okD d = true ↔ (1 ≤ d.1.length ∧ d.1.length ≤ 8192) ∧ okP d.1.length d.2.1 = true := by simp only [okD, Bool.and_eq_true, decide_eq_true_eq]
theorem Qdf {d : DK} (h : okD d = true) : Kwu d = 0 := by unfold Kwu; rw [h]; rfl
theorem K43 {d : DK} (h : okD d = false) : Kwu d = 2 := by unfold Kwu; rw [h]; rfl
theorem Kr4 (d : DK) (a n : Int) (h : Kfj d a n = true) : ∃ F, ∀ {X : Type} (fail : X) (ret : List Ja7 → Int → X), Qe7 F d a n fail ret = ret (Jdy d a n) (Jtp d a n) := ⟨0, fun fail ret => by
 have hs := Jie.1 h
 unfold Qe7 Jdy Jtp Qaw Kzl Jkl Jrw
 rw [Jaa (c := Jto d) h]
 cases hk : okD d with
 | false => rw [K43 hk]; rfl
 | true =>
  have hok := Jsa.1 hk
  rw [Qdf hk, Jab (Jgh rfl), Jaa (c := J0r d a n) h, Bool.true_and]
  cases hf : Kfi d a n with
  | false => rfl
  | true =>
   have hf := Kr2.1 hf
   have hc := J04 d
   rw [Jab (c := !true) rfl, Jaa (c := Jhm d) (by unfold Jhm; rw [show Jrv d = true from h, hok.2]; rfl), show Jix d = Jxd d from rfl, Jak (by omega) (by omega), Jaa (tt3 (by omega) (by omega) (by omega))]
   have hl : (List.take ((a + n).toNat - a.toNat) (List.drop a.toNat (Jxd d))).length ≤ 2000000000 := by rw [List.length_take, List.length_drop]; omega
   rw [Jaa (c := Jkk _) (tt hl)]
   have e : (a + n).toNat - a.toNat = n.toNat := by omega
   rw [e]; rfl⟩
end Go.AI
