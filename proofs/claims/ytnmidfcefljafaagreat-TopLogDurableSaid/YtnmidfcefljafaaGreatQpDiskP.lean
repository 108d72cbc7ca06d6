/- Texts of the proof, joined: DiskP. Names of our own are shortened by program; the long ones stand in wip/. -/
import Derived.Test.YtnmidfcefljafaaGreatQpG
namespace Go.AI
open Go
theorem Jdx {α : Type} {l : List α} {i : Nat} {d : α} (h : i < l.length) : l.getD i d = l[i] := by simp [List.getD, h]
theorem Jcx {α : Type} {l : List α} {i : Nat} (d : α) (h : i < l.length) : l.drop i = l.getD i d :: l.drop (i + 1) := by rw [List.drop_eq_getElem_cons h, Jdx h]
theorem Jte (i : Nat) : (i : Int) + 1 = ((i + 1 : Nat) : Int) := by omega
theorem Jdq {d : DK} : Jl0 d = true ↔ d.1.length ≤ 1000000 ∧ d.2.1.length ≤ 100000000 := by simp only [Jl0, decide_eq_true_eq]
theorem Kmp {n : Nat} {l : List Jlz} : okP n l = true ↔ ∀ p, p ∈ l → 0 ≤ p.1 ∧ p.1 < (n : Int) := by simp [okP]
theorem Kmq {d : DK} {a n : Int} : Kbm d a n = true ↔ 0 ≤ a ∧ 0 ≤ n ∧ a + n ≤ d.1.length := by simp only [Kbm, decide_eq_true_eq]
theorem Kgu (s : List Ja4) (h : Jho s = true) : ∃ F, ∀ {X : Type} (fail : X) (Jmm : X → X → X) (_ : ∀ x, Jmm x x = x) (ret : List Ja4 → X), Kx5 F s fail Jmm ret = ret (Jn5 s) := ⟨0, fun fail Jmm hb ret => by
 simp only [Jho, decide_eq_true_eq] at h
 unfold Kx5 Jn5
 rw [Jea (by omega)]
 cases s with
 | nil => exact hb _
 | cons a s => rfl⟩
theorem Kgv (s : List Jlz) (h : Jv6 s = true) : ∃ F, ∀ {X : Type} (fail : X) (Jmm : X → X → X) (_ : ∀ x, Jmm x x = x) (ret : List Jlz → X), Kx6 F s fail Jmm ret = ret (J1y s) := ⟨0, fun fail Jmm hb ret => by
 simp only [Jv6, decide_eq_true_eq] at h
 unfold Kx6 J1y
 rw [Jea (by omega)]
 cases s with
 | nil => exact hb _
 | cons a s => rfl⟩
theorem Kmr (s : List Int) (h : J3q s = true) : ∃ F, ∀ {X : Type} (fail : X) (Jmm : X → X → X) (_ : ∀ x, Jmm x x = x) (ret : List Int → X), K7j F s fail Jmm ret = ret (Kbo s) := ⟨0, fun fail Jmm hb ret => by
 simp only [J3q, decide_eq_true_eq] at h
 unfold K7j Kbo
 rw [Jea (by omega)]
 cases s with
 | nil => exact hb _
 | cons a s => rfl⟩
theorem Kms (d : DK) (a n : Int) (h : Jye d a n = true) : ∃ F, ∀ {X : Type} (fail : X) (ret : Bool → X), K7k F d a n fail ret = ret (Jqd d a n) := ⟨0, fun fail ret => by
 have h := Jdq.1 h
 unfold K7k Jqd
 by_cases c1 : a ≥ 0
 ·rw [Jaa (tt c1)]
  by_cases c2 : n ≥ 0
  ·rw [Jaa (tt c2)]
   by_cases c3 : a ≤ (d.1.length : Int)
   ·rw [Jaa (tt c3), Jdk (by omega) (by omega)]
    congr 1
    unfold Kbm
    by_cases c4 : n ≤ (d.1.length : Int) - a
    ·rw [tt c4, tt (by omega)]
    ·rw [ff c4, ff (by omega)]
   ·rw [Jab (ff c3), show Kbm d a n = false from ff (by omega)]
  ·rw [Jab (ff c2), show Kbm d a n = false from ff (by omega)]
 ·rw [Jab (ff c1), show Kbm d a n = false from ff (by omega)]⟩
theorem Kt0 (n : Int) (_ : Kx0 n = true) : ∃ F, ∀ {X : Type} (fail : X) (ret : DK → Int → X), dNew F n fail ret = ret (Jkz n) (J3r n) := ⟨0, fun fail ret => by
 unfold dNew Jkz J3r K5n newE
 by_cases c1 : n < 1
 ·rw [Jaa (tt c1), if_neg (by omega), if_neg (by omega)]; rfl
 by_cases c2 : n > 8192
 ·rw [Jab (ff c1), Jaa (tt c2), if_neg (by omega), if_neg (by omega)]; rfl
 have e : (decide ((0 : Int) ≤ n) && true && decide (n ≤ ((big : Nat) : Int))) = true := by rw [tt (by omega), tt (by unfold big; omega)]; rfl
 rw [Jab (ff c1), Jab (ff c2), Jaa e, if_pos (by omega), if_pos (by omega)]⟩
theorem Krb (n : Nat) (p : Jlz) (l : List Jlz) : okP n (p :: l) = (decide (0 ≤ p.1 ∧ p.1 < (n : Int)) && okP n l) := rfl
theorem J35 {X : Type} (F : Nat) (fail : X) (ex0 ex1 : List Jlz → Int → Int → Int → DK → X) (a b : X) (d : DK) (s : List Jlz) (hs : s.length ≤ 100000000) (h0 : ∀ j : Nat, ex0 s j (s.length : Nat) j d = a) (h1 : ∀ s4 j, ex1 s s4 (s.length : Nat) j d = b) : ∀ (j m i : Nat) (s4 : Int), i + j = s.length → j ≤ m →
  Jkd F fail ex0 ex1 (m + 1) s s4 (s.length : Nat) i d = if okP d.1.length (s.drop i) then b else a
 | 0, m, i, s4, hi, _ => by
  rw [Jkd, Jwe]
  rw [Jab (ff (by omega)), h1, List.drop_eq_nil_of_le (by omega)]; rfl
 | j + 1, 0, i, _, _, hm => absurd hm (by omega)
 | j + 1, m + 1, i, s4, hi, hm => by
  have ih := J35 F fail ex0 ex1 a b d s hs h0 h1 j m (i + 1) s4 (by omega) (by omega)
  rw [Jkd, Jwe]
  rw [Int.toNat_natCast, Jaa (tt (by omega)), Jaa (tt2 (by omega) (by omega)), Jcx ((0 : Int), (z16, ())) (show i < s.length by omega), Krb]
  generalize (s.getD i ((0 : Int), (z16, ()))).1 = q
  by_cases c1 : q < 0
  ·rw [Jaa (tt c1), h0, ff (by omega)]; rfl
  by_cases c2 : q ≥ (d.1.length : Int)
  ·rw [Jab (ff c1), Jaa (tt c2), h0, ff (by omega)]; rfl
  ·rw [Jab (ff c1), Jab (ff c2), tt (by omega), Bool.true_and, Jao (by omega) (by omega)]
   exact ih
theorem Kyo (d : DK) : (d.1.length < 1 ∧ Kq2 d = 2) ∨ (d.1.length > 8192 ∧ Kq2 d = 2) ∨ (1 ≤ d.1.length ∧ d.1.length ≤ 8192 ∧ Kq2 d = if okP d.1.length d.2.1 then 0 else 2) := by
 unfold Kq2 okD
 by_cases c1 : d.1.length < 1
 ·exact .inl ⟨c1, by rw [ff (by omega)]; rfl⟩
 by_cases c2 : d.1.length > 8192
 ·exact .inr (.inl ⟨c2, by rw [ff (by omega)]; rfl⟩)
 ·exact .inr (.inr ⟨by omega, by omega, by rw [tt (by omega), Bool.true_and]⟩)
theorem Kgw (d : DK) (h : Jip d = true) : ∃ F, ∀ {X : Type} (fail : X) (ret : Int → X), Kx7 F d fail ret = ret (Jes d) := ⟨d.2.1.length + 1, fun fail ret => by
 have h := Jdq.1 h
 unfold Kx7 Jes
 rcases Kyo d with ⟨c, e⟩ | ⟨c, e⟩ | ⟨c1, c2, e⟩ <;> rw [e]
 ·rw [Jaa (tt (by omega))]
 ·rw [Jab (ff (by omega)), Jaa (tt (by omega))]
 ·rw [Jab (ff (by omega)), Jab (ff (by omega))]
  refine (J35 (d.2.1.length + 1) fail _ _ (ret 2) (ret 0) d d.2.1 (by omega) (fun j => ?_) (fun _ _ => rfl) d.2.1.length _ 0 0 (by omega) (by omega)).trans ?_
  ·exact Jaa (tt (by omega)) _ _
  ·rw [List.drop_zero]; split <;> rfl⟩
theorem Kcf : ∀ (l : List Jlz) (s : List Ja4), (Kq1 s l).length = s.length
 | [], _ => rfl
 | p :: l, s => by
  show (Kq1 (s.set p.1.toNat p.2.1) l).length = _
  rw [Kcf l, List.length_set]
theorem Jyq (d : DK) : (Ju8 d).length = d.1.length := Kcf _ _
theorem K3s (s : List Ja4) (l : List Jlz) (p : Jlz) : Kq1 s (l ++ [p]) = (Kq1 s l).set p.1.toNat p.2.1 := by simp [Kq1]
theorem Krc {X : Type} (F : Nat) (fail : X) (ex0 : List Jlz → Int → Int → List Ja4 → X) (d : DK) (hs : d.2.1.length ≤ 100000000) (ho : okP d.1.length d.2.1 = true) : ∀ (j m i : Nat), i + j = d.2.1.length → j ≤ m →
  Jg7 F fail ex0 (m + 1) d.2.1 (d.2.1.length : Nat) i (Kq1 d.1 (d.2.1.take i)) = ex0 d.2.1 (d.2.1.length : Nat) (d.2.1.length : Nat) (Ju8 d)
 | 0, m, i, hi, _ => by
  have e : i = d.2.1.length := by omega
  subst e
  rw [Jg7, Joi]
  rw [Jab (ff (by omega)), List.take_length]; rfl
 | j + 1, 0, i, _, hm => absurd hm (by omega)
 | j + 1, m + 1, i, hi, hm => by
  have ih := Krc F fail ex0 d hs ho j m (i + 1) (by omega) (by omega)
  rw [Jg7, Joi]
  have hmem : d.2.1.getD i ((0 : Int), (z16, ())) ∈ d.2.1 := by rw [Jdx (show i < d.2.1.length by omega)]; exact List.getElem_mem _
  obtain ⟨q1, q2⟩ := Kmp.1 ho _ hmem
  rw [Jhm _ i ((0 : Int), (z16, ())) (by omega), K3s] at ih
  rw [Int.toNat_natCast, Jaa (tt (by omega)), Jaa (tt2 (by omega) (by omega)), Kcf, Jaa (tt2 (by omega) (by omega)), Jao (by omega) (by omega)]
  exact ih
theorem J65 (d : DK) (h : Jg3 d = true) : ∃ F, ∀ {X : Type} (fail : X) (ret : List Ja4 → X), Kbw F d fail ret = ret (Jia d) := ⟨d.2.1.length + 1, fun fail ret => by
 simp only [Jg3, Bool.and_eq_true] at h
 have hs := Jdq.1 h.1
 unfold Kbw
 rw [Jaa (c := Jho d.1) (tt (by omega))]
 exact Krc (d.2.1.length + 1) fail _ d (by omega) h.2 d.2.1.length _ 0 (by omega) (by omega)⟩
theorem Jot {d : DK} : okD d = true ↔ (1 ≤ d.1.length ∧ d.1.length ≤ 8192) ∧ okP d.1.length d.2.1 = true := by simp only [okD, Bool.and_eq_true, decide_eq_true_eq]
theorem Krd {d : DK} (h : okD d = true) : Kq2 d = 0 := by unfold Kq2; rw [h]; rfl
theorem Kcg {d : DK} (h : okD d = false) : Kq2 d = 2 := by unfold Kq2; rw [h]; rfl
theorem Kmt (d : DK) (a n : Int) (h : Kbp d a n = true) : ∃ F, ∀ {X : Type} (fail : X) (ret : List Ja4 → Int → X), K7l F d a n fail ret = ret (Jd1 d a n) (Jr2 d a n) := ⟨0, fun fail ret => by
 have hs := Jdq.1 h
 unfold K7l Jd1 Jr2 K3o Ktr Jes Jqd
 rw [Jaa (c := Jip d) h]
 cases hk : okD d with
 | false => rw [Kcg hk]; rfl
 | true =>
  have hok := Jot.1 hk
  rw [Krd hk, Jab (Jgi rfl), Jaa (c := Jye d a n) h, Bool.true_and]
  cases hf : Kbm d a n with
  | false => rfl
  | true =>
   have hf := Kmq.1 hf
   have hc := Jyq d
   rw [Jab (c := !true) rfl, Jaa (c := Jg3 d) (by unfold Jg3; rw [show Jl0 d = true from h, hok.2]; rfl), show Jia d = Ju8 d from rfl, Jao (by omega) (by omega), Jaa (tt3 (by omega) (by omega) (by omega))]
   have hl : (List.take ((a + n).toNat - a.toNat) (List.drop a.toNat (Ju8 d))).length ≤ 2000000000 := by rw [List.length_take, List.length_drop]; omega
   rw [Jaa (c := Jho _) (tt hl)]
   have e : (a + n).toNat - a.toNat = n.toNat := by omega
   rw [e]; rfl⟩
theorem K3t (c n : Int) (hn : 1 ≤ n) : c.tmod n = c % n ∨ c.tmod n = c % n - n := by
 have : (n.natAbs : Int) = n := by omega
 rw [Int.tmod_eq_emod]
 split
 ·left; simp
 ·right; rw [this]
theorem Kch (ch : List Int) (n : Int) (h : Jqe ch n = true) : ∃ F, ∀ {X : Type} (fail : X) (ret : Int → List Int → X), Kl8 F ch n fail ret = ret (Jic ch n) (Jmu ch n) := ⟨0, fun fail ret => by
 simp only [Jqe, decide_eq_true_eq] at h
 unfold Kl8 Jic Jmu K9e
 cases ch with
 | nil => rfl
 | cons c r =>
  have hn : (n.toNat : Int) = n := by omega
  have e0 : (((c :: r).length : Nat) : Int) = (r.length : Int) + 1 := by simp
  have e1 : (c :: r).getD 0 (0 : Int) = c := rfl
  have ht : Jcz c n = c.tmod n := rfl
  have hb1 := Int.lt_tmod_of_pos c (show (0 : Int) < n by omega)
  have hb2 := Int.tmod_lt_of_pos c (show (0 : Int) < n by omega)
  have hem := K3t c n h.1
  rw [Jab (Jmt (by omega)), Jaa (tt (by omega)), Jaa (Jh9 (by omega)), e1, ht]
  simp only [hn]
  have hpos := Int.emod_nonneg c (show n ≠ 0 by omega)
  have hlt := Int.emod_lt_of_pos c (show (0 : Int) < n by omega)
  by_cases c1 : c.tmod n < 0
  ·rw [Jaa (tt c1), Jaa (tt (by omega)), Jao (by omega) (by omega)]
   have : c.tmod n + n = c % n := by omega
   rw [this]; rfl
  ·rw [Jab (ff c1), Jaa (tt (by omega))]
   have : c.tmod n = c % n := by omega
   rw [this]; rfl⟩
end Go.AI
