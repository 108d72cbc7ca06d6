/- Texts of the proof, joined: DiskP. Names of our own are shortened by program; the long ones stand in wip/. -/
import Derived.Test.YtnmidfcefljafaaGreatQsG
namespace Go.AI
open Go
theorem Jem {α : Type} {l : List α} {i : Nat} {d : α} (h : i < l.length) : l.getD i d = l[i] := by simp [List.getD, h]
theorem Jcz {α : Type} {l : List α} {i : Nat} (d : α) (h : i < l.length) : l.drop i = l.getD i d :: l.drop (i + 1) := by rw [List.drop_eq_getElem_cons h, Jem h]
theorem Jwc (i : Nat) : (i : Int) + 1 = ((i + 1 : Nat) : Int) := by omega
theorem Jen {d : DK} : Jlr d = true ↔ d.1.length ≤ 1000000 ∧ d.2.1.length ≤ 100000000 := by simp only [Jlr, decide_eq_true_eq]
theorem Kld {n : Nat} {l : List Jlq} : okP n l = true ↔ ∀ p, p ∈ l → 0 ≤ p.1 ∧ p.1 < (n : Int) := by simp [okP]
theorem Kle {d : DK} {a n : Int} : Kac d a n = true ↔ 0 ≤ a ∧ 0 ≤ n ∧ a + n ≤ d.1.length := by simp only [Kac, decide_eq_true_eq]
theorem Kfp (s : List Ja4) (h : Jho s = true) : ∃ F, ∀ {X : Type} (fail : X) (Jmd : X → X → X) (_ : ∀ x, Jmd x x = x) (ret : List Ja4 → X), Kv9 F s fail Jmd ret = ret (Jns s) := ⟨0, fun fail Jmd hb ret => by
 simp only [Jho, decide_eq_true_eq] at h
 unfold Kv9 Jns
 rw [Jds (by omega)]
 cases s with
 | nil => exact hb _
 | cons a s => rfl⟩
theorem Kfq (s : List Jlq) (h : Jvq s = true) : ∃ F, ∀ {X : Type} (fail : X) (Jmd : X → X → X) (_ : ∀ x, Jmd x x = x) (ret : List Jlq → X), Kwa F s fail Jmd ret = ret (J06 s) := ⟨0, fun fail Jmd hb ret => by
 simp only [Jvq, decide_eq_true_eq] at h
 unfold Kwa J06
 rw [Jds (by omega)]
 cases s with
 | nil => exact hb _
 | cons a s => rfl⟩
theorem Klf (s : List Int) (h : J2t s = true) : ∃ F, ∀ {X : Type} (fail : X) (Jmd : X → X → X) (_ : ∀ x, Jmd x x = x) (ret : List Int → X), K5l F s fail Jmd ret = ret (Kae s) := ⟨0, fun fail Jmd hb ret => by
 simp only [J2t, decide_eq_true_eq] at h
 unfold K5l Kae
 rw [Jds (by omega)]
 cases s with
 | nil => exact hb _
 | cons a s => rfl⟩
theorem Klg (d : DK) (a n : Int) (h : Jxy d a n = true) : ∃ F, ∀ {X : Type} (fail : X) (ret : Bool → X), K5m F d a n fail ret = ret (Jp0 d a n) := ⟨0, fun fail ret => by
 have h := Jen.1 h
 unfold K5m Jp0
 by_cases c1 : a ≥ 0
 ·rw [Jaa (tt c1)]
  by_cases c2 : n ≥ 0
  ·rw [Jaa (tt c2)]
   by_cases c3 : a ≤ (d.1.length : Int)
   ·rw [Jaa (tt c3), Jde (by omega) (by omega)]
    congr 1
    unfold Kac
    by_cases c4 : n ≤ (d.1.length : Int) - a
    ·rw [tt c4, tt (by omega)]
    ·rw [ff c4, ff (by omega)]
   ·rw [Jab (ff c3), show Kac d a n = false from ff (by omega)]
  ·rw [Jab (ff c2), show Kac d a n = false from ff (by omega)]
 ·rw [Jab (ff c1), show Kac d a n = false from ff (by omega)]⟩
theorem Kr4 (n : Int) (_ : Kv5 n = true) : ∃ F, ∀ {X : Type} (fail : X) (ret : DK → Int → X), dNew F n fail ret = ret (Jkq n) (J2u n) := ⟨0, fun fail ret => by
 unfold dNew Jkq J2u K3o newE
 by_cases c1 : n < 1
 ·rw [Jaa (tt c1), if_neg (by omega), if_neg (by omega)]; rfl
 by_cases c2 : n > 8192
 ·rw [Jab (ff c1), Jaa (tt c2), if_neg (by omega), if_neg (by omega)]; rfl
 have e : (decide ((0 : Int) ≤ n) && true && decide (n ≤ ((big : Nat) : Int))) = true := by rw [tt (by omega), tt (by unfold big; omega)]; rfl
 rw [Jab (ff c1), Jab (ff c2), Jaa e, if_pos (by omega), if_pos (by omega)]⟩
theorem Kpn (n : Nat) (p : Jlq) (l : List Jlq) : okP n (p :: l) = (decide (0 ≤ p.1 ∧ p.1 < (n : Int)) && okP n l) := rfl
theorem J24 {X : Type} (F : Nat) (fail : X) (ex0 ex1 : List Jlq → Int → Int → Int → DK → X) (a b : X) (d : DK) (s : List Jlq) (hs : s.length ≤ 100000000) (h0 : ∀ j : Nat, ex0 s j (s.length : Nat) j d = a) (h1 : ∀ s4 j, ex1 s s4 (s.length : Nat) j d = b) : ∀ (j m i : Nat) (s4 : Int), i + j = s.length → j ≤ m →
  Jj4 F fail ex0 ex1 (m + 1) s s4 (s.length : Nat) i d = if okP d.1.length (s.drop i) then b else a
 | 0, m, i, s4, hi, _ => by
  rw [Jj4, Jv1]
  rw [Jab (ff (by omega)), h1, List.drop_eq_nil_of_le (by omega)]; rfl
 | j + 1, 0, i, _, _, hm => absurd hm (by omega)
 | j + 1, m + 1, i, s4, hi, hm => by
  have ih := J24 F fail ex0 ex1 a b d s hs h0 h1 j m (i + 1) s4 (by omega) (by omega)
  rw [Jj4, Jv1]
  rw [Int.toNat_natCast, Jaa (tt (by omega)), Jaa (tt2 (by omega) (by omega)), Jcz ((0 : Int), (z16, ())) (show i < s.length by omega), Kpn]
  generalize (s.getD i ((0 : Int), (z16, ()))).1 = q
  by_cases c1 : q < 0
  ·rw [Jaa (tt c1), h0, ff (by omega)]; rfl
  by_cases c2 : q ≥ (d.1.length : Int)
  ·rw [Jab (ff c1), Jaa (tt c2), h0, ff (by omega)]; rfl
  ·rw [Jab (ff c1), Jab (ff c2), tt (by omega), Bool.true_and, Jar (by omega) (by omega)]
   exact ih
theorem Kwp (d : DK) : (d.1.length < 1 ∧ Kpe d = 2) ∨ (d.1.length > 8192 ∧ Kpe d = 2) ∨ (1 ≤ d.1.length ∧ d.1.length ≤ 8192 ∧ Kpe d = if okP d.1.length d.2.1 then 0 else 2) := by
 unfold Kpe okD
 by_cases c1 : d.1.length < 1
 ·exact .inl ⟨c1, by rw [ff (by omega)]; rfl⟩
 by_cases c2 : d.1.length > 8192
 ·exact .inr (.inl ⟨c2, by rw [ff (by omega)]; rfl⟩)
 ·exact .inr (.inr ⟨by omega, by omega, by rw [tt (by omega), Bool.true_and]⟩)
theorem Kfr (d : DK) (h : Jil d = true) : ∃ F, ∀ {X : Type} (fail : X) (ret : Int → X), Kwb F d fail ret = ret (Jes d) := ⟨d.2.1.length + 1, fun fail ret => by
 have h := Jen.1 h
 unfold Kwb Jes
 rcases Kwp d with ⟨c, e⟩ | ⟨c, e⟩ | ⟨c1, c2, e⟩ <;> rw [e]
 ·rw [Jaa (tt (by omega))]
 ·rw [Jab (ff (by omega)), Jaa (tt (by omega))]
 ·rw [Jab (ff (by omega)), Jab (ff (by omega))]
  refine (J24 (d.2.1.length + 1) fail _ _ (ret 2) (ret 0) d d.2.1 (by omega) (fun j => ?_) (fun _ _ => rfl) d.2.1.length _ 0 0 (by omega) (by omega)).trans ?_
  ·exact Jaa (tt (by omega)) _ _
  ·rw [List.drop_zero]; split <;> rfl⟩
theorem Ka5 : ∀ (l : List Jlq) (s : List Ja4), (Kpd s l).length = s.length
 | [], _ => rfl
 | p :: l, s => by
  show (Kpd (s.set p.1.toNat p.2.1) l).length = _
  rw [Ka5 l, List.length_set]
theorem Jyc (d : DK) : (Jut d).length = d.1.length := Ka5 _ _
theorem K1r (s : List Ja4) (l : List Jlq) (p : Jlq) : Kpd s (l ++ [p]) = (Kpd s l).set p.1.toNat p.2.1 := by simp [Kpd]
theorem Kpo {X : Type} (F : Nat) (fail : X) (ex0 : List Jlq → Int → Int → List Ja4 → X) (d : DK) (hs : d.2.1.length ≤ 100000000) (ho : okP d.1.length d.2.1 = true) : ∀ (j m i : Nat), i + j = d.2.1.length → j ≤ m →
  Jg4 F fail ex0 (m + 1) d.2.1 (d.2.1.length : Nat) i (Kpd d.1 (d.2.1.take i)) = ex0 d.2.1 (d.2.1.length : Nat) (d.2.1.length : Nat) (Jut d)
 | 0, m, i, hi, _ => by
  have e : i = d.2.1.length := by omega
  subst e
  rw [Jg4, Jn1]
  rw [Jab (ff (by omega)), List.take_length]; rfl
 | j + 1, 0, i, _, hm => absurd hm (by omega)
 | j + 1, m + 1, i, hi, hm => by
  have ih := Kpo F fail ex0 d hs ho j m (i + 1) (by omega) (by omega)
  rw [Jg4, Jn1]
  have hmem : d.2.1.getD i ((0 : Int), (z16, ())) ∈ d.2.1 := by rw [Jem (show i < d.2.1.length by omega)]; exact List.getElem_mem _
  obtain ⟨q1, q2⟩ := Kld.1 ho _ hmem
  rw [Jhm _ i ((0 : Int), (z16, ())) (by omega), K1r] at ih
  rw [Int.toNat_natCast, Jaa (tt (by omega)), Jaa (tt2 (by omega) (by omega)), Ka5, Jaa (tt2 (by omega) (by omega)), Jar (by omega) (by omega)]
  exact ih
theorem J5z (d : DK) (h : Jg1 d = true) : ∃ F, ∀ {X : Type} (fail : X) (ret : List Ja4 → X), Kal F d fail ret = ret (Jh7 d) := ⟨d.2.1.length + 1, fun fail ret => by
 simp only [Jg1, Bool.and_eq_true] at h
 have hs := Jen.1 h.1
 unfold Kal
 rw [Jaa (c := Jho d.1) (tt (by omega))]
 exact Kpo (d.2.1.length + 1) fail _ d (by omega) h.2 d.2.1.length _ 0 (by omega) (by omega)⟩
theorem Jod {d : DK} : okD d = true ↔ (1 ≤ d.1.length ∧ d.1.length ≤ 8192) ∧ okP d.1.length d.2.1 = true := by simp only [okD, Bool.and_eq_true, decide_eq_true_eq]
theorem Kpp {d : DK} (h : okD d = true) : Kpe d = 0 := by unfold Kpe; rw [h]; rfl
theorem Ka6 {d : DK} (h : okD d = false) : Kpe d = 2 := by unfold Kpe; rw [h]; rfl
theorem Klh (d : DK) (a n : Int) (h : Kaf d a n = true) : ∃ F, ∀ {X : Type} (fail : X) (ret : List Ja4 → Int → X), K5n F d a n fail ret = ret (Jdx d a n) (Jro d a n) := ⟨0, fun fail ret => by
 have hs := Jen.1 h
 unfold K5n Jdx Jro K1n Krx Jes Jp0
 rw [Jaa (c := Jil d) h]
 cases hk : okD d with
 | false => rw [Ka6 hk]; rfl
 | true =>
  have hok := Jod.1 hk
  rw [Kpp hk, Jab (Jhl rfl), Jaa (c := Jxy d a n) h, Bool.true_and]
  cases hf : Kac d a n with
  | false => rfl
  | true =>
   have hf := Kle.1 hf
   have hc := Jyc d
   rw [Jab (c := !true) rfl, Jaa (c := Jg1 d) (by unfold Jg1; rw [show Jlr d = true from h, hok.2]; rfl), show Jh7 d = Jut d from rfl, Jar (by omega) (by omega), Jaa (tt3 (by omega) (by omega) (by omega))]
   have hl : (List.take ((a + n).toNat - a.toNat) (List.drop a.toNat (Jut d))).length ≤ 2000000000 := by rw [List.length_take, List.length_drop]; omega
   rw [Jaa (c := Jho _) (tt hl)]
   have e : (a + n).toNat - a.toNat = n.toNat := by omega
   rw [e]; rfl⟩
theorem K1s (c n : Int) (hn : 1 ≤ n) : c.tmod n = c % n ∨ c.tmod n = c % n - n := by
 have : (n.natAbs : Int) = n := by omega
 rw [Int.tmod_eq_emod]
 split
 ·left; simp
 ·right; rw [this]
theorem Ka7 (ch : List Int) (n : Int) (h : Jp1 ch n = true) : ∃ F, ∀ {X : Type} (fail : X) (ret : Int → List Int → X), Kky F ch n fail ret = ret (Jh9 ch n) (Jmk ch n) := ⟨0, fun fail ret => by
 simp only [Jp1, decide_eq_true_eq] at h
 unfold Kky Jh9 Jmk K7e
 cases ch with
 | nil => rfl
 | cons c r =>
  have hn : (n.toNat : Int) = n := by omega
  have e0 : (((c :: r).length : Nat) : Int) = (r.length : Int) + 1 := by simp
  have e1 : (c :: r).getD 0 (0 : Int) = c := rfl
  have ht : Jhk c n = c.tmod n := rfl
  have hb1 := Int.lt_tmod_of_pos c (show (0 : Int) < n by omega)
  have hb2 := Int.tmod_lt_of_pos c (show (0 : Int) < n by omega)
  have hem := K1s c n h.1
  rw [Jab (Jpi (by omega)), Jaa (tt (by omega)), Jaa (Jkp (by omega)), e1, ht]
  simp only [hn]
  have hpos := Int.emod_nonneg c (show n ≠ 0 by omega)
  have hlt := Int.emod_lt_of_pos c (show (0 : Int) < n by omega)
  by_cases c1 : c.tmod n < 0
  ·rw [Jaa (tt c1), Jaa (tt (by omega)), Jar (by omega) (by omega)]
   have : c.tmod n + n = c % n := by omega
   rw [this]; rfl
  ·rw [Jab (ff c1), Jaa (tt (by omega))]
   have : c.tmod n = c % n := by omega
   rw [this]; rfl⟩
end Go.AI
