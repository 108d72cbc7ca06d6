/- Texts of the proof, joined: DiskP. Names of our own are shortened by program; the long ones stand in wip/. -/
import Derived.Test.YtcdajbmgoafnkaaGreatQrG
namespace Go.AI
open Go
theorem Jsh {α : Type} {l : List α} {i : Nat} {d : α} (h : i < l.length) : l.getD i d = l[i] := by simp [List.getD, h]
theorem Jdj {α : Type} {l : List α} {i : Nat} (d : α) (h : i < l.length) : l.drop i = l.getD i d :: l.drop (i + 1) := by rw [List.drop_eq_getElem_cons h, Jsh h]
theorem J2d (i : Nat) : (i : Int) + 1 = ((i + 1 : Nat) : Int) := by omega
theorem Jgb {d : DK} : Jng d = true ↔ d.1.length ≤ 1000000 ∧ d.2.1.length ≤ 100000000 := by simp only [Jng, decide_eq_true_eq]
theorem Qcg {n : Nat} {l : List Kx8} : okP n l = true ↔ ∀ p, p ∈ l → 0 ≤ p.1 ∧ p.1 < (n : Int) := by simp [okP]
theorem Qch {d : DK} {a n : Int} : Kq2 d a n = true ↔ 0 ≤ a ∧ 0 ≤ n ∧ a + n ≤ d.1.length := by simp only [Kq2, decide_eq_true_eq]
theorem Krd (s : List Jbw) (h : Jrq s = true) : ∃ F, ∀ {X : Type} (fail : X) (J67 : X → X → X) (_ : ∀ x, J67 x x = x) (ret : List Jbw → X), Qbw F s fail J67 ret = ret (J08 s) := ⟨0, fun fail J67 hb ret => by
 simp only [Jrq, decide_eq_true_eq] at h
 unfold Qbw J08
 rw [Jch (by omega)]
 cases s with
 | nil => exact hb _
 | cons a s => rfl⟩
theorem Ky0 (d : DK) (a n : Int) (h : Klh d a n = true) : ∃ F, ∀ {X : Type} (fail : X) (ret : Bool → X), Qlz F d a n fail ret = ret (Kav d a n) := ⟨0, fun fail ret => by
 have h := Jgb.1 h
 unfold Qlz Kav
 by_cases c1 : a ≥ 0
 ·rw [Jaa (tt c1)]
  by_cases c2 : n ≥ 0
  ·rw [Jaa (tt c2)]
   by_cases c3 : a ≤ (d.1.length : Int)
   ·rw [Jaa (tt c3), Jca (by omega) (by omega)]
    congr 1
    unfold Kq2
    by_cases c4 : n ≤ (d.1.length : Int) - a
    ·rw [tt c4, tt (by omega)]
    ·rw [ff c4, ff (by omega)]
   ·rw [Jab (ff c3), show Kq2 d a n = false from ff (by omega)]
  ·rw [Jab (ff c2), show Kq2 d a n = false from ff (by omega)]
 ·rw [Jab (ff c1), show Kq2 d a n = false from ff (by omega)]⟩
theorem Ky1 (d : DK) (a n : Int) (h : Klj d a n = true) : ∃ F, ∀ {X : Type} (fail : X) (ret : Bool → X), Ql2 F d a n fail ret = ret (Kaw d a n) := ⟨0, fun fail ret => by
 have h := Jgb.1 h
 unfold Ql2 Kaw
 by_cases c1 : a ≥ 0
 ·rw [Jaa (tt c1)]
  by_cases c2 : n ≥ 0
  ·rw [Jaa (tt c2)]
   by_cases c3 : n ≤ (d.1.length : Int)
   ·rw [Jaa (tt c3), Jca (by omega) (by omega)]
    congr 1
    unfold Kq2
    by_cases c4 : a ≤ (d.1.length : Int) - n
    ·rw [tt c4, tt (by omega)]
    ·rw [ff c4, ff (by omega)]
   ·rw [Jab (ff c3), show Kq2 d a n = false from ff (by omega)]
  ·rw [Jab (ff c2), show Kq2 d a n = false from ff (by omega)]
 ·rw [Jab (ff c1), show Kq2 d a n = false from ff (by omega)]⟩
theorem K38 (n : Nat) (p : Kx8) (l : List Kx8) : okP n (p :: l) = (decide (0 ≤ p.1 ∧ p.1 < (n : Int)) && okP n l) := rfl
theorem Kbc {X : Type} (F : Nat) (fail : X) (ex0 ex1 : List Kx8 → Int → Int → Int → DK → X) (a b : X) (d : DK) (s : List Kx8) (hs : s.length ≤ 100000000) (h0 : ∀ j : Nat, ex0 s j (s.length : Nat) j d = a) (h1 : ∀ s4 j, ex1 s s4 (s.length : Nat) j d = b) : ∀ (j m i : Nat) (s4 : Int), i + j = s.length → j ≤ m →
  Jmr F fail ex0 ex1 (m + 1) s s4 (s.length : Nat) i d = if okP d.1.length (s.drop i) then b else a
 | 0, m, i, s4, hi, _ => by
  rw [Jmr, J1u]
  rw [Jab (ff (by omega)), h1, List.drop_eq_nil_of_le (by omega)]; rfl
 | j + 1, 0, i, _, _, hm => absurd hm (by omega)
 | j + 1, m + 1, i, s4, hi, hm => by
  have ih := Kbc F fail ex0 ex1 a b d s hs h0 h1 j m (i + 1) s4 (by omega) (by omega)
  rw [Jmr, J1u]
  rw [Int.toNat_natCast, Jaa (tt (by omega)), Jaa (tt2 (by omega) (by omega)), Jdj ((0 : Int), (z16, ())) (show i < s.length by omega), K38]
  generalize (s.getD i ((0 : Int), (z16, ()))).1 = q
  by_cases c1 : q < 0
  ·rw [Jaa (tt c1), h0, ff (by omega)]; rfl
  by_cases c2 : q ≥ (d.1.length : Int)
  ·rw [Jab (ff c1), Jaa (tt c2), h0, ff (by omega)]; rfl
  ·rw [Jab (ff c1), Jab (ff c2), tt (by omega), Bool.true_and, Jai (by omega) (by omega)]
   exact ih
theorem Kre (d : DK) : (d.1.length < 1 ∧ Kq1 d = 2) ∨ (d.1.length > 8192 ∧ Kq1 d = 2) ∨ (1 ≤ d.1.length ∧ d.1.length ≤ 8192 ∧ Kq1 d = if okP d.1.length d.2.1 then 0 else 2) := by
 unfold Kq1 okD
 by_cases c1 : d.1.length < 1
 ·exact .inl ⟨c1, by rw [ff (by omega)]; rfl⟩
 by_cases c2 : d.1.length > 8192
 ·exact .inr (.inl ⟨c2, by rw [ff (by omega)]; rfl⟩)
 ·exact .inr (.inr ⟨by omega, by omega, by rw [tt (by omega), Bool.true_and]⟩)
theorem Krf (d : DK) (h : J8q d = true) : ∃ F, ∀ {X : Type} (fail : X) (ret : Int → X), Qbx F d fail ret = ret (Jwe d) := ⟨d.2.1.length + 1, fun fail ret => by
 have h := Jgb.1 h
 unfold Qbx Jwe
 rcases Kre d with ⟨c, e⟩ | ⟨c, e⟩ | ⟨c1, c2, e⟩ <;> rw [e]
 ·rw [Jaa (tt (by omega))]
 ·rw [Jab (ff (by omega)), Jaa (tt (by omega))]
 ·rw [Jab (ff (by omega)), Jab (ff (by omega))]
  refine (Kbc (d.2.1.length + 1) fail _ _ (ret 2) (ret 0) d d.2.1 (by omega) (fun j => ?_) (fun _ _ => rfl) d.2.1.length _ 0 0 (by omega) (by omega)).trans ?_
  ·exact Jaa (tt (by omega)) _ _
  ·rw [List.drop_zero]; split <;> rfl⟩
theorem Kbd {X : Type} (F : Nat) (fail : X) (ex0 ex1 : Int → Int → DK → X) (a b : X) (d : DK) (hs : d.2.1.length ≤ 100000000) (h0 : ∀ j : Nat, ex0 2 j d = a) (h1 : ∀ s4 j, ex1 s4 j d = b) : ∀ (j m i : Nat) (s4 : Int), i + j = d.2.1.length → j ≤ m →
  Jms F fail ex0 ex1 (m + 1) s4 i d = if okP d.1.length (d.2.1.drop i) then b else a
 | 0, m, i, s4, hi, _ => by
  rw [Jms, J1v]
  rw [Jab (ff (by omega)), h1, List.drop_eq_nil_of_le (by omega)]; rfl
 | j + 1, 0, i, _, _, hm => absurd hm (by omega)
 | j + 1, m + 1, i, s4, hi, hm => by
  have ih := Kbd F fail ex0 ex1 a b d hs h0 h1 j m (i + 1) s4 (by omega) (by omega)
  rw [Jms, J1v]
  rw [Int.toNat_natCast, Jaa (tt (by omega)), Jaa (tt2 (by omega) (by omega)), Jaa (tt2 (by omega) (by omega)), Jdj ((0 : Int), (z16, ())) (show i < d.2.1.length by omega), K38]
  generalize (d.2.1.getD i ((0 : Int), (z16, ()))).1 = q
  by_cases c1 : q < 0
  ·rw [Jaa (tt c1), h0, ff (by omega)]; rfl
  by_cases c2 : q ≥ (d.1.length : Int)
  ·rw [Jab (ff c1), Jaa (tt c2), h0, ff (by omega)]; rfl
  ·rw [Jab (ff c1), Jab (ff c2), tt (by omega), Bool.true_and, Jai (by omega) (by omega)]
   exact ih
theorem Krg (d : DK) (h : Jwg d = true) : ∃ F, ∀ {X : Type} (fail : X) (ret : Int → X), Qby F d fail ret = ret (Joy d) := ⟨d.2.1.length + 1, fun fail ret => by
 have h := Jgb.1 h
 unfold Qby Joy
 rcases Kre d with ⟨c, e⟩ | ⟨c, e⟩ | ⟨c1, c2, e⟩ <;> rw [e]
 ·rw [Jaa (tt (by omega))]
 ·rw [Jab (ff (by omega)), Jaa (tt (by omega))]
 ·rw [Jab (ff (by omega)), Jab (ff (by omega))]
  refine (Kbd (d.2.1.length + 1) fail _ _ (ret 2) (ret 0) d (by omega) (fun _ => rfl) (fun _ _ => rfl) d.2.1.length _ 0 0 (by omega) (by omega)).trans ?_
  rw [List.drop_zero]; split <;> rfl⟩
theorem J9b : ∀ (l : List Kx8) (s : List Jbw), (Qib s l).length = s.length
 | [], _ => rfl
 | p :: l, s => by
  show (Qib (s.set p.1.toNat p.2.1) l).length = _
  rw [J9b l, List.length_set]
theorem Jzq (d : DK) : (Jq9 d).length = d.1.length := J9b _ _
theorem K39 (s : List Jbw) (l : List Kx8) (p : Kx8) : Qib s (l ++ [p]) = (Qib s l).set p.1.toNat p.2.1 := by simp [Qib]
theorem K4a {X : Type} (F : Nat) (fail : X) (ex0 : List Kx8 → Int → Int → List Jbw → X) (d : DK) (hs : d.2.1.length ≤ 100000000) (ho : okP d.1.length d.2.1 = true) : ∀ (j m i : Nat), i + j = d.2.1.length → j ≤ m →
  Ji6 F fail ex0 (m + 1) d.2.1 (d.2.1.length : Nat) i (Qib d.1 (d.2.1.take i)) = ex0 d.2.1 (d.2.1.length : Nat) (d.2.1.length : Nat) (Jq9 d)
 | 0, m, i, hi, _ => by
  have e : i = d.2.1.length := by omega
  subst e
  rw [Ji6, Jr2]
  rw [Jab (ff (by omega)), List.take_length]; rfl
 | j + 1, 0, i, _, hm => absurd hm (by omega)
 | j + 1, m + 1, i, hi, hm => by
  have ih := K4a F fail ex0 d hs ho j m (i + 1) (by omega) (by omega)
  rw [Ji6, Jr2]
  have hmem : d.2.1.getD i ((0 : Int), (z16, ())) ∈ d.2.1 := by rw [Jsh (show i < d.2.1.length by omega)]; exact List.getElem_mem _
  obtain ⟨q1, q2⟩ := Qcg.1 ho _ hmem
  rw [Jd9 _ i ((0 : Int), (z16, ())) (by omega), K39] at ih
  rw [Int.toNat_natCast, Jaa (tt (by omega)), Jaa (tt2 (by omega) (by omega)), J9b, Jaa (tt2 (by omega) (by omega)), Jai (by omega) (by omega)]
  exact ih
theorem Kfe (d : DK) (h : Jmo d = true) : ∃ F, ∀ {X : Type} (fail : X) (ret : List Jbw → X), Klw F d fail ret = ret (Jmp d) := ⟨d.2.1.length + 1, fun fail ret => by
 simp only [Jmo, Bool.and_eq_true] at h
 have hs := Jgb.1 h.1
 unfold Klw
 rw [Jaa (c := Jrq d.1) (tt (by omega))]
 exact K4a (d.2.1.length + 1) fail _ d (by omega) h.2 d.2.1.length _ 0 (by omega) (by omega)⟩
theorem Krh {X : Type} (F : Nat) (fail : X) (ex0 : Int → DK → DK → List Jbw → List Kx8 → X) (d s2 : DK) (h4 : List Kx8) (hs : d.2.1.length ≤ 100000000) (ho : okP d.1.length d.2.1 = true) : ∀ (j m i : Nat), i + j = d.2.1.length → j ≤ m →
  Jqi F fail ex0 (m + 1) i d s2 (Qib d.1 (d.2.1.take i)) h4 = ex0 (d.2.1.length : Nat) d s2 (Jq9 d) h4
 | 0, m, i, hi, _ => by
  have e : i = d.2.1.length := by omega
  subst e
  rw [Jqi, J81]
  rw [Jab (ff (by omega)), List.take_length]; rfl
 | j + 1, 0, i, _, hm => absurd hm (by omega)
 | j + 1, m + 1, i, hi, hm => by
  have ih := Krh F fail ex0 d s2 h4 hs ho j m (i + 1) (by omega) (by omega)
  rw [Jqi, J81]
  have hmem : d.2.1.getD i ((0 : Int), (z16, ())) ∈ d.2.1 := by rw [Jsh (show i < d.2.1.length by omega)]; exact List.getElem_mem _
  obtain ⟨q1, q2⟩ := Qcg.1 ho _ hmem
  rw [Jd9 _ i ((0 : Int), (z16, ())) (by omega), K39] at ih
  rw [Int.toNat_natCast, Jaa (tt (by omega)), Jaa (tt2 (by omega) (by omega)), Jaa (tt2 (by omega) (by omega)), J9b, Jaa (tt2 (by omega) (by omega)), Jai (by omega) (by omega)]
  exact ih
theorem Ky2 (d : DK) (h : J36 d = true) : ∃ F, ∀ {X : Type} (fail : X) (ret : DK → X), Ql1 F d fail ret = ret (J37 d) := ⟨d.2.1.length + 1, fun fail ret => by
 simp only [J36, Bool.and_eq_true] at h
 have hs := Jgb.1 h.1
 unfold Ql1
 rw [Jaa (Jch (by omega)), Jaa (Jch (by omega))]
 exact Krh (d.2.1.length + 1) fail _ d _ _ (by omega) h.2 d.2.1.length _ 0 (by omega) (by omega)⟩
theorem Qci {d : DK} : okD d = true ↔ (1 ≤ d.1.length ∧ d.1.length ≤ 8192) ∧ okP d.1.length d.2.1 = true := by simp only [okD, Bool.and_eq_true, decide_eq_true_eq]
theorem Qki {d : DK} (h : okD d = true) : Kq1 d = 0 := by unfold Kq1; rw [h]; rfl
theorem Qcj {d : DK} (h : okD d = false) : Kq1 d = 2 := by unfold Kq1; rw [h]; rfl
theorem Ky3 (d : DK) (a n : Int) (h : Kli d a n = true) : ∃ F, ∀ {X : Type} (fail : X) (ret : List Jbw → Int → X), Ql0 F d a n fail ret = ret (Jep d a n) (Jwf d a n) := ⟨0, fun fail ret => by
 have hs := Jgb.1 h
 unfold Ql0 Jep Jwf K6v Kq3 Jwe Kav
 rw [Jaa (c := J8q d) h]
 cases hk : okD d with
 | false => rw [Qcj hk]; rfl
 | true =>
  have hok := Qci.1 hk
  rw [Qki hk, Jab (Jgm rfl), Jaa (c := Klh d a n) h, Bool.true_and]
  cases hf : Kq2 d a n with
  | false => rfl
  | true =>
   have hf := Qch.1 hf
   have hc := Jzq d
   rw [Jab (c := !true) rfl, Jaa (c := Jmo d) (by unfold Jmo; rw [show Jng d = true from h, hok.2]; rfl), show Jmp d = Jq9 d from rfl, Jai (by omega) (by omega), Jaa (tt3 (by omega) (by omega) (by omega))]
   have hl : (List.take ((a + n).toNat - a.toNat) (List.drop a.toNat (Jq9 d))).length ≤ 2000000000 := by rw [List.length_take, List.length_drop]; omega
   rw [Jaa (c := Jrq _) (tt hl)]
   have e : (a + n).toNat - a.toNat = n.toNat := by omega
   rw [e]; rfl⟩
theorem Ky4 (d : DK) (a n : Int) (h : Klk d a n = true) : ∃ F, ∀ {X : Type} (fail : X) (ret : List Jbw → Int → X), Ql3 F d a n fail ret = ret (Jf0 d a n) (Kll d a n) := ⟨0, fun fail ret => by
 have hs := Jgb.1 h
 unfold Ql3 Jf0 Kll K6v Kq3 Joy Kaw
 rw [Jaa (c := Jwg d) h]
 cases hk : okD d with
 | false => rw [Qcj hk]; rfl
 | true =>
  have hok := Qci.1 hk
  rw [Qki hk, Jab (Jgm rfl), Jaa (c := Klj d a n) h, Bool.true_and]
  cases hf : Kq2 d a n with
  | false => rfl
  | true =>
   have hf := Qch.1 hf
   have hc := Jzq d
   rw [Jab (c := !true) rfl, Jaa (c := J36 d) (by unfold J36; rw [show Jng d = true from h, hok.2]; rfl), show (J37 d).1 = Jq9 d from rfl, Jai (by omega) (by omega), Jaa (tt3 (by omega) (by omega) (by omega))]
   have hl : (List.drop a.toNat (List.take (a + n).toNat (Jq9 d))).length ≤ 2147483648 := by rw [List.length_drop, List.length_take]; omega
   rw [Jaa (Jch hl)]
   have e : List.drop a.toNat (List.take (a + n).toNat (Jq9 d)) = ((Jq9 d).drop a.toNat).take n.toNat := by
    rw [List.drop_take]; congr 1; omega
   rw [e]; rfl⟩
end Go.AI
