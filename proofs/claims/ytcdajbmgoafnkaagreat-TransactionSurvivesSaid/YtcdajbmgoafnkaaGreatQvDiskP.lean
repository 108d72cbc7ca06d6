/- Texts of the proof, joined: DiskP. Names of our own are shortened by program; the long ones stand in wip/. -/
import Derived.Test.YtcdajbmgoafnkaaGreatQvG
namespace Go.AI
open Go
theorem Jdw {α : Type} {l : List α} {i : Nat} {d : α} (h : i < l.length) : l.getD i d = l[i] := by simp [List.getD, h]
theorem Jcu {α : Type} {l : List α} {i : Nat} (d : α) (h : i < l.length) : l.drop i = l.getD i d :: l.drop (i + 1) := by rw [List.drop_eq_getElem_cons h, Jdw h]
theorem Juu (i : Nat) : (i : Int) + 1 = ((i + 1 : Nat) : Int) := by omega
theorem Jez {d : DK} : Jma d = true ↔ d.1.length ≤ 1000000 ∧ d.2.1.length ≤ 100000000 := by simp only [Jma, decide_eq_true_eq]
theorem Kl0 {n : Nat} {l : List Jl9} : okP n l = true ↔ ∀ p, p ∈ l → 0 ≤ p.1 ∧ p.1 < (n : Int) := by simp [okP]
theorem Kl1 {d : DK} {a n : Int} : Ka6 d a n = true ↔ 0 ≤ a ∧ 0 ≤ n ∧ a + n ≤ d.1.length := by simp only [Ka6, decide_eq_true_eq]
theorem Kge (s : List Jbe) (h : Jhy s = true) : ∃ F, ∀ {X : Type} (fail : X) (Jmt : X → X → X) (_ : ∀ x, Jmt x x = x) (ret : List Jbe → X), Kxb F s fail Jmt ret = ret (Joa s) := ⟨0, fun fail Jmt hb ret => by
 simp only [Jhy, decide_eq_true_eq] at h
 unfold Kxb Joa
 rw [Jem (by omega)]
 cases s with
 | nil => exact hb _
 | cons a s => rfl⟩
theorem Kgf (s : List Jl9) (h : Jwe s = true) : ∃ F, ∀ {X : Type} (fail : X) (Jmt : X → X → X) (_ : ∀ x, Jmt x x = x) (ret : List Jl9 → X), Kxc F s fail Jmt ret = ret (J1r s) := ⟨0, fun fail Jmt hb ret => by
 simp only [Jwe, decide_eq_true_eq] at h
 unfold Kxc J1r
 rw [Jem (by omega)]
 cases s with
 | nil => exact hb _
 | cons a s => rfl⟩
theorem Kl2 (s : List Int) (h : J3h s = true) : ∃ F, ∀ {X : Type} (fail : X) (Jmt : X → X → X) (_ : ∀ x, Jmt x x = x) (ret : List Int → X), K61 F s fail Jmt ret = ret (Ka8 s) := ⟨0, fun fail Jmt hb ret => by
 simp only [J3h, decide_eq_true_eq] at h
 unfold K61 Ka8
 rw [Jem (by omega)]
 cases s with
 | nil => exact hb _
 | cons a s => rfl⟩
theorem Kl3 (d : DK) (a n : Int) (h : Jyj d a n = true) : ∃ F, ∀ {X : Type} (fail : X) (ret : Bool → X), K62 F d a n fail ret = ret (Jqj d a n) := ⟨0, fun fail ret => by
 have h := Jez.1 h
 unfold K62 Jqj
 by_cases c1 : a ≥ 0
 ·rw [Jaa (tt c1)]
  by_cases c2 : n ≥ 0
  ·rw [Jaa (tt c2)]
   by_cases c3 : a ≤ (d.1.length : Int)
   ·rw [Jaa (tt c3), Jdo (by omega) (by omega)]
    congr 1
    unfold Ka6
    by_cases c4 : n ≤ (d.1.length : Int) - a
    ·rw [tt c4, tt (by omega)]
    ·rw [ff c4, ff (by omega)]
   ·rw [Jab (ff c3), show Ka6 d a n = false from ff (by omega)]
  ·rw [Jab (ff c2), show Ka6 d a n = false from ff (by omega)]
 ·rw [Jab (ff c1), show Ka6 d a n = false from ff (by omega)]⟩
theorem Ks1 (n : Int) (_ : Kw4 n = true) : ∃ F, ∀ {X : Type} (fail : X) (ret : DK → Int → X), dNew F n fail ret = ret (Jk7 n) (J3i n) := ⟨0, fun fail ret => by
 unfold dNew Jk7 J3i K43 newE
 by_cases c1 : n < 1
 ·rw [Jaa (tt c1), if_neg (by omega), if_neg (by omega)]; rfl
 by_cases c2 : n > 8192
 ·rw [Jab (ff c1), Jaa (tt c2), if_neg (by omega), if_neg (by omega)]; rfl
 have e : (decide ((0 : Int) ≤ n) && true && decide (n ≤ ((big : Nat) : Int))) = true := by rw [tt (by omega), tt (by unfold big; omega)]; rfl
 rw [Jab (ff c1), Jab (ff c2), Jaa e, if_pos (by omega), if_pos (by omega)]⟩
theorem Kqg (n : Nat) (p : Jl9) (l : List Jl9) : okP n (p :: l) = (decide (0 ≤ p.1 ∧ p.1 < (n : Int)) && okP n l) := rfl
theorem J3t {X : Type} (F : Nat) (fail : X) (ex0 ex1 : List Jl9 → Int → Int → Int → DK → X) (a b : X) (d : DK) (s : List Jl9) (hs : s.length ≤ 100000000) (h0 : ∀ j : Nat, ex0 s j (s.length : Nat) j d = a) (h1 : ∀ s4 j, ex1 s s4 (s.length : Nat) j d = b) : ∀ (j m i : Nat) (s4 : Int), i + j = s.length → j ≤ m →
  Jkm F fail ex0 ex1 (m + 1) s s4 (s.length : Nat) i d = if okP d.1.length (s.drop i) then b else a
 | 0, m, i, s4, hi, _ => by
  rw [Jkm, Jwl]
  rw [Jab (ff (by omega)), h1, List.drop_eq_nil_of_le (by omega)]; rfl
 | j + 1, 0, i, _, _, hm => absurd hm (by omega)
 | j + 1, m + 1, i, s4, hi, hm => by
  have ih := J3t F fail ex0 ex1 a b d s hs h0 h1 j m (i + 1) s4 (by omega) (by omega)
  rw [Jkm, Jwl]
  rw [Int.toNat_natCast, Jaa (tt (by omega)), Jaa (tt2 (by omega) (by omega)), Jcu ((0 : Int), (z16, ())) (show i < s.length by omega), Kqg]
  generalize (s.getD i ((0 : Int), (z16, ()))).1 = q
  by_cases c1 : q < 0
  ·rw [Jaa (tt c1), h0, ff (by omega)]; rfl
  by_cases c2 : q ≥ (d.1.length : Int)
  ·rw [Jab (ff c1), Jaa (tt c2), h0, ff (by omega)]; rfl
  ·rw [Jab (ff c1), Jab (ff c2), tt (by omega), Bool.true_and, Jam (by omega) (by omega)]
   exact ih
theorem Kxr (d : DK) : (d.1.length < 1 ∧ Kp5 d = 2) ∨ (d.1.length > 8192 ∧ Kp5 d = 2) ∨ (1 ≤ d.1.length ∧ d.1.length ≤ 8192 ∧ Kp5 d = if okP d.1.length d.2.1 then 0 else 2) := by
 unfold Kp5 okD
 by_cases c1 : d.1.length < 1
 ·exact .inl ⟨c1, by rw [ff (by omega)]; rfl⟩
 by_cases c2 : d.1.length > 8192
 ·exact .inr (.inl ⟨c2, by rw [ff (by omega)]; rfl⟩)
 ·exact .inr (.inr ⟨by omega, by omega, by rw [tt (by omega), Bool.true_and]⟩)
theorem Kgg (d : DK) (h : Jiw d = true) : ∃ F, ∀ {X : Type} (fail : X) (ret : Int → X), Kxd F d fail ret = ret (Je4 d) := ⟨d.2.1.length + 1, fun fail ret => by
 have h := Jez.1 h
 unfold Kxd Je4
 rcases Kxr d with ⟨c, e⟩ | ⟨c, e⟩ | ⟨c1, c2, e⟩ <;> rw [e]
 ·rw [Jaa (tt (by omega))]
 ·rw [Jab (ff (by omega)), Jaa (tt (by omega))]
 ·rw [Jab (ff (by omega)), Jab (ff (by omega))]
  refine (J3t (d.2.1.length + 1) fail _ _ (ret 2) (ret 0) d d.2.1 (by omega) (fun j => ?_) (fun _ _ => rfl) d.2.1.length _ 0 0 (by omega) (by omega)).trans ?_
  ·exact Jaa (tt (by omega)) _ _
  ·rw [List.drop_zero]; split <;> rfl⟩
theorem Kb1 : ∀ (l : List Jl9) (s : List Jbe), (Kp4 s l).length = s.length
 | [], _ => rfl
 | p :: l, s => by
  show (Kp4 (s.set p.1.toNat p.2.1) l).length = _
  rw [Kb1 l, List.length_set]
theorem Jyv (d : DK) : (Jvi d).length = d.1.length := Kb1 _ _
theorem K25 (s : List Jbe) (l : List Jl9) (p : Jl9) : Kp4 s (l ++ [p]) = (Kp4 s l).set p.1.toNat p.2.1 := by simp [Kp4]
theorem Kqh {X : Type} (F : Nat) (fail : X) (ex0 : List Jl9 → Int → Int → List Jbe → X) (d : DK) (hs : d.2.1.length ≤ 100000000) (ho : okP d.1.length d.2.1 = true) : ∀ (j m i : Nat), i + j = d.2.1.length → j ≤ m →
  Jhh F fail ex0 (m + 1) d.2.1 (d.2.1.length : Nat) i (Kp4 d.1 (d.2.1.take i)) = ex0 d.2.1 (d.2.1.length : Nat) (d.2.1.length : Nat) (Jvi d)
 | 0, m, i, hi, _ => by
  have e : i = d.2.1.length := by omega
  subst e
  rw [Jhh, Jol]
  rw [Jab (ff (by omega)), List.take_length]; rfl
 | j + 1, 0, i, _, hm => absurd hm (by omega)
 | j + 1, m + 1, i, hi, hm => by
  have ih := Kqh F fail ex0 d hs ho j m (i + 1) (by omega) (by omega)
  rw [Jhh, Jol]
  have hmem : d.2.1.getD i ((0 : Int), (z16, ())) ∈ d.2.1 := by rw [Jdw (show i < d.2.1.length by omega)]; exact List.getElem_mem _
  obtain ⟨q1, q2⟩ := Kl0.1 ho _ hmem
  rw [Jfe _ i ((0 : Int), (z16, ())) (by omega), K25] at ih
  rw [Int.toNat_natCast, Jaa (tt (by omega)), Jaa (tt2 (by omega) (by omega)), Kb1, Jaa (tt2 (by omega) (by omega)), Jam (by omega) (by omega)]
  exact ih
theorem J6u (d : DK) (h : Jhd d = true) : ∃ F, ∀ {X : Type} (fail : X) (ret : List Jbe → X), Kbg F d fail ret = ret (Jii d) := ⟨d.2.1.length + 1, fun fail ret => by
 simp only [Jhd, Bool.and_eq_true] at h
 have hs := Jez.1 h.1
 unfold Kbg
 rw [Jaa (c := Jhy d.1) (tt (by omega))]
 exact Kqh (d.2.1.length + 1) fail _ d (by omega) h.2 d.2.1.length _ 0 (by omega) (by omega)⟩
theorem Joy {d : DK} : okD d = true ↔ (1 ≤ d.1.length ∧ d.1.length ≤ 8192) ∧ okP d.1.length d.2.1 = true := by simp only [okD, Bool.and_eq_true, decide_eq_true_eq]
theorem Kqi {d : DK} (h : okD d = true) : Kp5 d = 0 := by unfold Kp5; rw [h]; rfl
theorem Kb2 {d : DK} (h : okD d = false) : Kp5 d = 2 := by unfold Kp5; rw [h]; rfl
theorem Kl4 (d : DK) (a n : Int) (h : Ka9 d a n = true) : ∃ F, ∀ {X : Type} (fail : X) (ret : List Jbe → Int → X), K63 F d a n fail ret = ret (Jed d a n) (Jr8 d a n) := ⟨0, fun fail ret => by
 have hs := Jez.1 h
 unfold K63 Jed Jr8 K22 Ksu Je4 Jqj
 rw [Jaa (c := Jiw d) h]
 cases hk : okD d with
 | false => rw [Kb2 hk]; rfl
 | true =>
  have hok := Joy.1 hk
  rw [Kqi hk, Jab (Jf8 rfl), Jaa (c := Jyj d a n) h, Bool.true_and]
  cases hf : Ka6 d a n with
  | false => rfl
  | true =>
   have hf := Kl1.1 hf
   have hc := Jyv d
   rw [Jab (c := !true) rfl, Jaa (c := Jhd d) (by unfold Jhd; rw [show Jma d = true from h, hok.2]; rfl), show Jii d = Jvi d from rfl, Jam (by omega) (by omega), Jaa (tt3 (by omega) (by omega) (by omega))]
   have hl : (List.take ((a + n).toNat - a.toNat) (List.drop a.toNat (Jvi d))).length ≤ 2000000000 := by rw [List.length_take, List.length_drop]; omega
   rw [Jaa (c := Jhy _) (tt hl)]
   have e : (a + n).toNat - a.toNat = n.toNat := by omega
   rw [e]; rfl⟩
theorem K26 (c n : Int) (hn : 1 ≤ n) : c.tmod n = c % n ∨ c.tmod n = c % n - n := by
 have : (n.natAbs : Int) = n := by omega
 rw [Int.tmod_eq_emod]
 split
 ·left; simp
 ·right; rw [this]
theorem Kb3 (ch : List Int) (n : Int) (h : Jqk ch n = true) : ∃ F, ∀ {X : Type} (fail : X) (ret : Int → List Int → X), Kll F ch n fail ret = ret (Jij ch n) (Jm0 ch n) := ⟨0, fun fail ret => by
 simp only [Jqk, decide_eq_true_eq] at h
 unfold Kll Jij Jm0 K8s
 cases ch with
 | nil => rfl
 | cons c r =>
  have hn : (n.toNat : Int) = n := by omega
  have e0 : (((c :: r).length : Nat) : Int) = (r.length : Int) + 1 := by simp
  have e1 : (c :: r).getD 0 (0 : Int) = c := rfl
  have ht : Jgg c n = c.tmod n := rfl
  have hb1 := Int.lt_tmod_of_pos c (show (0 : Int) < n by omega)
  have hb2 := Int.tmod_lt_of_pos c (show (0 : Int) < n by omega)
  have hem := K26 c n h.1
  rw [Jab (Jjv (by omega)), Jaa (tt (by omega)), Jaa (Jjj (by omega)), e1, ht]
  simp only [hn]
  have hpos := Int.emod_nonneg c (show n ≠ 0 by omega)
  have hlt := Int.emod_lt_of_pos c (show (0 : Int) < n by omega)
  by_cases c1 : c.tmod n < 0
  ·rw [Jaa (tt c1), Jaa (tt (by omega)), Jam (by omega) (by omega)]
   have : c.tmod n + n = c % n := by omega
   rw [this]; rfl
  ·rw [Jab (ff c1), Jaa (tt (by omega))]
   have : c.tmod n = c % n := by omega
   rw [this]; rfl⟩
end Go.AI
