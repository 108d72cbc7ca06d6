/- Texts of the proof, joined: CipherP2. Names of our own are shortened by program; the long ones stand in wip/. -/
import Derived.Test.YtcdajbmgoafnkaaGreatQrCipherP
namespace Go.AI
open Go
theorem Jhy (w : List UInt32) (t f o k : Nat) : (stp w t f o k).length = w.length := by
 unfold stp; rw [List.length_set, List.length_set]
theorem Qdk (w : List UInt32) (a b c d : Nat) : (qrt w a b c d).length = w.length := by
 unfold qrt; rw [Jhy, Jhy, Jhy, Jhy]
theorem J9f (w : List UInt32) : ∀ i, (Qbt w i).length = w.length
 | 0 => rfl
 | i + 1 => (Qdk _ _ _ _ _).trans (J9f w i)
theorem Kmt (w : List UInt32) : ∀ i, (Qie w i).length = w.length
 | 0 => rfl
 | i + 1 => (Qdk _ _ _ _ _).trans (Kmt w i)
theorem J9g (w : List UInt32) : ∀ n, (Qbu w n).length = w.length
 | 0 => rfl
 | n + 1 => (Kmt _ _).trans ((J9f _ _).trans (J9g w n))
theorem K4u {x : UInt32} {k : Nat} (h : k = 7 ∨ k = 8 ∨ k = 12 ∨ k = 16) : J39 x (k : Int) = true := by
 rcases h with rfl | rfl | rfl | rfl <;> rfl
abbrev QT := List (Int × Int × Int × Int × Unit)
theorem Kmu {X : Type} (F : Nat) (fail : X) (ex : QT → Int → Int → Int → List UInt32 → List UInt32 → X) (s30 : QT) (p q : Int) (w w1 : List UInt32) (m j t f o k : Nat)
  (hs : s30.getD j (0, 0, 0, 0, ()) = ((t : Int), (f : Int), (o : Int), (k : Int), ())) (hj : j < 4) (ht : t < 16) (hf : f < 16) (ho : o < 16) (hk : k = 7 ∨ k = 8 ∨ k = 12 ∨ k = 16) :
  Jmb F fail ex (m + 1) s30 j p q w w1 = Jmb F fail ex m s30 (j + 1 : Nat) p q (stp w t f o k) w1 := by
 rw [Jmb, Kl4, Int.toNat_natCast, hs]
 simp only [Int.toNat_natCast]
 rw [Jaa (tt (by omega)), Jaa (tt2 (by omega) (by omega)), Jaa (tt2 (by omega) (by omega)), Jaa (tt2 (by omega) (by omega)), Jaa (tt2 (by omega) (by omega)), Jaa (tt2 (by omega) (by omega)), Jaa (tt2 (by omega) (by omega)), Jaa (K4u hk), Jaa (tt2 (by omega) (by omega)), Jai (by omega) (by omega)]
 rfl
theorem q3 {X : Type} (F : Nat) (fail : X) (ex : QT → Int → Int → Int → List UInt32 → List UInt32 → X) (p q : Int) (w w1 : List UInt32) (m a b c d : Nat) (ha : a < 16) (hb : b < 16) (hc : c < 16) (hd : d < 16) :
  ∃ s30 j, Jmb F fail ex (m + 5) [((a : Int), (b : Int), (d : Int), 16, ()), ((c : Int), (d : Int), (b : Int), 12, ()), ((a : Int), (b : Int), (d : Int), 8, ()), ((c : Int), (d : Int), (b : Int), 7, ())] 0 p q w w1 = ex s30 j p q (qrt w a b c d) w1 := by
 refine ⟨[((a : Int), (b : Int), (d : Int), 16, ()), ((c : Int), (d : Int), (b : Int), 12, ()), ((a : Int), (b : Int), (d : Int), 8, ()), ((c : Int), (d : Int), (b : Int), 7, ())], (4 : Nat), ?_⟩
 show Jmb F fail ex (m + 5) _ ((0 : Nat) : Int) p q w w1 = _
 rw [Kmu F fail ex _ p q w w1 _ 0 a b d 16 rfl (by omega) ha hb hd (by omega), Kmu F fail ex _ p q _ w1 _ 1 c d b 12 rfl (by omega) hc hd hb (by omega), Kmu F fail ex _ p q _ w1 _ 2 a b d 8 rfl (by omega) ha hb hd (by omega), Kmu F fail ex _ p q _ w1 _ 3 c d b 7 rfl (by omega) hc hd hb (by omega)]
 rw [Jmb, Kl4]
 rw [Jab (ff (by omega))]
 rfl
theorem Kmv {X : Type} (F : Nat) (fail : X) (ex : QT → Int → Int → Int → List UInt32 → List UInt32 → X) (s30 : QT) (p q : Int) (w w1 : List UInt32) (m j t f o k : Nat)
  (hs : s30.getD j (0, 0, 0, 0, ()) = ((t : Int), (f : Int), (o : Int), (k : Int), ())) (hj : j < 4) (ht : t < 16) (hf : f < 16) (ho : o < 16) (hk : k = 7 ∨ k = 8 ∨ k = 12 ∨ k = 16) :
  Jmc F fail ex (m + 1) s30 j p q w w1 = Jmc F fail ex m s30 (j + 1 : Nat) p q (stp w t f o k) w1 := by
 rw [Jmc, Kl6, Int.toNat_natCast, hs]
 simp only [Int.toNat_natCast]
 rw [Jaa (tt (by omega)), Jaa (tt2 (by omega) (by omega)), Jaa (tt2 (by omega) (by omega)), Jaa (tt2 (by omega) (by omega)), Jaa (tt2 (by omega) (by omega)), Jaa (tt2 (by omega) (by omega)), Jaa (tt2 (by omega) (by omega)), Jaa (K4u hk), Jaa (tt2 (by omega) (by omega)), Jai (by omega) (by omega)]
 rfl
theorem q5 {X : Type} (F : Nat) (fail : X) (ex : QT → Int → Int → Int → List UInt32 → List UInt32 → X) (p q : Int) (w w1 : List UInt32) (m a b c d : Nat) (ha : a < 16) (hb : b < 16) (hc : c < 16) (hd : d < 16) :
  ∃ s30 j, Jmc F fail ex (m + 5) [((a : Int), (b : Int), (d : Int), 16, ()), ((c : Int), (d : Int), (b : Int), 12, ()), ((a : Int), (b : Int), (d : Int), 8, ()), ((c : Int), (d : Int), (b : Int), 7, ())] 0 p q w w1 = ex s30 j p q (qrt w a b c d) w1 := by
 refine ⟨[((a : Int), (b : Int), (d : Int), 16, ()), ((c : Int), (d : Int), (b : Int), 12, ()), ((a : Int), (b : Int), (d : Int), 8, ()), ((c : Int), (d : Int), (b : Int), 7, ())], (4 : Nat), ?_⟩
 show Jmc F fail ex (m + 5) _ ((0 : Nat) : Int) p q w w1 = _
 rw [Kmv F fail ex _ p q w w1 _ 0 a b d 16 rfl (by omega) ha hb hd (by omega), Kmv F fail ex _ p q _ w1 _ 1 c d b 12 rfl (by omega) hc hd hb (by omega), Kmv F fail ex _ p q _ w1 _ 2 a b d 8 rfl (by omega) ha hb hd (by omega), Kmv F fail ex _ p q _ w1 _ 3 c d b 7 rfl (by omega) hc hd hb (by omega)]
 rw [Jmc, Kl6]
 rw [Jab (ff (by omega))]
 rfl
theorem K9u (c i : Nat) (a : Int) (ha : a = c) (h : c ≤ 16) (hi : i < 16) : Jag a (i : Int) = ((c + i : Nat) : Int) := by
 subst ha
 rw [Jai (by omega) (by omega)]; omega
theorem Qn2 (i c : Nat) (a : Int) (ha : a = c) (h : c ≤ 16) (hi : i < 16) : Jcg (Jag (i : Int) a) 4 = (((i + c) % 4 : Nat) : Int) := by
 subst ha
 rw [Jai (by omega) (by omega), Jj6 (by omega)]; omega
theorem Qkn {X : Type} (fail : X) (ex : Int → Int → List UInt32 → List UInt32 → X) (p : Int) (v w : List UInt32) : ∀ (j m i : Nat), i + j = 4 → j ≤ m →
  Jsa 99 fail ex (m + 1) p i (Qbt v i) w = ex p (4 : Nat) (Qbt v 4) w
 | 0, m, i, hi, _ => by
  have e : i = 4 := by omega
  subst e
  rw [Jsa, Kl5]
  rw [Jab (ff (by omega))]
 | j + 1, 0, i, _, hm => absurd hm (by omega)
 | j + 1, m + 1, i, hi, hm => by
  have ih := Qkn fail ex p v w j m (i + 1) (by omega) (by omega)
  obtain ⟨s, k, e⟩ := q3 99 fail (fun (_ : QT) (_ : Int) (s71 : Int) (s91 : Int) (w1 : List UInt32) (w2 : List UInt32) => Jsa 99 fail ex (m + 1) s71 (Jag s91 (1 : Int)) w1 w2) p i (Qbt v i) w 94 i (4 + i) (8 + i) (12 + i) (by omega) (by omega) (by omega) (by omega)
  rw [Jsa, Kl5]
  rw [Jaa (tt (by omega)), K9u 4 i 4 rfl (by omega) (by omega), K9u 8 i 8 rfl (by omega) (by omega), K9u 12 i 12 rfl (by omega) (by omega)]
  refine e.trans ?_
  rw [Jai (by omega) (by omega)]
  exact ih
theorem Qko {X : Type} (fail : X) (ex : Int → Int → List UInt32 → List UInt32 → X) (p : Int) (v w : List UInt32) : ∀ (j m i : Nat), i + j = 4 → j ≤ m →
  Jsb 99 fail ex (m + 1) p i (Qie v i) w = ex p (4 : Nat) (Qie v 4) w
 | 0, m, i, hi, _ => by
  have e : i = 4 := by omega
  subst e
  rw [Jsb, Kl7]
  rw [Jab (ff (by omega))]
 | j + 1, 0, i, _, hm => absurd hm (by omega)
 | j + 1, m + 1, i, hi, hm => by
  have ih := Qko fail ex p v w j m (i + 1) (by omega) (by omega)
  obtain ⟨s, k, e⟩ := q5 99 fail (fun (_ : QT) (_ : Int) (s71 : Int) (s91 : Int) (w1 : List UInt32) (w2 : List UInt32) => Jsb 99 fail ex (m + 1) s71 (Jag s91 (1 : Int)) w1 w2) p i (Qie v i) w 94 i (4 + (i + 1) % 4) (8 + (i + 2) % 4) (12 + (i + 3) % 4) (by omega) (by omega) (by omega) (by omega)
  rw [Jsb, Kl7]
  rw [Jaa (tt (by omega)), Qn2 i 1 1 rfl (by omega) (by omega), Qn2 i 2 2 rfl (by omega) (by omega), Qn2 i 3 3 rfl (by omega) (by omega), K9u 4 ((i + 1) % 4) 4 rfl (by omega) (by omega), K9u 8 ((i + 2) % 4) 8 rfl (by omega) (by omega), K9u 12 ((i + 3) % 4) 12 rfl (by omega) (by omega)]
  refine e.trans ?_
  rw [Jai (by omega) (by omega)]
  exact ih
theorem Qkp {X : Type} (fail : X) (ex : Int → List UInt32 → List UInt32 → X) (v w : List UInt32) : ∀ (j m i : Nat), i + j = 10 → j ≤ m →
  Jw5 99 fail ex (m + 1) i (Qbu v i) w = ex (10 : Nat) (Qbu v 10) w
 | 0, m, i, hi, _ => by
  have e : i = 10 := by omega
  subst e
  rw [Jw5, Kl8]
  rw [Jab (ff (by omega))]
 | j + 1, 0, i, _, hm => absurd hm (by omega)
 | j + 1, m + 1, i, hi, hm => by
  have ih := Qkp fail ex v w j m (i + 1) (by omega) (by omega)
  rw [Jw5, Kl8]
  rw [Jaa (tt (by omega))]
  refine (Qkn fail _ i (Qbu v i) w 4 98 0 rfl (by omega)).trans ?_
  refine (Qko fail _ i (Qbt (Qbu v i) 4) w 4 98 0 rfl (by omega)).trans ?_
  rw [Jai (by omega) (by omega)]
  exact ih
theorem J4q (m w : List UInt32) (n : Nat) : Klo m w (n + 1) = Klo m w n ++ le4 (Jbp (m.getD n 0) (w.getD n 0)) := by
 unfold Klo
 rw [List.range_succ, List.flatMap_append]
 simp
theorem J2m (m w : List UInt32) : ∀ n, (Klo m w n).length = 4 * n
 | 0 => rfl
 | n + 1 => by
  rw [J4q, List.length_append, J2m m w n]
  show 4 * n + 4 = _
  omega
theorem Qkq {X : Type} (fail : X) (ex : List UInt32 → Int → List UInt32 → List UInt8 → X) (v w : List UInt32) : ∀ (j m i : Nat), i + j = 16 → j ≤ m →
  Jw6 99 fail ex (m + 1) v i w (Klo v w i) = ex v (16 : Nat) w (Klo v w 16)
 | 0, m, i, hi, _ => by
  have e : i = 16 := by omega
  subst e
  rw [Jw6, Kl9]
  rw [Jab (ff (by omega))]
 | j + 1, 0, i, _, hm => absurd hm (by omega)
 | j + 1, m + 1, i, hi, hm => by
  have ih := Qkq fail ex v w j m (i + 1) (by omega) (by omega)
  have hl := J2m v w (i + 1)
  rw [Jw6, Kl9]
  have es := J4q v w i
  unfold le4 at es
  simp only [Int.toNat_natCast, ← es]
  rw [Jaa (tt (by omega)), Jaa (tt2 (by omega) (by omega)), Jaa (tt2 (by omega) (by omega)), Jaa (Jch (by omega)), Jai (by omega) (by omega)]
  exact ih
theorem K7e (key : List UInt8) (nonce counter : Int) (h : K32 key nonce counter = true) : ∃ F, ∀ {X : Type} (fail : X) (ret : List UInt8 → X), cBlk F key nonce counter fail ret = ret (K33 key nonce counter) := ⟨99, fun fail ret => by
 unfold cBlk
 rw [Jaa (c := J8t key nonce counter) h]
 refine (Qkp fail _ _ _ 10 98 0 rfl (by omega)).trans ?_
 exact Qkq fail _ _ _ 16 98 0 rfl (by omega)⟩
theorem Kmw (key : List UInt8) (nonce counter : Int) : (Kya key nonce counter).length = 64 := J2m _ _ 16
theorem Kr4 (n : Int) : ∃ F, ∀ {X : Type} (fail : X) (ret : Bool → X), Qb6 F n fail ret = ret (Jrs n) := ⟨1, fun fail ret => by
 unfold Qb6 Jrs inR
 by_cases h : n ≥ 0
 ·rw [Jaa (tt h)]; congr 1
  by_cases k : n ≤ 9007199254740991
  ·rw [tt k, tt ⟨h, k⟩]
  ·rw [ff k, ff (fun x => k x.2)]
 ·rw [Jab (ff h), ff (fun x => h x.1)]⟩
theorem Kmx (n : Int) : ∃ F, ∀ {X : Type} (fail : X) (ret : Bool → X), Kym F n fail ret = ret (Jjp n) := ⟨1, fun fail ret => by
 unfold Kym Jjp inR
 by_cases h : n ≥ 0
 ·rw [Jaa (tt h)]; congr 1
  by_cases k : n ≤ 9007199254740991
  ·rw [tt k, tt ⟨h, k⟩]
  ·rw [ff k, ff (fun x => k x.2)]
 ·rw [Jab (ff h), ff (fun x => h x.1)]⟩
theorem K7f (nonce counter : Int) : (inR nonce = false ∧ Qkb nonce counter = 2) ∨ (inR nonce = true ∧ counter < 0 ∧ Qkb nonce counter = 2) ∨ (inR nonce = true ∧ ¬ counter < 0 ∧ counter > 4294967295 ∧ Qkb nonce counter = 2) ∨ (inR nonce = true ∧ ¬ counter < 0 ∧ ¬ counter > 4294967295 ∧ Qkb nonce counter = 0) := by
 unfold Qkb
 cases inR nonce with
 | false => exact .inl ⟨rfl, by rw [if_neg (fun h => by simp at h)]⟩
 | true =>
  refine .inr ?_
  by_cases h1 : counter < 0
  ·exact .inl ⟨rfl, h1, by rw [if_neg (by omega)]⟩
  by_cases h2 : counter > 4294967295
  ·exact .inr (.inl ⟨rfl, h1, h2, by rw [if_neg (by omega)]⟩)
  ·exact .inr (.inr ⟨rfl, h1, h2, by rw [if_pos ⟨rfl, by omega, by omega⟩]⟩)
theorem Jur (x : UInt32) : Jib x 16 = true ∧ Jib x 12 = true ∧ Jib x 8 = true ∧ Jib x 7 = true := ⟨rfl, rfl, rfl, rfl⟩
theorem K7g {X : Type} (F : Nat) (fail : X) (ex : Int → Int → List UInt32 → List UInt32 → X) (p : Int) (b w : List UInt32) (m k : Nat) (hk : k < 4) (hw : w.length = 16) :
  Jjc F fail ex (m + 1) p k b w = Jjc F fail ex m p (k + 1 : Nat) b (qrt w k (4 + k) (8 + k) (12 + k)) := by
 have a4 := K9u 4 k 4 rfl (by omega) (by omega)
 have a8 := K9u 8 k 8 rfl (by omega) (by omega)
 have a12 := K9u 12 k 12 rfl (by omega) (by omega)
 have v1 : Jfo k w = stp w k (4 + k) (12 + k) 16 := by
  unfold Jfo; simp only [a4, a12, Int.toNat_natCast]; rfl
 have v6 : Jfq k w = stp (stp w k (4 + k) (12 + k) 16) (8 + k) (12 + k) (4 + k) 12 := by
  unfold Jfq Jun Jfp; simp only [v1, a4, a8, a12, Int.toNat_natCast]; rfl
 have v11 : Jev k w = stp (stp (stp w k (4 + k) (12 + k) 16) (8 + k) (12 + k) (4 + k) 12) k (4 + k) (12 + k) 8 := by
  unfold Jev Jsc Jfr; simp only [v6, a4, a12, Int.toNat_natCast]; rfl
 have hr : List.set (Jd2 k w) (4 + k) (Jj8 (Jmf k w) 7) = qrt w k (4 + k) (8 + k) (12 + k) := by
  unfold Jmf Jd2; simp only [v11, a4, a8, a12, Int.toNat_natCast]; rfl
 have n1 : (Jfo k w).length = 16 := by rw [v1, Jhy, hw]
 have n3 : (Jfp k w).length = 16 := by unfold Jfp; rw [List.length_set, n1]
 have n6 : (Jfq k w).length = 16 := by rw [v6, Jhy, Jhy, hw]
 have n8 : (Jfr k w).length = 16 := by unfold Jfr; rw [List.length_set, n6]
 have n11 : (Jev k w).length = 16 := by rw [v11, Jhy, Jhy, Jhy, hw]
 have n13 : (Jd2 k w).length = 16 := by unfold Jd2; rw [List.length_set, n11]
 have c2 : Jo6 k w = true := by unfold Jo6; rw [a8, n1]; exact tt2 (by omega) (by omega)
 have c4 : Jo7 k w = true := by unfold Jo7; rw [a4, n3]; exact tt2 (by omega) (by omega)
 have c7 : Jo8 k w = true := by unfold Jo8; rw [n6]; exact tt2 (by omega) (by omega)
 have c9 : Jo9 k w = true := by unfold Jo9; rw [a12, n8]; exact tt2 (by omega) (by omega)
 have c12 : Jmd k w = true := by unfold Jmd; rw [a8, n11]; exact tt2 (by omega) (by omega)
 have c14 : Jme k w = true := by unfold Jme; rw [a4, n13]; exact tt2 (by omega) (by omega)
 rw [Jjc, J16]
 simp only [a4, a8, a12, Int.toNat_natCast, List.length_set, n1, n3, n6, n8, n11, n13, hw, c2, c4, c7, c9, c12, c14, (Jur _).1, (Jur _).2.1, (Jur _).2.2.1, (Jur _).2.2.2, cond_true, hr]
 rw [Jaa (tt (by omega)), Jaa (tt2 (by omega) (by omega)), Jaa (tt2 (by omega) (by omega)), Jaa (tt2 (by omega) (by omega)), Jaa (tt2 (by omega) (by omega)), Jaa (tt2 (by omega) (by omega)), Jaa (tt2 (by omega) (by omega)), Jaa (tt2 (by omega) (by omega)), Jaa (tt2 (by omega) (by omega)), Jaa (tt2 (by omega) (by omega)), Jaa (tt2 (by omega) (by omega)), Jaa (tt2 (by omega) (by omega)), Jaa (tt2 (by omega) (by omega)), Jai (by omega) (by omega)]
 rfl
end Go.AI
