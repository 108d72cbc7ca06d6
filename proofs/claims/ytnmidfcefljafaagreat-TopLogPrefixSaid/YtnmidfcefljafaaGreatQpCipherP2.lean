/- Texts of the proof, joined: CipherP2. Names of our own are shortened by program; the long ones stand in wip/. -/
import Derived.Test.YtnmidfcefljafaaGreatQpCipherP
namespace Go.AI
open Go
theorem Krz {x : UInt32} {k : Nat} (h : k = 7 ∨ k = 8 ∨ k = 12 ∨ k = 16) : Jyf x (k : Int) = true := by
 rcases h with rfl | rfl | rfl | rfl <;> rfl
abbrev QT := List (Int × Int × Int × Int × Unit)
theorem Kcw {X : Type} (F : Nat) (fail : X) (ex : QT → Int → Int → Int → List UInt32 → List UInt32 → X) (s30 : QT) (p q : Int) (w w1 : List UInt32) (m j t f o k : Nat)
  (hs : s30.getD j (0, 0, 0, 0, ()) = ((t : Int), (f : Int), (o : Int), (k : Int), ())) (hj : j < 4) (ht : t < 16) (hf : f < 16) (ho : o < 16) (hk : k = 7 ∨ k = 8 ∨ k = 12 ∨ k = 16) :
  Jj1 F fail ex (m + 1) s30 j p q w w1 = Jj1 F fail ex m s30 (j + 1 : Nat) p q (stp w t f o k) w1 := by
 rw [Jj1, Kb3, Int.toNat_natCast, hs]
 simp only [Int.toNat_natCast]
 rw [Jaa (tt (by omega)), Jaa (tt2 (by omega) (by omega)), Jaa (tt2 (by omega) (by omega)), Jaa (tt2 (by omega) (by omega)), Jaa (tt2 (by omega) (by omega)), Jaa (tt2 (by omega) (by omega)), Jaa (tt2 (by omega) (by omega)), Jaa (Krz hk), Jaa (tt2 (by omega) (by omega)), Jao (by omega) (by omega)]
 rfl
theorem q3 {X : Type} (F : Nat) (fail : X) (ex : QT → Int → Int → Int → List UInt32 → List UInt32 → X) (p q : Int) (w w1 : List UInt32) (m a b c d : Nat) (ha : a < 16) (hb : b < 16) (hc : c < 16) (hd : d < 16) :
  ∃ s30 j, Jj1 F fail ex (m + 5) [((a : Int), (b : Int), (d : Int), 16, ()), ((c : Int), (d : Int), (b : Int), 12, ()), ((a : Int), (b : Int), (d : Int), 8, ()), ((c : Int), (d : Int), (b : Int), 7, ())] 0 p q w w1 = ex s30 j p q (qrt w a b c d) w1 := by
 refine ⟨[((a : Int), (b : Int), (d : Int), 16, ()), ((c : Int), (d : Int), (b : Int), 12, ()), ((a : Int), (b : Int), (d : Int), 8, ()), ((c : Int), (d : Int), (b : Int), 7, ())], (4 : Nat), ?_⟩
 show Jj1 F fail ex (m + 5) _ ((0 : Nat) : Int) p q w w1 = _
 rw [Kcw F fail ex _ p q w w1 _ 0 a b d 16 rfl (by omega) ha hb hd (by omega), Kcw F fail ex _ p q _ w1 _ 1 c d b 12 rfl (by omega) hc hd hb (by omega), Kcw F fail ex _ p q _ w1 _ 2 a b d 8 rfl (by omega) ha hb hd (by omega), Kcw F fail ex _ p q _ w1 _ 3 c d b 7 rfl (by omega) hc hd hb (by omega)]
 rw [Jj1, Kb3]
 rw [Jab (ff (by omega))]
 rfl
theorem Kcx {X : Type} (F : Nat) (fail : X) (ex : QT → Int → Int → Int → List UInt32 → List UInt32 → X) (s30 : QT) (p q : Int) (w w1 : List UInt32) (m j t f o k : Nat)
  (hs : s30.getD j (0, 0, 0, 0, ()) = ((t : Int), (f : Int), (o : Int), (k : Int), ())) (hj : j < 4) (ht : t < 16) (hf : f < 16) (ho : o < 16) (hk : k = 7 ∨ k = 8 ∨ k = 12 ∨ k = 16) :
  Jj2 F fail ex (m + 1) s30 j p q w w1 = Jj2 F fail ex m s30 (j + 1 : Nat) p q (stp w t f o k) w1 := by
 rw [Jj2, Kb5, Int.toNat_natCast, hs]
 simp only [Int.toNat_natCast]
 rw [Jaa (tt (by omega)), Jaa (tt2 (by omega) (by omega)), Jaa (tt2 (by omega) (by omega)), Jaa (tt2 (by omega) (by omega)), Jaa (tt2 (by omega) (by omega)), Jaa (tt2 (by omega) (by omega)), Jaa (tt2 (by omega) (by omega)), Jaa (Krz hk), Jaa (tt2 (by omega) (by omega)), Jao (by omega) (by omega)]
 rfl
theorem q5 {X : Type} (F : Nat) (fail : X) (ex : QT → Int → Int → Int → List UInt32 → List UInt32 → X) (p q : Int) (w w1 : List UInt32) (m a b c d : Nat) (ha : a < 16) (hb : b < 16) (hc : c < 16) (hd : d < 16) :
  ∃ s30 j, Jj2 F fail ex (m + 5) [((a : Int), (b : Int), (d : Int), 16, ()), ((c : Int), (d : Int), (b : Int), 12, ()), ((a : Int), (b : Int), (d : Int), 8, ()), ((c : Int), (d : Int), (b : Int), 7, ())] 0 p q w w1 = ex s30 j p q (qrt w a b c d) w1 := by
 refine ⟨[((a : Int), (b : Int), (d : Int), 16, ()), ((c : Int), (d : Int), (b : Int), 12, ()), ((a : Int), (b : Int), (d : Int), 8, ()), ((c : Int), (d : Int), (b : Int), 7, ())], (4 : Nat), ?_⟩
 show Jj2 F fail ex (m + 5) _ ((0 : Nat) : Int) p q w w1 = _
 rw [Kcx F fail ex _ p q w w1 _ 0 a b d 16 rfl (by omega) ha hb hd (by omega), Kcx F fail ex _ p q _ w1 _ 1 c d b 12 rfl (by omega) hc hd hb (by omega), Kcx F fail ex _ p q _ w1 _ 2 a b d 8 rfl (by omega) ha hb hd (by omega), Kcx F fail ex _ p q _ w1 _ 3 c d b 7 rfl (by omega) hc hd hb (by omega)]
 rw [Jj2, Kb5]
 rw [Jab (ff (by omega))]
 rfl
theorem K9j (c i : Nat) (a : Int) (ha : a = c) (h : c ≤ 16) (hi : i < 16) : Jar a (i : Int) = ((c + i : Nat) : Int) := by
 subst ha
 rw [Jao (by omega) (by omega)]; omega
theorem rem4 (i c : Nat) (a : Int) (ha : a = c) (h : c ≤ 16) (hi : i < 16) : Jcz (Jar (i : Int) a) 4 = (((i + c) % 4 : Nat) : Int) := by
 subst ha
 rw [Jao (by omega) (by omega), J3o (by omega)]; omega
theorem K51 {X : Type} (fail : X) (ex : Int → Int → List UInt32 → List UInt32 → X) (p : Int) (v w : List UInt32) : ∀ (j m i : Nat), i + j = 4 → j ≤ m →
  Joo 99 fail ex (m + 1) p i (K9f v i) w = ex p (4 : Nat) (K9f v 4) w
 | 0, m, i, hi, _ => by
  have e : i = 4 := by omega
  subst e
  rw [Joo, Kb4]
  rw [Jab (ff (by omega))]
 | j + 1, 0, i, _, hm => absurd hm (by omega)
 | j + 1, m + 1, i, hi, hm => by
  have ih := K51 fail ex p v w j m (i + 1) (by omega) (by omega)
  obtain ⟨s, k, e⟩ := q3 99 fail (fun (_ : QT) (_ : Int) (s71 : Int) (s91 : Int) (w1 : List UInt32) (w2 : List UInt32) => Joo 99 fail ex (m + 1) s71 (Jar s91 (1 : Int)) w1 w2) p i (K9f v i) w 94 i (4 + i) (8 + i) (12 + i) (by omega) (by omega) (by omega) (by omega)
  rw [Joo, Kb4]
  rw [Jaa (tt (by omega)), K9j 4 i 4 rfl (by omega) (by omega), K9j 8 i 8 rfl (by omega) (by omega), K9j 12 i 12 rfl (by omega) (by omega)]
  refine e.trans ?_
  rw [Jao (by omega) (by omega)]
  exact ih
theorem K52 {X : Type} (fail : X) (ex : Int → Int → List UInt32 → List UInt32 → X) (p : Int) (v w : List UInt32) : ∀ (j m i : Nat), i + j = 4 → j ≤ m →
  Jop 99 fail ex (m + 1) p i (Qab v i) w = ex p (4 : Nat) (Qab v 4) w
 | 0, m, i, hi, _ => by
  have e : i = 4 := by omega
  subst e
  rw [Jop, Kb6]
  rw [Jab (ff (by omega))]
 | j + 1, 0, i, _, hm => absurd hm (by omega)
 | j + 1, m + 1, i, hi, hm => by
  have ih := K52 fail ex p v w j m (i + 1) (by omega) (by omega)
  obtain ⟨s, k, e⟩ := q5 99 fail (fun (_ : QT) (_ : Int) (s71 : Int) (s91 : Int) (w1 : List UInt32) (w2 : List UInt32) => Jop 99 fail ex (m + 1) s71 (Jar s91 (1 : Int)) w1 w2) p i (Qab v i) w 94 i (4 + (i + 1) % 4) (8 + (i + 2) % 4) (12 + (i + 3) % 4) (by omega) (by omega) (by omega) (by omega)
  rw [Jop, Kb6]
  rw [Jaa (tt (by omega)), rem4 i 1 1 rfl (by omega) (by omega), rem4 i 2 2 rfl (by omega) (by omega), rem4 i 3 3 rfl (by omega) (by omega), K9j 4 ((i + 1) % 4) 4 rfl (by omega) (by omega), K9j 8 ((i + 2) % 4) 8 rfl (by omega) (by omega), K9j 12 ((i + 3) % 4) 12 rfl (by omega) (by omega)]
  refine e.trans ?_
  rw [Jao (by omega) (by omega)]
  exact ih
theorem K53 {X : Type} (fail : X) (ex : Int → List UInt32 → List UInt32 → X) (v w : List UInt32) : ∀ (j m i : Nat), i + j = 10 → j ≤ m →
  Jse 99 fail ex (m + 1) i (K9g v i) w = ex (10 : Nat) (K9g v 10) w
 | 0, m, i, hi, _ => by
  have e : i = 10 := by omega
  subst e
  rw [Jse, Kb7]
  rw [Jab (ff (by omega))]
 | j + 1, 0, i, _, hm => absurd hm (by omega)
 | j + 1, m + 1, i, hi, hm => by
  have ih := K53 fail ex v w j m (i + 1) (by omega) (by omega)
  rw [Jse, Kb7]
  rw [Jaa (tt (by omega))]
  refine (K51 fail _ i (K9g v i) w 4 98 0 rfl (by omega)).trans ?_
  refine (K52 fail _ i (K9f (K9g v i) 4) w 4 98 0 rfl (by omega)).trans ?_
  rw [Jao (by omega) (by omega)]
  exact ih
theorem J9f (m w : List UInt32) (n : Nat) : Kl4 m w (n + 1) = Kl4 m w n ++ le4 (Jc0 (m.getD n 0) (w.getD n 0)) := by
 unfold Kl4
 rw [List.range_succ, List.flatMap_append]
 simp
theorem J38 (m w : List UInt32) : ∀ n, (Kl4 m w n).length = 4 * n
 | 0 => rfl
 | n + 1 => by
  rw [J9f, List.length_append, J38 m w n]
  show 4 * n + 4 = _
  omega
theorem K54 {X : Type} (fail : X) (ex : List UInt32 → Int → List UInt32 → List UInt8 → X) (v w : List UInt32) : ∀ (j m i : Nat), i + j = 16 → j ≤ m →
  Jsf 99 fail ex (m + 1) v i w (Kl4 v w i) = ex v (16 : Nat) w (Kl4 v w 16)
 | 0, m, i, hi, _ => by
  have e : i = 16 := by omega
  subst e
  rw [Jsf, Kb8]
  rw [Jab (ff (by omega))]
 | j + 1, 0, i, _, hm => absurd hm (by omega)
 | j + 1, m + 1, i, hi, hm => by
  have ih := K54 fail ex v w j m (i + 1) (by omega) (by omega)
  have hl := J38 v w (i + 1)
  rw [Jsf, Kb8]
  have es := J9f v w i
  unfold le4 at es
  simp only [Int.toNat_natCast, ← es]
  rw [Jaa (tt (by omega)), Jaa (tt2 (by omega) (by omega)), Jaa (tt2 (by omega) (by omega)), Jaa (Jea (by omega)), Jao (by omega) (by omega)]
  exact ih
theorem Kt8 (key : List UInt8) (nonce counter : Int) (h : Kq6 key nonce counter = true) : ∃ F, ∀ {X : Type} (fail : X) (ret : List UInt8 → X), cBlk F key nonce counter fail ret = ret (Kq7 key nonce counter) := ⟨99, fun fail ret => by
 unfold cBlk
 rw [Jaa (c := J10 key nonce counter) h]
 refine (K53 fail _ _ _ 10 98 0 rfl (by omega)).trans ?_
 exact K54 fail _ _ _ 16 98 0 rfl (by omega)⟩
theorem Kr0 (key : List UInt8) (nonce counter : Int) : (K2h key nonce counter).length = 64 := J38 _ _ 16
theorem Khh (n : Int) : ∃ F, ∀ {X : Type} (fail : X) (ret : Bool → X), Kyd F n fail ret = ret (Jn8 n) := ⟨1, fun fail ret => by
 unfold Kyd Jn8 inR
 by_cases h : n ≥ 0
 ·rw [Jaa (tt h)]; congr 1
  by_cases k : n ≤ 9007199254740991
  ·rw [tt k, tt ⟨h, k⟩]
  ·rw [ff k, ff (fun x => k x.2)]
 ·rw [Jab (ff h), ff (fun x => h x.1)]⟩
end Go.AI
