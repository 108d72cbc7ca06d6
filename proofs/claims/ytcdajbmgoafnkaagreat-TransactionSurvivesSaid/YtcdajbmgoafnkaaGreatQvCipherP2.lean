/- Texts of the proof, joined: CipherP2. Names of our own are shortened by program; the long ones stand in wip/. -/
import Derived.Test.YtcdajbmgoafnkaaGreatQvCipherP
namespace Go.AI
open Go
theorem Kq4 {x : UInt32} {k : Nat} (h : k = 7 ∨ k = 8 ∨ k = 12 ∨ k = 16) : Jyk x (k : Int) = true := by
 rcases h with rfl | rfl | rfl | rfl <;> rfl
abbrev QT := List (Int × Int × Int × Int × Unit)
theorem Kch {X : Type} (F : Nat) (fail : X) (ex : QT → Int → Int → Int → List UInt32 → List UInt32 → X) (s30 : QT) (p q : Int) (w w1 : List UInt32) (m j t f o k : Nat)
  (hs : s30.getD j (0, 0, 0, 0, ()) = ((t : Int), (f : Int), (o : Int), (k : Int), ())) (hj : j < 4) (ht : t < 16) (hf : f < 16) (ho : o < 16) (hk : k = 7 ∨ k = 8 ∨ k = 12 ∨ k = 16) :
  Jj8 F fail ex (m + 1) s30 j p q w w1 = Jj8 F fail ex m s30 (j + 1 : Nat) p q (stp w t f o k) w1 := by
 rw [Jj8, Kbn, Int.toNat_natCast, hs]
 simp only [Int.toNat_natCast]
 rw [Jaa (tt (by omega)), Jaa (tt2 (by omega) (by omega)), Jaa (tt2 (by omega) (by omega)), Jaa (tt2 (by omega) (by omega)), Jaa (tt2 (by omega) (by omega)), Jaa (tt2 (by omega) (by omega)), Jaa (tt2 (by omega) (by omega)), Jaa (Kq4 hk), Jaa (tt2 (by omega) (by omega)), Jam (by omega) (by omega)]
 rfl
theorem q3 {X : Type} (F : Nat) (fail : X) (ex : QT → Int → Int → Int → List UInt32 → List UInt32 → X) (p q : Int) (w w1 : List UInt32) (m a b c d : Nat) (ha : a < 16) (hb : b < 16) (hc : c < 16) (hd : d < 16) :
  ∃ s30 j, Jj8 F fail ex (m + 5) [((a : Int), (b : Int), (d : Int), 16, ()), ((c : Int), (d : Int), (b : Int), 12, ()), ((a : Int), (b : Int), (d : Int), 8, ()), ((c : Int), (d : Int), (b : Int), 7, ())] 0 p q w w1 = ex s30 j p q (qrt w a b c d) w1 := by
 refine ⟨[((a : Int), (b : Int), (d : Int), 16, ()), ((c : Int), (d : Int), (b : Int), 12, ()), ((a : Int), (b : Int), (d : Int), 8, ()), ((c : Int), (d : Int), (b : Int), 7, ())], (4 : Nat), ?_⟩
 show Jj8 F fail ex (m + 5) _ ((0 : Nat) : Int) p q w w1 = _
 rw [Kch F fail ex _ p q w w1 _ 0 a b d 16 rfl (by omega) ha hb hd (by omega), Kch F fail ex _ p q _ w1 _ 1 c d b 12 rfl (by omega) hc hd hb (by omega), Kch F fail ex _ p q _ w1 _ 2 a b d 8 rfl (by omega) ha hb hd (by omega), Kch F fail ex _ p q _ w1 _ 3 c d b 7 rfl (by omega) hc hd hb (by omega)]
 rw [Jj8, Kbn]
 rw [Jab (ff (by omega))]
 rfl
theorem Kci {X : Type} (F : Nat) (fail : X) (ex : QT → Int → Int → Int → List UInt32 → List UInt32 → X) (s30 : QT) (p q : Int) (w w1 : List UInt32) (m j t f o k : Nat)
  (hs : s30.getD j (0, 0, 0, 0, ()) = ((t : Int), (f : Int), (o : Int), (k : Int), ())) (hj : j < 4) (ht : t < 16) (hf : f < 16) (ho : o < 16) (hk : k = 7 ∨ k = 8 ∨ k = 12 ∨ k = 16) :
  Jj9 F fail ex (m + 1) s30 j p q w w1 = Jj9 F fail ex m s30 (j + 1 : Nat) p q (stp w t f o k) w1 := by
 rw [Jj9, Kbp, Int.toNat_natCast, hs]
 simp only [Int.toNat_natCast]
 rw [Jaa (tt (by omega)), Jaa (tt2 (by omega) (by omega)), Jaa (tt2 (by omega) (by omega)), Jaa (tt2 (by omega) (by omega)), Jaa (tt2 (by omega) (by omega)), Jaa (tt2 (by omega) (by omega)), Jaa (tt2 (by omega) (by omega)), Jaa (Kq4 hk), Jaa (tt2 (by omega) (by omega)), Jam (by omega) (by omega)]
 rfl
theorem q5 {X : Type} (F : Nat) (fail : X) (ex : QT → Int → Int → Int → List UInt32 → List UInt32 → X) (p q : Int) (w w1 : List UInt32) (m a b c d : Nat) (ha : a < 16) (hb : b < 16) (hc : c < 16) (hd : d < 16) :
  ∃ s30 j, Jj9 F fail ex (m + 5) [((a : Int), (b : Int), (d : Int), 16, ()), ((c : Int), (d : Int), (b : Int), 12, ()), ((a : Int), (b : Int), (d : Int), 8, ()), ((c : Int), (d : Int), (b : Int), 7, ())] 0 p q w w1 = ex s30 j p q (qrt w a b c d) w1 := by
 refine ⟨[((a : Int), (b : Int), (d : Int), 16, ()), ((c : Int), (d : Int), (b : Int), 12, ()), ((a : Int), (b : Int), (d : Int), 8, ()), ((c : Int), (d : Int), (b : Int), 7, ())], (4 : Nat), ?_⟩
 show Jj9 F fail ex (m + 5) _ ((0 : Nat) : Int) p q w w1 = _
 rw [Kci F fail ex _ p q w w1 _ 0 a b d 16 rfl (by omega) ha hb hd (by omega), Kci F fail ex _ p q _ w1 _ 1 c d b 12 rfl (by omega) hc hd hb (by omega), Kci F fail ex _ p q _ w1 _ 2 a b d 8 rfl (by omega) ha hb hd (by omega), Kci F fail ex _ p q _ w1 _ 3 c d b 7 rfl (by omega) hc hd hb (by omega)]
 rw [Jj9, Kbp]
 rw [Jab (ff (by omega))]
 rfl
theorem K8w (c i : Nat) (a : Int) (ha : a = c) (h : c ≤ 16) (hi : i < 16) : Jay a (i : Int) = ((c + i : Nat) : Int) := by
 subst ha
 rw [Jam (by omega) (by omega)]; omega
theorem rem4 (i c : Nat) (a : Int) (ha : a = c) (h : c ≤ 16) (hi : i < 16) : Jgg (Jay (i : Int) a) 4 = (((i + c) % 4 : Nat) : Int) := by
 subst ha
 rw [Jam (by omega) (by omega), J3f (by omega)]; omega
theorem K5m {X : Type} (fail : X) (ex : Int → Int → List UInt32 → List UInt32 → X) (p : Int) (v w : List UInt32) : ∀ (j m i : Nat), i + j = 4 → j ≤ m →
  Jor 99 fail ex (m + 1) p i (K8t v i) w = ex p (4 : Nat) (K8t v 4) w
 | 0, m, i, hi, _ => by
  have e : i = 4 := by omega
  subst e
  rw [Jor, Kbo]
  rw [Jab (ff (by omega))]
 | j + 1, 0, i, _, hm => absurd hm (by omega)
 | j + 1, m + 1, i, hi, hm => by
  have ih := K5m fail ex p v w j m (i + 1) (by omega) (by omega)
  obtain ⟨s, k, e⟩ := q3 99 fail (fun (_ : QT) (_ : Int) (s71 : Int) (s91 : Int) (w1 : List UInt32) (w2 : List UInt32) => Jor 99 fail ex (m + 1) s71 (Jay s91 (1 : Int)) w1 w2) p i (K8t v i) w 94 i (4 + i) (8 + i) (12 + i) (by omega) (by omega) (by omega) (by omega)
  rw [Jor, Kbo]
  rw [Jaa (tt (by omega)), K8w 4 i 4 rfl (by omega) (by omega), K8w 8 i 8 rfl (by omega) (by omega), K8w 12 i 12 rfl (by omega) (by omega)]
  refine e.trans ?_
  rw [Jam (by omega) (by omega)]
  exact ih
theorem K5n {X : Type} (fail : X) (ex : Int → Int → List UInt32 → List UInt32 → X) (p : Int) (v w : List UInt32) : ∀ (j m i : Nat), i + j = 4 → j ≤ m →
  Jos 99 fail ex (m + 1) p i (K9p v i) w = ex p (4 : Nat) (K9p v 4) w
 | 0, m, i, hi, _ => by
  have e : i = 4 := by omega
  subst e
  rw [Jos, Kbq]
  rw [Jab (ff (by omega))]
 | j + 1, 0, i, _, hm => absurd hm (by omega)
 | j + 1, m + 1, i, hi, hm => by
  have ih := K5n fail ex p v w j m (i + 1) (by omega) (by omega)
  obtain ⟨s, k, e⟩ := q5 99 fail (fun (_ : QT) (_ : Int) (s71 : Int) (s91 : Int) (w1 : List UInt32) (w2 : List UInt32) => Jos 99 fail ex (m + 1) s71 (Jay s91 (1 : Int)) w1 w2) p i (K9p v i) w 94 i (4 + (i + 1) % 4) (8 + (i + 2) % 4) (12 + (i + 3) % 4) (by omega) (by omega) (by omega) (by omega)
  rw [Jos, Kbq]
  rw [Jaa (tt (by omega)), rem4 i 1 1 rfl (by omega) (by omega), rem4 i 2 2 rfl (by omega) (by omega), rem4 i 3 3 rfl (by omega) (by omega), K8w 4 ((i + 1) % 4) 4 rfl (by omega) (by omega), K8w 8 ((i + 2) % 4) 8 rfl (by omega) (by omega), K8w 12 ((i + 3) % 4) 12 rfl (by omega) (by omega)]
  refine e.trans ?_
  rw [Jam (by omega) (by omega)]
  exact ih
theorem K5o {X : Type} (fail : X) (ex : Int → List UInt32 → List UInt32 → X) (v w : List UInt32) : ∀ (j m i : Nat), i + j = 10 → j ≤ m →
  Jsj 99 fail ex (m + 1) i (K8u v i) w = ex (10 : Nat) (K8u v 10) w
 | 0, m, i, hi, _ => by
  have e : i = 10 := by omega
  subst e
  rw [Jsj, Kbr]
  rw [Jab (ff (by omega))]
 | j + 1, 0, i, _, hm => absurd hm (by omega)
 | j + 1, m + 1, i, hi, hm => by
  have ih := K5o fail ex v w j m (i + 1) (by omega) (by omega)
  rw [Jsj, Kbr]
  rw [Jaa (tt (by omega))]
  refine (K5m fail _ i (K8u v i) w 4 98 0 rfl (by omega)).trans ?_
  refine (K5n fail _ i (K8t (K8u v i) 4) w 4 98 0 rfl (by omega)).trans ?_
  rw [Jam (by omega) (by omega)]
  exact ih
theorem J82 (m w : List UInt32) (n : Nat) : Kli m w (n + 1) = Kli m w n ++ le4 (Jdb (m.getD n 0) (w.getD n 0)) := by
 unfold Kli
 rw [List.range_succ, List.flatMap_append]
 simp
theorem J3x (m w : List UInt32) : ∀ n, (Kli m w n).length = 4 * n
 | 0 => rfl
 | n + 1 => by
  rw [J82, List.length_append, J3x m w n]
  show 4 * n + 4 = _
  omega
theorem K5p {X : Type} (fail : X) (ex : List UInt32 → Int → List UInt32 → List UInt8 → X) (v w : List UInt32) : ∀ (j m i : Nat), i + j = 16 → j ≤ m →
  Jsk 99 fail ex (m + 1) v i w (Kli v w i) = ex v (16 : Nat) w (Kli v w 16)
 | 0, m, i, hi, _ => by
  have e : i = 16 := by omega
  subst e
  rw [Jsk, Kbs]
  rw [Jab (ff (by omega))]
 | j + 1, 0, i, _, hm => absurd hm (by omega)
 | j + 1, m + 1, i, hi, hm => by
  have ih := K5p fail ex v w j m (i + 1) (by omega) (by omega)
  have hl := J3x v w (i + 1)
  rw [Jsk, Kbs]
  have es := J82 v w i
  unfold le4 at es
  simp only [Int.toNat_natCast, ← es]
  rw [Jaa (tt (by omega)), Jaa (tt2 (by omega) (by omega)), Jaa (tt2 (by omega) (by omega)), Jaa (Jem (by omega)), Jam (by omega) (by omega)]
  exact ih
theorem Ks9 (key : List UInt8) (nonce counter : Int) (h : Kp8 key nonce counter = true) : ∃ F, ∀ {X : Type} (fail : X) (ret : List UInt8 → X), cBlk F key nonce counter fail ret = ret (Kp9 key nonce counter) := ⟨99, fun fail ret => by
 unfold cBlk
 rw [Jaa (c := J1t key nonce counter) h]
 refine (K5o fail _ _ _ 10 98 0 rfl (by omega)).trans ?_
 exact K5p fail _ _ _ 16 98 0 rfl (by omega)⟩
theorem Kq5 (key : List UInt8) (nonce counter : Int) : (K1v key nonce counter).length = 64 := J3x _ _ 16
theorem Kg1 (n : Int) : ∃ F, ∀ {X : Type} (fail : X) (ret : Bool → X), Kxj F n fail ret = ret (Jod n) := ⟨1, fun fail ret => by
 unfold Kxj Jod inR
 by_cases h : n ≥ 0
 ·rw [Jaa (tt h)]; congr 1
  by_cases k : n ≤ 9007199254740991
  ·rw [tt k, tt ⟨h, k⟩]
  ·rw [ff k, ff (fun x => k x.2)]
 ·rw [Jab (ff h), ff (fun x => h x.1)]⟩
end Go.AI
