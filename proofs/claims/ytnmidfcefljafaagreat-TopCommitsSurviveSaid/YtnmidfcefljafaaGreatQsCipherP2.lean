/- Texts of the proof, joined: CipherP2. Names of our own are shortened by program; the long ones stand in wip/. -/
import Derived.Test.YtnmidfcefljafaaGreatQsCipherP
namespace Go.AI
open Go
theorem Kqb {x : UInt32} {k : Nat} (h : k = 7 ∨ k = 8 ∨ k = 12 ∨ k = 16) : Jxz x (k : Int) = true := by
 rcases h with rfl | rfl | rfl | rfl <;> rfl
abbrev QT := List (Int × Int × Int × Int × Unit)
theorem Kbm {X : Type} (F : Nat) (fail : X) (ex : QT → Int → Int → Int → List UInt32 → List UInt32 → X) (s30 : QT) (p q : Int) (w w1 : List UInt32) (m j t f o k : Nat)
  (hs : s30.getD j (0, 0, 0, 0, ()) = ((t : Int), (f : Int), (o : Int), (k : Int), ())) (hj : j < 4) (ht : t < 16) (hf : f < 16) (ho : o < 16) (hk : k = 7 ∨ k = 8 ∨ k = 12 ∨ k = 16) :
  Jjr F fail ex (m + 1) s30 j p q w w1 = Jjr F fail ex m s30 (j + 1 : Nat) p q (stp w t f o k) w1 := by
 rw [Jjr, Kas, Int.toNat_natCast, hs]
 simp only [Int.toNat_natCast]
 rw [Jaa (tt (by omega)), Jaa (tt2 (by omega) (by omega)), Jaa (tt2 (by omega) (by omega)), Jaa (tt2 (by omega) (by omega)), Jaa (tt2 (by omega) (by omega)), Jaa (tt2 (by omega) (by omega)), Jaa (tt2 (by omega) (by omega)), Jaa (Kqb hk), Jaa (tt2 (by omega) (by omega)), Jar (by omega) (by omega)]
 rfl
theorem q3 {X : Type} (F : Nat) (fail : X) (ex : QT → Int → Int → Int → List UInt32 → List UInt32 → X) (p q : Int) (w w1 : List UInt32) (m a b c d : Nat) (ha : a < 16) (hb : b < 16) (hc : c < 16) (hd : d < 16) :
  ∃ s30 j, Jjr F fail ex (m + 5) [((a : Int), (b : Int), (d : Int), 16, ()), ((c : Int), (d : Int), (b : Int), 12, ()), ((a : Int), (b : Int), (d : Int), 8, ()), ((c : Int), (d : Int), (b : Int), 7, ())] 0 p q w w1 = ex s30 j p q (qrt w a b c d) w1 := by
 refine ⟨[((a : Int), (b : Int), (d : Int), 16, ()), ((c : Int), (d : Int), (b : Int), 12, ()), ((a : Int), (b : Int), (d : Int), 8, ()), ((c : Int), (d : Int), (b : Int), 7, ())], (4 : Nat), ?_⟩
 show Jjr F fail ex (m + 5) _ ((0 : Nat) : Int) p q w w1 = _
 rw [Kbm F fail ex _ p q w w1 _ 0 a b d 16 rfl (by omega) ha hb hd (by omega), Kbm F fail ex _ p q _ w1 _ 1 c d b 12 rfl (by omega) hc hd hb (by omega), Kbm F fail ex _ p q _ w1 _ 2 a b d 8 rfl (by omega) ha hb hd (by omega), Kbm F fail ex _ p q _ w1 _ 3 c d b 7 rfl (by omega) hc hd hb (by omega)]
 rw [Jjr, Kas]
 rw [Jab (ff (by omega))]
 rfl
theorem Kbn {X : Type} (F : Nat) (fail : X) (ex : QT → Int → Int → Int → List UInt32 → List UInt32 → X) (s30 : QT) (p q : Int) (w w1 : List UInt32) (m j t f o k : Nat)
  (hs : s30.getD j (0, 0, 0, 0, ()) = ((t : Int), (f : Int), (o : Int), (k : Int), ())) (hj : j < 4) (ht : t < 16) (hf : f < 16) (ho : o < 16) (hk : k = 7 ∨ k = 8 ∨ k = 12 ∨ k = 16) :
  Jjs F fail ex (m + 1) s30 j p q w w1 = Jjs F fail ex m s30 (j + 1 : Nat) p q (stp w t f o k) w1 := by
 rw [Jjs, Kau, Int.toNat_natCast, hs]
 simp only [Int.toNat_natCast]
 rw [Jaa (tt (by omega)), Jaa (tt2 (by omega) (by omega)), Jaa (tt2 (by omega) (by omega)), Jaa (tt2 (by omega) (by omega)), Jaa (tt2 (by omega) (by omega)), Jaa (tt2 (by omega) (by omega)), Jaa (tt2 (by omega) (by omega)), Jaa (Kqb hk), Jaa (tt2 (by omega) (by omega)), Jar (by omega) (by omega)]
 rfl
theorem q5 {X : Type} (F : Nat) (fail : X) (ex : QT → Int → Int → Int → List UInt32 → List UInt32 → X) (p q : Int) (w w1 : List UInt32) (m a b c d : Nat) (ha : a < 16) (hb : b < 16) (hc : c < 16) (hd : d < 16) :
  ∃ s30 j, Jjs F fail ex (m + 5) [((a : Int), (b : Int), (d : Int), 16, ()), ((c : Int), (d : Int), (b : Int), 12, ()), ((a : Int), (b : Int), (d : Int), 8, ()), ((c : Int), (d : Int), (b : Int), 7, ())] 0 p q w w1 = ex s30 j p q (qrt w a b c d) w1 := by
 refine ⟨[((a : Int), (b : Int), (d : Int), 16, ()), ((c : Int), (d : Int), (b : Int), 12, ()), ((a : Int), (b : Int), (d : Int), 8, ()), ((c : Int), (d : Int), (b : Int), 7, ())], (4 : Nat), ?_⟩
 show Jjs F fail ex (m + 5) _ ((0 : Nat) : Int) p q w w1 = _
 rw [Kbn F fail ex _ p q w w1 _ 0 a b d 16 rfl (by omega) ha hb hd (by omega), Kbn F fail ex _ p q _ w1 _ 1 c d b 12 rfl (by omega) hc hd hb (by omega), Kbn F fail ex _ p q _ w1 _ 2 a b d 8 rfl (by omega) ha hb hd (by omega), Kbn F fail ex _ p q _ w1 _ 3 c d b 7 rfl (by omega) hc hd hb (by omega)]
 rw [Jjs, Kau]
 rw [Jab (ff (by omega))]
 rfl
theorem K7j (c i : Nat) (a : Int) (ha : a = c) (h : c ≤ 16) (hi : i < 16) : Jat a (i : Int) = ((c + i : Nat) : Int) := by
 subst ha
 rw [Jar (by omega) (by omega)]; omega
theorem rem4 (i c : Nat) (a : Int) (ha : a = c) (h : c ≤ 16) (hi : i < 16) : Jhk (Jat (i : Int) a) 4 = (((i + c) % 4 : Nat) : Int) := by
 subst ha
 rw [Jar (by omega) (by omega), J98 (by omega)]; omega
theorem K34 {X : Type} (fail : X) (ex : Int → Int → List UInt32 → List UInt32 → X) (p : Int) (v w : List UInt32) : ∀ (j m i : Nat), i + j = 4 → j ≤ m →
  Jn7 99 fail ex (m + 1) p i (K7f v i) w = ex p (4 : Nat) (K7f v 4) w
 | 0, m, i, hi, _ => by
  have e : i = 4 := by omega
  subst e
  rw [Jn7, Kat]
  rw [Jab (ff (by omega))]
 | j + 1, 0, i, _, hm => absurd hm (by omega)
 | j + 1, m + 1, i, hi, hm => by
  have ih := K34 fail ex p v w j m (i + 1) (by omega) (by omega)
  obtain ⟨s, k, e⟩ := q3 99 fail (fun (_ : QT) (_ : Int) (s71 : Int) (s91 : Int) (w1 : List UInt32) (w2 : List UInt32) => Jn7 99 fail ex (m + 1) s71 (Jat s91 (1 : Int)) w1 w2) p i (K7f v i) w 94 i (4 + i) (8 + i) (12 + i) (by omega) (by omega) (by omega) (by omega)
  rw [Jn7, Kat]
  rw [Jaa (tt (by omega)), K7j 4 i 4 rfl (by omega) (by omega), K7j 8 i 8 rfl (by omega) (by omega), K7j 12 i 12 rfl (by omega) (by omega)]
  refine e.trans ?_
  rw [Jar (by omega) (by omega)]
  exact ih
theorem K35 {X : Type} (fail : X) (ex : Int → Int → List UInt32 → List UInt32 → X) (p : Int) (v w : List UInt32) : ∀ (j m i : Nat), i + j = 4 → j ≤ m →
  Jn8 99 fail ex (m + 1) p i (K8c v i) w = ex p (4 : Nat) (K8c v 4) w
 | 0, m, i, hi, _ => by
  have e : i = 4 := by omega
  subst e
  rw [Jn8, Kav]
  rw [Jab (ff (by omega))]
 | j + 1, 0, i, _, hm => absurd hm (by omega)
 | j + 1, m + 1, i, hi, hm => by
  have ih := K35 fail ex p v w j m (i + 1) (by omega) (by omega)
  obtain ⟨s, k, e⟩ := q5 99 fail (fun (_ : QT) (_ : Int) (s71 : Int) (s91 : Int) (w1 : List UInt32) (w2 : List UInt32) => Jn8 99 fail ex (m + 1) s71 (Jat s91 (1 : Int)) w1 w2) p i (K8c v i) w 94 i (4 + (i + 1) % 4) (8 + (i + 2) % 4) (12 + (i + 3) % 4) (by omega) (by omega) (by omega) (by omega)
  rw [Jn8, Kav]
  rw [Jaa (tt (by omega)), rem4 i 1 1 rfl (by omega) (by omega), rem4 i 2 2 rfl (by omega) (by omega), rem4 i 3 3 rfl (by omega) (by omega), K7j 4 ((i + 1) % 4) 4 rfl (by omega) (by omega), K7j 8 ((i + 2) % 4) 8 rfl (by omega) (by omega), K7j 12 ((i + 3) % 4) 12 rfl (by omega) (by omega)]
  refine e.trans ?_
  rw [Jar (by omega) (by omega)]
  exact ih
theorem K36 {X : Type} (fail : X) (ex : Int → List UInt32 → List UInt32 → X) (v w : List UInt32) : ∀ (j m i : Nat), i + j = 10 → j ≤ m →
  Jr0 99 fail ex (m + 1) i (K7g v i) w = ex (10 : Nat) (K7g v 10) w
 | 0, m, i, hi, _ => by
  have e : i = 10 := by omega
  subst e
  rw [Jr0, Kaw]
  rw [Jab (ff (by omega))]
 | j + 1, 0, i, _, hm => absurd hm (by omega)
 | j + 1, m + 1, i, hi, hm => by
  have ih := K36 fail ex v w j m (i + 1) (by omega) (by omega)
  rw [Jr0, Kaw]
  rw [Jaa (tt (by omega))]
  refine (K34 fail _ i (K7g v i) w 4 98 0 rfl (by omega)).trans ?_
  refine (K35 fail _ i (K7f (K7g v i) 4) w 4 98 0 rfl (by omega)).trans ?_
  rw [Jar (by omega) (by omega)]
  exact ih
theorem J77 (m w : List UInt32) (n : Nat) : Kkt m w (n + 1) = Kkt m w n ++ le4 (Jcv (m.getD n 0) (w.getD n 0)) := by
 unfold Kkt
 rw [List.range_succ, List.flatMap_append]
 simp
theorem J27 (m w : List UInt32) : ∀ n, (Kkt m w n).length = 4 * n
 | 0 => rfl
 | n + 1 => by
  rw [J77, List.length_append, J27 m w n]
  show 4 * n + 4 = _
  omega
theorem K37 {X : Type} (fail : X) (ex : List UInt32 → Int → List UInt32 → List UInt8 → X) (v w : List UInt32) : ∀ (j m i : Nat), i + j = 16 → j ≤ m →
  Jr1 99 fail ex (m + 1) v i w (Kkt v w i) = ex v (16 : Nat) w (Kkt v w 16)
 | 0, m, i, hi, _ => by
  have e : i = 16 := by omega
  subst e
  rw [Jr1, Kax]
  rw [Jab (ff (by omega))]
 | j + 1, 0, i, _, hm => absurd hm (by omega)
 | j + 1, m + 1, i, hi, hm => by
  have ih := K37 fail ex v w j m (i + 1) (by omega) (by omega)
  have hl := J27 v w (i + 1)
  rw [Jr1, Kax]
  have es := J77 v w i
  unfold le4 at es
  simp only [Int.toNat_natCast, ← es]
  rw [Jaa (tt (by omega)), Jaa (tt2 (by omega) (by omega)), Jaa (tt2 (by omega) (by omega)), Jaa (Jds (by omega)), Jar (by omega) (by omega)]
  exact ih
theorem Ksc (key : List UInt8) (nonce counter : Int) (h : Kph key nonce counter = true) : ∃ F, ∀ {X : Type} (fail : X) (ret : List UInt8 → X), cBlk F key nonce counter fail ret = ret (Kpi key nonce counter) := ⟨99, fun fail ret => by
 unfold cBlk
 rw [Jaa (c := J08 key nonce counter) h]
 refine (K36 fail _ _ _ 10 98 0 rfl (by omega)).trans ?_
 exact K37 fail _ _ _ 16 98 0 rfl (by omega)⟩
theorem Kqc (key : List UInt8) (nonce counter : Int) : (K0e key nonce counter).length = 64 := J27 _ _ 16
theorem Kgc (n : Int) : ∃ F, ∀ {X : Type} (fail : X) (ret : Bool → X), Kwh F n fail ret = ret (Jnu n) := ⟨1, fun fail ret => by
 unfold Kwh Jnu inR
 by_cases h : n ≥ 0
 ·rw [Jaa (tt h)]; congr 1
  by_cases k : n ≤ 9007199254740991
  ·rw [tt k, tt ⟨h, k⟩]
  ·rw [ff k, ff (fun x => k x.2)]
 ·rw [Jab (ff h), ff (fun x => h x.1)]⟩
end Go.AI
