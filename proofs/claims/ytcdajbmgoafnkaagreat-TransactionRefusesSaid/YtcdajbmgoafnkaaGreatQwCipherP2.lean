/- Texts of the proof, joined: CipherP2. Names of our own are shortened by program; the long ones stand in wip/. -/
import Derived.Test.YtcdajbmgoafnkaaGreatQwCipherP
namespace Go.AI
open Go
theorem Jgj (w : List UInt32) (t f o k : Nat) : (stp w t f o k).length = w.length := by
 unfold stp; rw [List.length_set, List.length_set]
theorem K57 (w : List UInt32) (a b c d : Nat) : (qrt w a b c d).length = w.length := by
 unfold qrt; rw [Jgj, Jgj, Jgj, Jgj]
theorem J43 (w : List UInt32) : ∀ i, (K4a w i).length = w.length
 | 0 => rfl
 | i + 1 => (K57 _ _ _ _ _).trans (J43 w i)
theorem Kgv (w : List UInt32) : ∀ i, (Qaz w i).length = w.length
 | 0 => rfl
 | i + 1 => (K57 _ _ _ _ _).trans (Kgv w i)
theorem J44 (w : List UInt32) : ∀ n, (K4b w n).length = w.length
 | 0 => rfl
 | n + 1 => (Kgv _ _).trans ((J43 _ _).trans (J44 w n))
theorem Kxu {x : UInt32} {k : Nat} (h : k = 7 ∨ k = 8 ∨ k = 12 ∨ k = 16) : J0t x (k : Int) = true := by
 rcases h with rfl | rfl | rfl | rfl <;> rfl
abbrev QT := List (Int × Int × Int × Int × Unit)
theorem Kgw {X : Type} (F : Nat) (fail : X) (ex : QT → Int → Int → Int → List UInt32 → List UInt32 → X) (s30 : QT) (p q : Int) (w w1 : List UInt32) (m j t f o k : Nat)
  (hs : s30.getD j (0, 0, 0, 0, ()) = ((t : Int), (f : Int), (o : Int), (k : Int), ())) (hj : j < 4) (ht : t < 16) (hf : f < 16) (ho : o < 16) (hk : k = 7 ∨ k = 8 ∨ k = 12 ∨ k = 16) :
  Jky F fail ex (m + 1) s30 j p q w w1 = Jky F fail ex m s30 (j + 1 : Nat) p q (stp w t f o k) w1 := by
 rw [Jky, Kf1, Int.toNat_natCast, hs]
 simp only [Int.toNat_natCast]
 rw [Jaa (tt (by omega)), Jaa (tt2 (by omega) (by omega)), Jaa (tt2 (by omega) (by omega)), Jaa (tt2 (by omega) (by omega)), Jaa (tt2 (by omega) (by omega)), Jaa (tt2 (by omega) (by omega)), Jaa (tt2 (by omega) (by omega)), Jaa (Kxu hk), Jaa (tt2 (by omega) (by omega)), Jak (by omega) (by omega)]
 rfl
theorem q3 {X : Type} (F : Nat) (fail : X) (ex : QT → Int → Int → Int → List UInt32 → List UInt32 → X) (p q : Int) (w w1 : List UInt32) (m a b c d : Nat) (ha : a < 16) (hb : b < 16) (hc : c < 16) (hd : d < 16) :
  ∃ s30 j, Jky F fail ex (m + 5) [((a : Int), (b : Int), (d : Int), 16, ()), ((c : Int), (d : Int), (b : Int), 12, ()), ((a : Int), (b : Int), (d : Int), 8, ()), ((c : Int), (d : Int), (b : Int), 7, ())] 0 p q w w1 = ex s30 j p q (qrt w a b c d) w1 := by
 refine ⟨[((a : Int), (b : Int), (d : Int), 16, ()), ((c : Int), (d : Int), (b : Int), 12, ()), ((a : Int), (b : Int), (d : Int), 8, ()), ((c : Int), (d : Int), (b : Int), 7, ())], (4 : Nat), ?_⟩
 show Jky F fail ex (m + 5) _ ((0 : Nat) : Int) p q w w1 = _
 rw [Kgw F fail ex _ p q w w1 _ 0 a b d 16 rfl (by omega) ha hb hd (by omega), Kgw F fail ex _ p q _ w1 _ 1 c d b 12 rfl (by omega) hc hd hb (by omega), Kgw F fail ex _ p q _ w1 _ 2 a b d 8 rfl (by omega) ha hb hd (by omega), Kgw F fail ex _ p q _ w1 _ 3 c d b 7 rfl (by omega) hc hd hb (by omega)]
 rw [Jky, Kf1]
 rw [Jab (ff (by omega))]
 rfl
theorem Kgx {X : Type} (F : Nat) (fail : X) (ex : QT → Int → Int → Int → List UInt32 → List UInt32 → X) (s30 : QT) (p q : Int) (w w1 : List UInt32) (m j t f o k : Nat)
  (hs : s30.getD j (0, 0, 0, 0, ()) = ((t : Int), (f : Int), (o : Int), (k : Int), ())) (hj : j < 4) (ht : t < 16) (hf : f < 16) (ho : o < 16) (hk : k = 7 ∨ k = 8 ∨ k = 12 ∨ k = 16) :
  Jkz F fail ex (m + 1) s30 j p q w w1 = Jkz F fail ex m s30 (j + 1 : Nat) p q (stp w t f o k) w1 := by
 rw [Jkz, Kf3, Int.toNat_natCast, hs]
 simp only [Int.toNat_natCast]
 rw [Jaa (tt (by omega)), Jaa (tt2 (by omega) (by omega)), Jaa (tt2 (by omega) (by omega)), Jaa (tt2 (by omega) (by omega)), Jaa (tt2 (by omega) (by omega)), Jaa (tt2 (by omega) (by omega)), Jaa (tt2 (by omega) (by omega)), Jaa (Kxu hk), Jaa (tt2 (by omega) (by omega)), Jak (by omega) (by omega)]
 rfl
theorem q5 {X : Type} (F : Nat) (fail : X) (ex : QT → Int → Int → Int → List UInt32 → List UInt32 → X) (p q : Int) (w w1 : List UInt32) (m a b c d : Nat) (ha : a < 16) (hb : b < 16) (hc : c < 16) (hd : d < 16) :
  ∃ s30 j, Jkz F fail ex (m + 5) [((a : Int), (b : Int), (d : Int), 16, ()), ((c : Int), (d : Int), (b : Int), 12, ()), ((a : Int), (b : Int), (d : Int), 8, ()), ((c : Int), (d : Int), (b : Int), 7, ())] 0 p q w w1 = ex s30 j p q (qrt w a b c d) w1 := by
 refine ⟨[((a : Int), (b : Int), (d : Int), 16, ()), ((c : Int), (d : Int), (b : Int), 12, ()), ((a : Int), (b : Int), (d : Int), 8, ()), ((c : Int), (d : Int), (b : Int), 7, ())], (4 : Nat), ?_⟩
 show Jkz F fail ex (m + 5) _ ((0 : Nat) : Int) p q w w1 = _
 rw [Kgx F fail ex _ p q w w1 _ 0 a b d 16 rfl (by omega) ha hb hd (by omega), Kgx F fail ex _ p q _ w1 _ 1 c d b 12 rfl (by omega) hc hd hb (by omega), Kgx F fail ex _ p q _ w1 _ 2 a b d 8 rfl (by omega) ha hb hd (by omega), Kgx F fail ex _ p q _ w1 _ 3 c d b 7 rfl (by omega) hc hd hb (by omega)]
 rw [Jkz, Kf3]
 rw [Jab (ff (by omega))]
 rfl
theorem K2a (c i : Nat) (a : Int) (ha : a = c) (h : c ≤ 16) (hi : i < 16) : Jag a (i : Int) = ((c + i : Nat) : Int) := by
 subst ha
 rw [Jak (by omega) (by omega)]; omega
theorem Qha (i c : Nat) (a : Int) (ha : a = c) (h : c ≤ 16) (hi : i < 16) : Jb8 (Jag (i : Int) a) 4 = (((i + c) % 4 : Nat) : Int) := by
 subst ha
 rw [Jak (by omega) (by omega), Jnu (by omega)]; omega
theorem Qdm {X : Type} (fail : X) (ex : Int → Int → List UInt32 → List UInt32 → X) (p : Int) (v w : List UInt32) : ∀ (j m i : Nat), i + j = 4 → j ≤ m →
  Jp2 99 fail ex (m + 1) p i (K4a v i) w = ex p (4 : Nat) (K4a v 4) w
 | 0, m, i, hi, _ => by
  have e : i = 4 := by omega
  subst e
  rw [Jp2, Kf2]
  rw [Jab (ff (by omega))]
 | j + 1, 0, i, _, hm => absurd hm (by omega)
 | j + 1, m + 1, i, hi, hm => by
  have ih := Qdm fail ex p v w j m (i + 1) (by omega) (by omega)
  obtain ⟨s, k, e⟩ := q3 99 fail (fun (_ : QT) (_ : Int) (s71 : Int) (s91 : Int) (w1 : List UInt32) (w2 : List UInt32) => Jp2 99 fail ex (m + 1) s71 (Jag s91 (1 : Int)) w1 w2) p i (K4a v i) w 94 i (4 + i) (8 + i) (12 + i) (by omega) (by omega) (by omega) (by omega)
  rw [Jp2, Kf2]
  rw [Jaa (tt (by omega)), K2a 4 i 4 rfl (by omega) (by omega), K2a 8 i 8 rfl (by omega) (by omega), K2a 12 i 12 rfl (by omega) (by omega)]
  refine e.trans ?_
  rw [Jak (by omega) (by omega)]
  exact ih
theorem Qdn {X : Type} (fail : X) (ex : Int → Int → List UInt32 → List UInt32 → X) (p : Int) (v w : List UInt32) : ∀ (j m i : Nat), i + j = 4 → j ≤ m →
  Jp3 99 fail ex (m + 1) p i (Qaz v i) w = ex p (4 : Nat) (Qaz v 4) w
 | 0, m, i, hi, _ => by
  have e : i = 4 := by omega
  subst e
  rw [Jp3, Kf4]
  rw [Jab (ff (by omega))]
 | j + 1, 0, i, _, hm => absurd hm (by omega)
 | j + 1, m + 1, i, hi, hm => by
  have ih := Qdn fail ex p v w j m (i + 1) (by omega) (by omega)
  obtain ⟨s, k, e⟩ := q5 99 fail (fun (_ : QT) (_ : Int) (s71 : Int) (s91 : Int) (w1 : List UInt32) (w2 : List UInt32) => Jp3 99 fail ex (m + 1) s71 (Jag s91 (1 : Int)) w1 w2) p i (Qaz v i) w 94 i (4 + (i + 1) % 4) (8 + (i + 2) % 4) (12 + (i + 3) % 4) (by omega) (by omega) (by omega) (by omega)
  rw [Jp3, Kf4]
  rw [Jaa (tt (by omega)), Qha i 1 1 rfl (by omega) (by omega), Qha i 2 2 rfl (by omega) (by omega), Qha i 3 3 rfl (by omega) (by omega), K2a 4 ((i + 1) % 4) 4 rfl (by omega) (by omega), K2a 8 ((i + 2) % 4) 8 rfl (by omega) (by omega), K2a 12 ((i + 3) % 4) 12 rfl (by omega) (by omega)]
  refine e.trans ?_
  rw [Jak (by omega) (by omega)]
  exact ih
theorem Qdo {X : Type} (fail : X) (ex : Int → List UInt32 → List UInt32 → X) (v w : List UInt32) : ∀ (j m i : Nat), i + j = 10 → j ≤ m →
  Jua 99 fail ex (m + 1) i (K4b v i) w = ex (10 : Nat) (K4b v 10) w
 | 0, m, i, hi, _ => by
  have e : i = 10 := by omega
  subst e
  rw [Jua, Kf5]
  rw [Jab (ff (by omega))]
 | j + 1, 0, i, _, hm => absurd hm (by omega)
 | j + 1, m + 1, i, hi, hm => by
  have ih := Qdo fail ex v w j m (i + 1) (by omega) (by omega)
  rw [Jua, Kf5]
  rw [Jaa (tt (by omega))]
  refine (Qdm fail _ i (K4b v i) w 4 98 0 rfl (by omega)).trans ?_
  refine (Qdn fail _ i (K4a (K4b v i) 4) w 4 98 0 rfl (by omega)).trans ?_
  rw [Jak (by omega) (by omega)]
  exact ih
theorem J08 (m w : List UInt32) (n : Nat) : Kfm m w (n + 1) = Kfm m w n ++ le4 (Jbf (m.getD n 0) (w.getD n 0)) := by
 unfold Kfm
 rw [List.range_succ, List.flatMap_append]
 simp
theorem Jy6 (m w : List UInt32) : ∀ n, (Kfm m w n).length = 4 * n
 | 0 => rfl
 | n + 1 => by
  rw [J08, List.length_append, Jy6 m w n]
  show 4 * n + 4 = _
  omega
theorem Qdp {X : Type} (fail : X) (ex : List UInt32 → Int → List UInt32 → List UInt8 → X) (v w : List UInt32) : ∀ (j m i : Nat), i + j = 16 → j ≤ m →
  Jub 99 fail ex (m + 1) v i w (Kfm v w i) = ex v (16 : Nat) w (Kfm v w 16)
 | 0, m, i, hi, _ => by
  have e : i = 16 := by omega
  subst e
  rw [Jub, Kf6]
  rw [Jab (ff (by omega))]
 | j + 1, 0, i, _, hm => absurd hm (by omega)
 | j + 1, m + 1, i, hi, hm => by
  have ih := Qdp fail ex v w j m (i + 1) (by omega) (by omega)
  have hl := Jy6 v w (i + 1)
  rw [Jub, Kf6]
  have es := J08 v w i
  unfold le4 at es
  simp only [Int.toNat_natCast, ← es]
  rw [Jaa (tt (by omega)), Jaa (tt2 (by omega) (by omega)), Jaa (tt2 (by omega) (by omega)), Jaa (Jcg (by omega)), Jak (by omega) (by omega)]
  exact ih
theorem Kz5 (key : List UInt8) (nonce counter : Int) (h : Kwz key nonce counter = true) : ∃ F, ∀ {X : Type} (fail : X) (ret : List UInt8 → X), cBlk F key nonce counter fail ret = ret (Kw0 key nonce counter) := ⟨99, fun fail ret => by
 unfold cBlk
 rw [Jaa (c := J4p key nonce counter) h]
 refine (Qdo fail _ _ _ 10 98 0 rfl (by omega)).trans ?_
 exact Qdp fail _ _ _ 16 98 0 rfl (by omega)⟩
theorem Kgy (key : List UInt8) (nonce counter : Int) : (Kre key nonce counter).length = 64 := Jy6 _ _ 16
theorem Klz (n : Int) : ∃ F, ∀ {X : Type} (fail : X) (ret : Bool → X), K4r F n fail ret = ret (Jpl n) := ⟨1, fun fail ret => by
 unfold K4r Jpl inR
 by_cases h : n ≥ 0
 ·rw [Jaa (tt h)]; congr 1
  by_cases k : n ≤ 9007199254740991
  ·rw [tt k, tt ⟨h, k⟩]
  ·rw [ff k, ff (fun x => k x.2)]
 ·rw [Jab (ff h), ff (fun x => h x.1)]⟩
theorem Kgz (n : Int) : ∃ F, ∀ {X : Type} (fail : X) (ret : Bool → X), Krr F n fail ret = ret (Jib n) := ⟨1, fun fail ret => by
 unfold Krr Jib inR
 by_cases h : n ≥ 0
 ·rw [Jaa (tt h)]; congr 1
  by_cases k : n ≤ 9007199254740991
  ·rw [tt k, tt ⟨h, k⟩]
  ·rw [ff k, ff (fun x => k x.2)]
 ·rw [Jab (ff h), ff (fun x => h x.1)]⟩
theorem Kz6 (nonce counter : Int) : (inR nonce = false ∧ Qc9 nonce counter = 2) ∨ (inR nonce = true ∧ counter < 0 ∧ Qc9 nonce counter = 2) ∨ (inR nonce = true ∧ ¬ counter < 0 ∧ counter > 4294967295 ∧ Qc9 nonce counter = 2) ∨ (inR nonce = true ∧ ¬ counter < 0 ∧ ¬ counter > 4294967295 ∧ Qc9 nonce counter = 0) := by
 unfold Qc9
 cases inR nonce with
 | false => exact .inl ⟨rfl, by rw [if_neg (fun h => by simp at h)]⟩
 | true =>
  refine .inr ?_
  by_cases h1 : counter < 0
  ·exact .inl ⟨rfl, h1, by rw [if_neg (by omega)]⟩
  by_cases h2 : counter > 4294967295
  ·exact .inr (.inl ⟨rfl, h1, h2, by rw [if_neg (by omega)]⟩)
  ·exact .inr (.inr ⟨rfl, h1, h2, by rw [if_pos ⟨rfl, by omega, by omega⟩]⟩)
theorem Jsd (x : UInt32) : Jgw x 16 = true ∧ Jgw x 12 = true ∧ Jgw x 8 = true ∧ Jgw x 7 = true := ⟨rfl, rfl, rfl, rfl⟩
theorem Kz7 {X : Type} (F : Nat) (fail : X) (ex : Int → Int → List UInt32 → List UInt32 → X) (p : Int) (b w : List UInt32) (m k : Nat) (hk : k < 4) (hw : w.length = 16) :
  Jhw F fail ex (m + 1) p k b w = Jhw F fail ex m p (k + 1 : Nat) b (qrt w k (4 + k) (8 + k) (12 + k)) := by
 have a4 := K2a 4 k 4 rfl (by omega) (by omega)
 have a8 := K2a 8 k 8 rfl (by omega) (by omega)
 have a12 := K2a 12 k 12 rfl (by omega) (by omega)
 have v1 : Jek k w = stp w k (4 + k) (12 + k) 16 := by
  unfold Jek; simp only [a4, a12, Int.toNat_natCast]; rfl
 have v6 : Jem k w = stp (stp w k (4 + k) (12 + k) 16) (8 + k) (12 + k) (4 + k) 12 := by
  unfold Jem Jr8 Jel; simp only [v1, a4, a8, a12, Int.toNat_natCast]; rfl
 have v11 : Jd2 k w = stp (stp (stp w k (4 + k) (12 + k) 16) (8 + k) (12 + k) (4 + k) 12) k (4 + k) (12 + k) 8 := by
  unfold Jd2 Jp4 Jen; simp only [v6, a4, a12, Int.toNat_natCast]; rfl
 have hr : List.set (Jde k w) (4 + k) (Jiz (Jk2 k w) 7) = qrt w k (4 + k) (8 + k) (12 + k) := by
  unfold Jk2 Jde; simp only [v11, a4, a8, a12, Int.toNat_natCast]; rfl
 have n1 : (Jek k w).length = 16 := by rw [v1, Jgj, hw]
 have n3 : (Jel k w).length = 16 := by unfold Jel; rw [List.length_set, n1]
 have n6 : (Jem k w).length = 16 := by rw [v6, Jgj, Jgj, hw]
 have n8 : (Jen k w).length = 16 := by unfold Jen; rw [List.length_set, n6]
 have n11 : (Jd2 k w).length = 16 := by rw [v11, Jgj, Jgj, Jgj, hw]
 have n13 : (Jde k w).length = 16 := by unfold Jde; rw [List.length_set, n11]
 have c2 : Jnf k w = true := by unfold Jnf; rw [a8, n1]; exact tt2 (by omega) (by omega)
 have c4 : Jng k w = true := by unfold Jng; rw [a4, n3]; exact tt2 (by omega) (by omega)
 have c7 : Jnh k w = true := by unfold Jnh; rw [n6]; exact tt2 (by omega) (by omega)
 have c9 : Jni k w = true := by unfold Jni; rw [a12, n8]; exact tt2 (by omega) (by omega)
 have c12 : Jk0 k w = true := by unfold Jk0; rw [a8, n11]; exact tt2 (by omega) (by omega)
 have c14 : Jk1 k w = true := by unfold Jk1; rw [a4, n13]; exact tt2 (by omega) (by omega)
 rw [Jhw, Jyu]
 simp only [a4, a8, a12, Int.toNat_natCast, List.length_set, n1, n3, n6, n8, n11, n13, hw, c2, c4, c7, c9, c12, c14, (Jsd _).1, (Jsd _).2.1, (Jsd _).2.2.1, (Jsd _).2.2.2, cond_true, hr]
 rw [Jaa (tt (by omega)), Jaa (tt2 (by omega) (by omega)), Jaa (tt2 (by omega) (by omega)), Jaa (tt2 (by omega) (by omega)), Jaa (tt2 (by omega) (by omega)), Jaa (tt2 (by omega) (by omega)), Jaa (tt2 (by omega) (by omega)), Jaa (tt2 (by omega) (by omega)), Jaa (tt2 (by omega) (by omega)), Jaa (tt2 (by omega) (by omega)), Jaa (tt2 (by omega) (by omega)), Jaa (tt2 (by omega) (by omega)), Jaa (tt2 (by omega) (by omega)), Jak (by omega) (by omega)]
 rfl
end Go.AI
