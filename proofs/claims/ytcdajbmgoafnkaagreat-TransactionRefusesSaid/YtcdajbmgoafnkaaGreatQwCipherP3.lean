/- Texts of the proof, joined: CipherP3. Names of our own are shortened by program; the long ones stand in wip/. -/
import Derived.Test.YtcdajbmgoafnkaaGreatQwCipherP2
namespace Go.AI
open Go
theorem Kz8 {X : Type} (F : Nat) (fail : X) (ex : Int → Int → List UInt32 → List UInt32 → X) (p : Int) (b w : List UInt32) (m k : Nat) (hk : k < 4) (hw : w.length = 16) :
  Jhx F fail ex (m + 1) p k b w = Jhx F fail ex m p (k + 1 : Nat) b (qrt w k (4 + (k + 1) % 4) (8 + (k + 2) % 4) (12 + (k + 3) % 4)) := by
 have a4 : Jag 4 (Jb8 (Jag (k : Int) 1) 4) = ((4 + (k + 1) % 4 : Nat) : Int) := by rw [Qha k 1 1 rfl (by omega) (by omega), K2a 4 _ 4 rfl (by omega) (by omega)]
 have a8 : Jag 8 (Jb8 (Jag (k : Int) 2) 4) = ((8 + (k + 2) % 4 : Nat) : Int) := by rw [Qha k 2 2 rfl (by omega) (by omega), K2a 8 _ 8 rfl (by omega) (by omega)]
 have a12 : Jag 12 (Jb8 (Jag (k : Int) 3) 4) = ((12 + (k + 3) % 4 : Nat) : Int) := by rw [Qha k 3 3 rfl (by omega) (by omega), K2a 12 _ 12 rfl (by omega) (by omega)]
 have v1 : Jeo k w = stp w k (4 + (k + 1) % 4) (12 + (k + 3) % 4) 16 := by
  unfold Jeo; simp only [a4, a12, Int.toNat_natCast]; rfl
 have v6 : Jeq k w = stp (stp w k (4 + (k + 1) % 4) (12 + (k + 3) % 4) 16) (8 + (k + 2) % 4) (12 + (k + 3) % 4) (4 + (k + 1) % 4) 12 := by
  unfold Jeq Jr9 Jep; simp only [v1, a4, a8, a12, Int.toNat_natCast]; rfl
 have v11 : Jd3 k w = stp (stp (stp w k (4 + (k + 1) % 4) (12 + (k + 3) % 4) 16) (8 + (k + 2) % 4) (12 + (k + 3) % 4) (4 + (k + 1) % 4) 12) k (4 + (k + 1) % 4) (12 + (k + 3) % 4) 8 := by
  unfold Jd3 Jp5 Jer; simp only [v6, a4, a12, Int.toNat_natCast]; rfl
 have hr : List.set (Jdf k w) (4 + (k + 1) % 4) (Jiz (Jk5 k w) 7) = qrt w k (4 + (k + 1) % 4) (8 + (k + 2) % 4) (12 + (k + 3) % 4) := by
  unfold Jk5 Jdf; simp only [v11, a4, a8, a12, Int.toNat_natCast]; rfl
 have n1 : (Jeo k w).length = 16 := by rw [v1, Jgj, hw]
 have n3 : (Jep k w).length = 16 := by unfold Jep; rw [List.length_set, n1]
 have n6 : (Jeq k w).length = 16 := by rw [v6, Jgj, Jgj, hw]
 have n8 : (Jer k w).length = 16 := by unfold Jer; rw [List.length_set, n6]
 have n11 : (Jd3 k w).length = 16 := by rw [v11, Jgj, Jgj, Jgj, hw]
 have n13 : (Jdf k w).length = 16 := by unfold Jdf; rw [List.length_set, n11]
 have c2 : Jnj k w = true := by unfold Jnj; rw [a8, n1]; exact tt2 (by omega) (by omega)
 have c4 : Jnk k w = true := by unfold Jnk; rw [a4, n3]; exact tt2 (by omega) (by omega)
 have c7 : Jnl k w = true := by unfold Jnl; rw [n6]; exact tt2 (by omega) (by omega)
 have c9 : Jnm k w = true := by unfold Jnm; rw [a12, n8]; exact tt2 (by omega) (by omega)
 have c12 : Jk3 k w = true := by unfold Jk3; rw [a8, n11]; exact tt2 (by omega) (by omega)
 have c14 : Jk4 k w = true := by unfold Jk4; rw [a4, n13]; exact tt2 (by omega) (by omega)
 rw [Jhx, Jyv]
 simp only [a4, a8, a12, Int.toNat_natCast, List.length_set, n1, n3, n6, n8, n11, n13, hw, c2, c4, c7, c9, c12, c14, (Jsd _).1, (Jsd _).2.1, (Jsd _).2.2.1, (Jsd _).2.2.2, cond_true, hr]
 rw [Jaa (tt (by omega)), Jaa (tt2 (by omega) (by omega)), Jaa (tt2 (by omega) (by omega)), Jaa (tt2 (by omega) (by omega)), Jaa (tt2 (by omega) (by omega)), Jaa (tt2 (by omega) (by omega)), Jaa (tt2 (by omega) (by omega)), Jaa (tt2 (by omega) (by omega)), Jaa (tt2 (by omega) (by omega)), Jaa (tt2 (by omega) (by omega)), Jaa (tt2 (by omega) (by omega)), Jaa (tt2 (by omega) (by omega)), Jaa (tt2 (by omega) (by omega)), Jak (by omega) (by omega)]
 rfl
theorem Qij {X : Type} (F : Nat) (fail : X) (ex : Int → Int → List UInt32 → List UInt32 → X) (p : Int) (v b : List UInt32) (hv : v.length = 16) : ∀ (j m i : Nat), i + j = 4 → j ≤ m →
  Jhw F fail ex (m + 1) p i b (K4a v i) = ex p (4 : Nat) b (K4a v 4)
 | 0, m, i, hi, _ => by
  have e : i = 4 := by omega
  subst e
  rw [Jhw, Jyu]
  rw [Jab (ff (by omega))]
 | j + 1, 0, i, _, hm => absurd hm (by omega)
 | j + 1, m + 1, i, hi, hm => by
  rw [Kz7 F fail ex p b (K4a v i) (m + 1) i (by omega) (by rw [J43, hv])]
  exact Qij F fail ex p v b hv j m (i + 1) (by omega) (by omega)
theorem Qik {X : Type} (F : Nat) (fail : X) (ex : Int → Int → List UInt32 → List UInt32 → X) (p : Int) (v b : List UInt32) (hv : v.length = 16) : ∀ (j m i : Nat), i + j = 4 → j ≤ m →
  Jhx F fail ex (m + 1) p i b (Qaz v i) = ex p (4 : Nat) b (Qaz v 4)
 | 0, m, i, hi, _ => by
  have e : i = 4 := by omega
  subst e
  rw [Jhx, Jyv]
  rw [Jab (ff (by omega))]
 | j + 1, 0, i, _, hm => absurd hm (by omega)
 | j + 1, m + 1, i, hi, hm => by
  rw [Kz8 F fail ex p b (Qaz v i) (m + 1) i (by omega) (by rw [Kgv, hv])]
  exact Qik F fail ex p v b hv j m (i + 1) (by omega) (by omega)
theorem Qil {X : Type} (fail : X) (ex : Int → List UInt32 → List UInt32 → X) (v b : List UInt32) (hv : v.length = 16) : ∀ (j m i : Nat), i + j = 10 → j ≤ m →
  Jln 99 fail ex (m + 1) i b (K4b v i) = ex (10 : Nat) b (K4b v 10)
 | 0, m, i, hi, _ => by
  have e : i = 10 := by omega
  subst e
  rw [Jln, Jyw]
  rw [Jab (ff (by omega))]
 | j + 1, 0, i, _, hm => absurd hm (by omega)
 | j + 1, m + 1, i, hi, hm => by
  have ih := Qil fail ex v b hv j m (i + 1) (by omega) (by omega)
  rw [Jln, Jyw]
  rw [Jaa (tt (by omega))]
  refine (Qij 99 fail _ i (K4b v i) b (by rw [J44, hv]) 4 98 0 rfl (by omega)).trans ?_
  refine (Qik 99 fail _ i (K4a (K4b v i) 4) b (by rw [J43, J44, hv]) 4 98 0 rfl (by omega)).trans ?_
  rw [Jak (by omega) (by omega)]
  exact ih
def Kg0 (n k : Nat) : List UInt8 := (List.range k).map fun i => UInt8.ofNat (n / 2 ^ (8 * i) % 256)
theorem Jy7 (n k : Nat) : (Kg0 n k).length = k := by simp [Kg0]
theorem J09 (n k : Nat) : Kg0 n (k + 1) = Kg0 n k ++ [UInt8.ofNat (n / 2 ^ (8 * k) % 256)] := by
 unfold Kg0; rw [List.range_succ, List.map_append]; rfl
theorem Qf8 (q : Nat) (h : q < 9223372036854775808) : Kkv (q : Int) 256 = ((q / 256 : Nat) : Int) := by
 rw [J6i (by omega) (by omega) (by omega)]; omega
theorem Qf9 (q : Nat) : Kjg (Jb8 (q : Int) 256) = UInt8.ofNat (q % 256) := by
 rw [Jnu (by omega), Kfh]
 congr 1
 omega
theorem Qdq {X : Type} (F : Nat) (fail : X) (ex : Int → Int → Int → List UInt8 → X) (N : Nat) (hN : N < 9223372036854775808) (b : Nat) (hb : b ≤ 8) : ∀ (j m i : Nat), i + j = b → j ≤ m →
  Ji8 F fail ex (m + 1) (N / 2 ^ (8 * i) : Nat) b i (Kg0 N i) = ex (N / 2 ^ (8 * b) : Nat) b b (Kg0 N b)
 | 0, m, i, hi, _ => by
  have e : i = b := by omega
  subst e
  rw [Ji8, Jud]
  rw [Jab (ff (by omega))]
 | j + 1, 0, i, _, hm => absurd hm (by omega)
 | j + 1, m + 1, i, hi, hm => by
  have ih := Qdq F fail ex N hN b hb j m (i + 1) (by omega) (by omega)
  have hd := Nat.div_le_self N (2 ^ (8 * i))
  have e1 : Kkv ((N / 2 ^ (8 * i) : Nat) : Int) 256 = ((N / 2 ^ (8 * (i + 1)) : Nat) : Int) := by
   rw [Qf8 _ (by omega), show 8 * (i + 1) = 8 * i + 8 by omega, Nat.pow_add, ← Nat.div_div_eq_div_mul]
  have e2 := Qf9 (N / 2 ^ (8 * i))
  rw [Ji8, Jud]
  simp only [e1, e2, ← J09]
  rw [Jaa (tt (by omega)), Jaa (Jcg (by rw [Jy7]; omega)), Jak (by omega) (by omega)]
  exact ih
theorem Kg1 (n b : Int) (h : Jl6 n b = true) : ∃ F, ∀ {X : Type} (fail : X) (ret : List UInt8 → X), Krq F n b fail ret = ret (Jia n b) := ⟨99, fun fail ret => by
 simp only [Jl6, decide_eq_true_eq] at h
 obtain ⟨N, rfl⟩ : ∃ N : Nat, n = N := ⟨n.toNat, by omega⟩
 obtain ⟨k, rfl⟩ : ∃ k : Nat, b = k := ⟨b.toNat, by omega⟩
 unfold Krq
 have e := Qdq 99 fail (fun (_ : Int) (_ : Int) (_ : Int) (out : List UInt8) => ret out) N (by omega) k (by omega) k 98 0 (by omega) (by omega)
 rw [Nat.mul_zero, Nat.pow_zero, Nat.div_one] at e
 exact e⟩
theorem Qga (x : UInt32) : Jia (Qc6 x) 4 = le4 x := by
 have hx := x.toNat_lt
 have s1 := Jno x 8 (by omega)
 have s2 := Jno x 16 (by omega)
 have s3 := Jno x 24 (by omega)
 have e : ∀ (y : UInt32) (k : Nat), y.toNat = x.toNat / 2 ^ k → UInt8.ofNat (x.toNat / 2 ^ k % 256) = J3k y := fun y k h => by
  apply UInt8.toNat_inj.1
  rw [Kxc, h, UInt8.toNat_ofNat']; omega
 rw [Kq9]
 show [UInt8.ofNat (x.toNat / 2 ^ 0 % 256), UInt8.ofNat (x.toNat / 2 ^ 8 % 256), UInt8.ofNat (x.toNat / 2 ^ 16 % 256), UInt8.ofNat (x.toNat / 2 ^ 24 % 256)] = _
 rw [e x 0 (by omega), e _ 8 s1, e _ 16 s2, e _ 24 s3]
 rfl
theorem Qim {X : Type} (F : Nat) (fail : X) (ex : Int → List UInt32 → List UInt32 → List UInt8 → X) (v w : List UInt32) (hv : v.length = 16) (hw : w.length = 16) : ∀ (j m i : Nat), i + j = 16 → j ≤ m →
  Jlo F fail ex (m + 1) i w v (Kfm v w i) = ex (16 : Nat) w v (Kfm v w 16)
 | 0, m, i, hi, _ => by
  have e : i = 16 := by omega
  subst e
  rw [Jlo, Jyx]
  rw [Jab (ff (by omega))]
 | j + 1, 0, i, _, hm => absurd hm (by omega)
 | j + 1, m + 1, i, hi, hm => by
  have ih := Qim F fail ex v w hv hw j m (i + 1) (by omega) (by omega)
  have hl := Jy6 v w (i + 1)
  have hx := (Jbf (v.getD i 0) (w.getD i 0)).toNat_lt
  rw [Jlo, Jyx]
  simp only [Int.toNat_natCast, Qga, ← J08]
  rw [Jaa (tt (by omega)), Jaa (tt2 (by omega) (by omega)), Jaa (tt2 (by omega) (by omega)), Jaa (c := Jl6 _ _) (by rw [Kq9]; exact tt (by omega)), Jaa (Jcg (by omega)), Jak (by omega) (by omega)]
  exact ih
theorem Kl0 (key : List UInt8) (nonce counter : Int) (_ : J4s key nonce counter = true) : ∃ F, ∀ {X : Type} (fail : X) (ret : List UInt8 → Int → X), K4t F key nonce counter fail ret = ret (Jic key nonce counter) (J6o key nonce counter) := ⟨99, fun fail ret => by
 unfold K4t Jic J6o Jib
 rcases Kz6 nonce counter with ⟨h, e⟩ | ⟨h, h1, e⟩ | ⟨h, h1, h2, e⟩ | ⟨h, h1, h2, e⟩ <;> rw [e, h]
 ·rw [Jaa (c := !false) rfl, if_neg (by omega)]
 ·rw [Jab (c := !true) rfl, Jaa (tt h1), if_neg (by omega)]
 ·rw [Jab (c := !true) rfl, Jab (ff h1), Jaa (tt h2), if_neg (by omega)]
 ·rw [Jab (c := !true) rfl, Jab (ff h1), Jab (ff h2), if_pos rfl, Jaa (c := Jtv key nonce counter) h, Jaa (c := Jtv key nonce counter) h]
  refine (Qil fail _ (Qhy key nonce counter) _ rfl 10 98 0 rfl (by omega)).trans ?_
  exact Qim 99 fail _ _ _ (by rw [J44]; rfl) rfl 16 98 0 rfl (by omega)⟩
theorem K58 (a b : List UInt8) (i : Nat) (ha : i < a.length) (hb : i < b.length) : (Qe4 a b).getD i 0 = Jpj (a.getD i 0) (b.getD i 0) := by
 unfold Qe4
 rw [Jjk (by rw [List.length_zipWith]; omega), Jjk ha, Jjk hb, List.getElem_zipWith]
theorem Ksg (key : List UInt8) (nonce : Int) : ∀ (n c : Nat) (b : List UInt8), b.length ≤ 64 * n → (Qg8 key nonce n c b).length = b.length ∧ ∀ p, p < b.length → (Qg8 key nonce n c b).getD p 0 = Jpj (b.getD p 0) ((Kre key nonce ((c + p / 64 : Nat) : Int)).getD (p % 64) 0)
  | 0, c, b, h => ⟨by have : b.length = 0 := by omega
                      rw [this]; rfl, fun p hp => absurd hp (by omega)⟩
  | n + 1, c, b, h => by
    have hk := Kgy key nonce c
    obtain ⟨l, g⟩ := Ksg key nonce n (c + 1) (b.drop 64) (by rw [List.length_drop]; omega)
    have lx : (Qe4 (b.take 64) (Kre key nonce c)).length = min 64 b.length := by
      unfold Qe4; rw [List.length_zipWith, List.length_take, hk]; omega
    refine ⟨?_, fun p hp => ?_⟩
    · show (Qe4 _ _ ++ Qg8 key nonce n (c + 1) (b.drop 64)).length = _
      rw [List.length_append, lx, l, List.length_drop]; omega
    · show (Qe4 (b.take 64) (Kre key nonce c) ++ Qg8 key nonce n (c + 1) (b.drop 64)).getD p 0 = _
      rw [List.getD_eq_getElem?_getD]
      by_cases hp64 : p < 64
      · rw [List.getElem?_append_left (by omega), ← List.getD_eq_getElem?_getD, K58 _ _ _ (by rw [List.length_take]; omega) (by omega), Jsc _ _ _ _ hp64, show c + p / 64 = c by omega, Nat.mod_eq_of_lt hp64]
      · rw [List.getElem?_append_right (by omega), ← List.getD_eq_getElem?_getD, lx, show p - min 64 b.length = p - 64 by omega, g (p - 64) (by rw [List.length_drop]; omega)]
        rw [show c + 1 + (p - 64) / 64 = c + p / 64 by omega, show (p - 64) % 64 = p % 64 by omega]
        congr 1
        simp only [List.getD_eq_getElem?_getD, List.getElem?_drop]
        rw [show 64 + (p - 64) = p by omega]
theorem Jih (key : List UInt8) (nonce : Int) (b : List UInt8) : (Jxe key nonce b).length = b.length := (Ksg key nonce _ 1 b (by omega)).1
theorem J45 (key : List UInt8) (nonce : Int) (b : List UInt8) (p : Nat) (h : p < b.length) : (Jxe key nonce b).getD p 0 = Jpj (b.getD p 0) ((Kre key nonce ((1 + p / 64 : Nat) : Int)).getD (p % 64) 0) := (Ksg key nonce _ 1 b (by omega)).2 p h
def ovr (s b : List UInt8) (p : Nat) : List UInt8 := s.take p ++ b.drop p
theorem Qgb {s b : List UInt8} (h : s.length = b.length) (p : Nat) : (ovr s b p).length = b.length := by
 unfold ovr; rw [List.length_append, List.length_take, List.length_drop]; omega
theorem Qgc {s b : List UInt8} (h : s.length = b.length) (p : Nat) (hp : p < b.length) : (ovr s b p).getD p 0 = b.getD p 0 := by
 unfold ovr
 simp only [List.getD_eq_getElem?_getD]
 rw [List.getElem?_append_right (by rw [List.length_take]; omega), List.length_take, show p - min p s.length = 0 by omega, List.getElem?_drop, Nat.add_zero]
theorem Qgd {s b : List UInt8} (h : s.length = b.length) (p : Nat) (hp : p < b.length) : (ovr s b p).set p (s.getD p 0) = ovr s b (p + 1) := by
 unfold ovr
 rw [List.set_append_right _ _ (by rw [List.length_take]; omega), List.length_take, show p - min p s.length = 0 by omega, Jdx s p 0 (by omega), List.append_assoc]
 congr 1
 rw [List.drop_eq_getElem_cons hp]
 rfl
theorem Kg2 {s b : List UInt8} (h : s.length = b.length) (p : Nat) (hp : b.length ≤ p) : ovr s b p = s := by
 unfold ovr
 rw [List.take_of_length_le (by omega), List.drop_eq_nil_of_le hp, List.append_nil]
theorem Qge {s b : List UInt8} (h : s.length = b.length) (p : Nat) : ovr s b (min p b.length) = ovr s b p := by
 by_cases hp : p ≤ b.length
 ·rw [Nat.min_eq_left hp]
 ·rw [Nat.min_eq_right (by omega), Kg2 h _ (Nat.le_refl _), Kg2 h _ (by omega)]
theorem Qin {X : Type} (F : Nat) (fail : X) (ex : Nat → Nat → Int → Int → Int → List UInt8 → Int → Int → List UInt8 → List UInt8 → List UInt8 → Int → Int → X) (key : List UInt8) (nonce : Int) (b : List UInt8) (b' : List UInt8) (i n : Nat) (q s7 c s2 : Int) (hn : n ≤ 64) (hi : i % 64 = 0) (hb : i + n ≤ b.length) : ∀ (j m k : Nat), k + j = n → j ≤ m →
  Ji7 F fail ex (m + 1) i n (n : Nat) k q b' s7 c (ovr (Jxe key nonce b) b (i + k)) (Kre key nonce ((1 + i / 64 : Nat) : Int)) key nonce s2 = ex i n (n : Nat) (n : Nat) q b' s7 c (ovr (Jxe key nonce b) b (i + n)) (Kre key nonce ((1 + i / 64 : Nat) : Int)) key nonce s2
 | 0, m, k, hk, _ => by
  have e : k = n := by omega
  subst e
  rw [Ji7, Juc]
  rw [Jab (ff (by omega))]
 | j + 1, 0, k, _, hm => absurd hm (by omega)
 | j + 1, m + 1, k, hk, hm => by
  have ih := Qin F fail ex key nonce b b' i n q s7 c s2 hn hi hb j m (k + 1) (by omega) (by omega)
  have hl := Jih key nonce b
  have hg := J45 key nonce b (i + k) (by omega)
  rw [show 1 + (i + k) / 64 = 1 + i / 64 by omega, show (i + k) % 64 = k by omega] at hg
  rw [Ji7, Juc, Int.toNat_natCast, Qgc hl (i + k) (by omega), ← hg, Qgd hl (i + k) (by omega), Kgy]
  rw [Jaa (tt (by omega)), Jaa (tt2 (by omega) (by omega)), Jaa (tt2 (by omega) (by omega)), Jaa (tt2 (by omega) (by omega)), Jak (by omega) (by omega)]
  exact ih
theorem Qio {X : Type} (fail : X) (ex : Int → List UInt8 → Int → List UInt8 → Int → Int → List UInt8 → Int → X) (key : List UInt8) (nonce : Int) (hr : inR nonce = true) (b b' : List UInt8) (s7 : Int) (hb : b.length ≤ 65536) : ∀ (j m k : Nat), b.length ≤ 64 * (k + j) → j ≤ m →
  ∃ i c, Jgx 2000 fail ex (m + 1) (64 * k : Nat) b' s7 key nonce (1 + k : Nat) (ovr (Jxe key nonce b) b (64 * k)) 64 = ex i b' s7 key nonce c (Jxe key nonce b) 64
 | 0, m, k, hk, _ => by
  have hl := Jih key nonce b
  refine ⟨((64 * k : Nat) : Int), ((1 + k : Nat) : Int), ?_⟩
  rw [Jgx, Jon]
  rw [Kg2 hl _ (by omega), hl, Jab (ff (by omega))]
 | j + 1, 0, k, _, hm => absurd hm (by omega)
 | j + 1, m + 1, k, hk, hm => by
  have hl := Jih key nonce b
  have ho := Qgb hl (64 * k)
  by_cases hlt : 64 * k < b.length
  ·obtain ⟨i, c, ih⟩ := Qio fail ex key nonce hr b b' s7 hb j m (k + 1) (by omega) (by omega)
   refine ⟨i, c, ?_⟩
   have emin : Kfe 64 ((b.length - 64 * k : Nat) : Int) = ((min 64 (b.length - 64 * k) : Nat) : Int) := by rw [K37]; omega
   have eadd : Jag ((64 * k : Nat) : Int) ((min 64 (b.length - 64 * k) : Nat) : Int) = ((64 * k + min 64 (b.length - 64 * k) : Nat) : Int) := by rw [Jak (by omega) (by omega)]; omega
   rw [Jgx, Jon, ho]
   simp only [Int.toNat_natCast, emin, eadd]
   rw [Jaa (tt (by omega)), Jaa (tt2 (by omega) (by omega)), Jaa (by rw [tt3 (by omega) (by omega) (by omega)]; exact Jnv rfl), Jaa (c := Kwz key nonce _) hr]
   rw [show 64 * k + min 64 (b.length - 64 * k) - 64 * k = min 64 (b.length - 64 * k) by omega]
   have hc : Kw0 key nonce ((1 + k : Nat) : Int) = Kre key nonce ((1 + 64 * k / 64 : Nat) : Int) := by rw [show 64 * k / 64 = k by omega]; rfl
   rw [hc]
   refine (Qin 2000 fail _ key nonce b b' (64 * k) (min 64 (b.length - 64 * k)) _ s7 _ 64 (by omega) (by omega) (by omega) (min 64 (b.length - 64 * k)) 1999 0 (by omega) (by omega)).trans ?_
   rw [show 64 * k + min 64 (b.length - 64 * k) = min (64 * (k + 1)) b.length by omega, Qge hl, show Jag ((64 * k : Nat) : Int) 64 = ((64 * (k + 1) : Nat) : Int) by rw [Jak (by omega) (by omega)]; omega, show Jag ((1 + k : Nat) : Int) 1 = ((1 + (k + 1) : Nat) : Int) by rw [Jak (by omega) (by omega)]; omega]
   exact ih
  ·refine ⟨((64 * k : Nat) : Int), ((1 + k : Nat) : Int), ?_⟩
   rw [Jgx, Jon]
   rw [Kg2 hl _ (by omega), hl, Jab (ff (by omega))]
theorem Kc3 (nonce : Int) (b : List UInt8) : ((b.length : Int) > 65536 ∧ K4c nonce b = 5) ∨ (¬ (b.length : Int) > 65536 ∧ inR nonce = false ∧ K4c nonce b = 2) ∨ (¬ (b.length : Int) > 65536 ∧ inR nonce = true ∧ K4c nonce b = 0) := by
 unfold K4c
 by_cases h : (b.length : Int) > 65536
 ·exact .inl ⟨h, if_pos h⟩
 ·rw [if_neg h]
  cases inR nonce with
  | false => exact .inr (.inl ⟨h, rfl, rfl⟩)
  | true => exact .inr (.inr ⟨h, rfl, rfl⟩)
theorem Kg3 (key : List UInt8) (nonce : Int) (b : List UInt8) (_ : Jl4 key nonce b = true) : ∃ F, ∀ {X : Type} (fail : X) (ret : List UInt8 → Int → X), Krp F key nonce b fail ret = ret (Jiy key nonce b) (Jga key nonce b) := ⟨2000, fun fail ret => by
 unfold Krp Jiy Jga Jpl Qhz
 rcases Kc3 nonce b with ⟨h, e⟩ | ⟨h, h1, e⟩ | ⟨h, h1, e⟩ <;> rw [e]
 ·rw [Jaa (tt h), if_neg (by omega)]
 ·rw [Jab (ff h), h1, Jaa (c := !false) rfl, if_neg (by omega)]
 ·rw [Jab (ff h), h1, Jab (c := !true) rfl, if_pos rfl, Jaa (c := Jbh b) (tt (by omega))]
  obtain ⟨i, c, hx⟩ := Qio fail (fun (_ : Int) (_ : List UInt8) (_ : Int) (_ : List UInt8) (_ : Int) (_ : Int) (out : List UInt8) (_ : Int) => ret out (0 : Int)) key nonce h1 b b 0 (by omega) 1024 1999 0 (by omega) (by omega)
  exact hx⟩
theorem rs_l {X : Type} (F : Nat) (fail : X) (ex : Int → List UInt8 → Int → List UInt8 → List UInt8 → List UInt8 → X) (key : List UInt8) (nonce : Int) (hr : inR nonce = true) (b : List UInt8) (hb : b.length ≤ 65536) : ∀ (j m i : Nat) (blk : List UInt8), i + j = b.length → j ≤ m → (i % 64 ≠ 0 → blk = Kre key nonce ((1 + i / 64 : Nat) : Int)) →
  ∃ blk', Ji9 F fail ex (m + 1) nonce b i key ((Jxe key nonce b).take i) blk = ex nonce b (b.length : Nat) key (Jxe key nonce b) blk'
 | 0, m, i, blk, hi, _, _ => by
  have hl := Jih key nonce b
  have e : i = b.length := by omega
  subst e
  refine ⟨blk, ?_⟩
  rw [Ji9, Jue]
  rw [Jab (ff (by omega)), List.take_of_length_le (by omega)]
 | j + 1, 0, i, _, _, hm, _ => absurd hm (by omega)
 | j + 1, m + 1, i, blk, hi, hm, hk => by
  have hl := Jih key nonce b
  have hg := J45 key nonce b i (by omega)
  have er : Jb8 (i : Int) 64 = ((i % 64 : Nat) : Int) := by rw [Jnu (by omega)]; omega
  have ec : Jag 1 (Kkv (i : Int) 64) = ((1 + i / 64 : Nat) : Int) := by rw [J6i (by omega) (by omega) (by omega), Jak (by omega) (by omega)]; omega
  have hbk : Jic key nonce ((1 + i / 64 : Nat) : Int) = Kre key nonce ((1 + i / 64 : Nat) : Int) := by
   unfold Jic
   rw [if_pos (by unfold Qc9; rw [if_pos ⟨hr, by omega, by omega⟩])]
  have hb64 := Kgy key nonce ((1 + i / 64 : Nat) : Int)
  obtain ⟨blk', ih⟩ := rs_l F fail ex key nonce hr b hb j m (i + 1) (Kre key nonce ((1 + i / 64 : Nat) : Int)) (by omega) (by omega) (fun h => by rw [show (i + 1) / 64 = i / 64 by omega])
  refine ⟨blk', ?_⟩
  rw [Jdx (Jxe key nonce b) i 0 (by omega), hg] at ih
  have hlt : ((Jxe key nonce b).take i ++ [Jpj (b.getD i 0) ((Kre key nonce ((1 + i / 64 : Nat) : Int)).getD (i % 64) 0)]).length ≤ 2147483648 := by
   rw [List.length_append, List.length_take]; show min i _ + 1 ≤ _; omega
  rw [Ji9, Jue, er, ec, hbk]
  simp only [Int.toNat_natCast]
  rw [Jaa (tt (by omega))]
  by_cases h0 : i % 64 = 0
  ·rw [Jaa (Jnv (by omega)), Jaa (c := J4s _ _ _) rfl, Jaa (tt2 (by omega) (by omega)), Jaa (tt2 (by omega) (by omega)), Jaa (Jcg hlt), Jak (by omega) (by omega)]
   exact ih
  ·rw [hk h0, Jab (Jkj (by omega)), Jaa (tt2 (by omega) (by omega)), Jaa (tt2 (by omega) (by omega)), Jaa (Jcg hlt), Jak (by omega) (by omega)]
   exact ih
theorem Kg4 (key : List UInt8) (nonce : Int) (b : List UInt8) (_ : Jyd key nonce b = true) : ∃ F, ∀ {X : Type} (fail : X) (ret : List UInt8 → Int → X), Krs F key nonce b fail ret = ret (Joc key nonce b) (Jod key nonce b) := ⟨70000, fun fail ret => by
 unfold Krs Joc Jod Jib Qhz
 rcases Kc3 nonce b with ⟨h, e⟩ | ⟨h, h1, e⟩ | ⟨h, h1, e⟩ <;> rw [e]
 ·rw [Jaa (tt h), if_neg (by omega)]
 ·rw [Jab (ff h), h1, Jaa (c := !false) rfl, if_neg (by omega)]
 ·rw [Jab (ff h), h1, Jab (c := !true) rfl, if_pos rfl]
  obtain ⟨c, hx⟩ := rs_l 70000 fail (fun (_ : Int) (_ : List UInt8) (_ : Int) (_ : List UInt8) (out : List UInt8) (_ : List UInt8) => ret out (0 : Int)) key nonce h1 b (by omega) b.length 69999 0 [] (by omega) (by omega) (fun h => absurd rfl h)
  exact hx⟩
end Go.AI
