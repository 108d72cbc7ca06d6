/- Texts of the proof, joined: CipherP3. Names of our own are shortened by program; the long ones stand in wip/. -/
import Derived.Test.YtcdajbmgoafnkaaGreatQrCipherP2
namespace Go.AI
open Go
theorem K7h {X : Type} (F : Nat) (fail : X) (ex : Int → Int → List UInt32 → List UInt32 → X) (p : Int) (b w : List UInt32) (m k : Nat) (hk : k < 4) (hw : w.length = 16) :
  Jjd F fail ex (m + 1) p k b w = Jjd F fail ex m p (k + 1 : Nat) b (qrt w k (4 + (k + 1) % 4) (8 + (k + 2) % 4) (12 + (k + 3) % 4)) := by
 have a4 : Jag 4 (Jcg (Jag (k : Int) 1) 4) = ((4 + (k + 1) % 4 : Nat) : Int) := by rw [Qn2 k 1 1 rfl (by omega) (by omega), K9u 4 _ 4 rfl (by omega) (by omega)]
 have a8 : Jag 8 (Jcg (Jag (k : Int) 2) 4) = ((8 + (k + 2) % 4 : Nat) : Int) := by rw [Qn2 k 2 2 rfl (by omega) (by omega), K9u 8 _ 8 rfl (by omega) (by omega)]
 have a12 : Jag 12 (Jcg (Jag (k : Int) 3) 4) = ((12 + (k + 3) % 4 : Nat) : Int) := by rw [Qn2 k 3 3 rfl (by omega) (by omega), K9u 12 _ 12 rfl (by omega) (by omega)]
 have v1 : Jfs k w = stp w k (4 + (k + 1) % 4) (12 + (k + 3) % 4) 16 := by
  unfold Jfs; simp only [a4, a12, Int.toNat_natCast]; rfl
 have v6 : Jfu k w = stp (stp w k (4 + (k + 1) % 4) (12 + (k + 3) % 4) 16) (8 + (k + 2) % 4) (12 + (k + 3) % 4) (4 + (k + 1) % 4) 12 := by
  unfold Jfu Juo Jft; simp only [v1, a4, a8, a12, Int.toNat_natCast]; rfl
 have v11 : Jew k w = stp (stp (stp w k (4 + (k + 1) % 4) (12 + (k + 3) % 4) 16) (8 + (k + 2) % 4) (12 + (k + 3) % 4) (4 + (k + 1) % 4) 12) k (4 + (k + 1) % 4) (12 + (k + 3) % 4) 8 := by
  unfold Jew Jsd Jfv; simp only [v6, a4, a12, Int.toNat_natCast]; rfl
 have hr : List.set (Jd3 k w) (4 + (k + 1) % 4) (Jj8 (Jmi k w) 7) = qrt w k (4 + (k + 1) % 4) (8 + (k + 2) % 4) (12 + (k + 3) % 4) := by
  unfold Jmi Jd3; simp only [v11, a4, a8, a12, Int.toNat_natCast]; rfl
 have n1 : (Jfs k w).length = 16 := by rw [v1, Jhy, hw]
 have n3 : (Jft k w).length = 16 := by unfold Jft; rw [List.length_set, n1]
 have n6 : (Jfu k w).length = 16 := by rw [v6, Jhy, Jhy, hw]
 have n8 : (Jfv k w).length = 16 := by unfold Jfv; rw [List.length_set, n6]
 have n11 : (Jew k w).length = 16 := by rw [v11, Jhy, Jhy, Jhy, hw]
 have n13 : (Jd3 k w).length = 16 := by unfold Jd3; rw [List.length_set, n11]
 have c2 : Jpa k w = true := by unfold Jpa; rw [a8, n1]; exact tt2 (by omega) (by omega)
 have c4 : Jpb k w = true := by unfold Jpb; rw [a4, n3]; exact tt2 (by omega) (by omega)
 have c7 : Jpc k w = true := by unfold Jpc; rw [n6]; exact tt2 (by omega) (by omega)
 have c9 : Jpd k w = true := by unfold Jpd; rw [a12, n8]; exact tt2 (by omega) (by omega)
 have c12 : Jmg k w = true := by unfold Jmg; rw [a8, n11]; exact tt2 (by omega) (by omega)
 have c14 : Jmh k w = true := by unfold Jmh; rw [a4, n13]; exact tt2 (by omega) (by omega)
 rw [Jjd, J17]
 simp only [a4, a8, a12, Int.toNat_natCast, List.length_set, n1, n3, n6, n8, n11, n13, hw, c2, c4, c7, c9, c12, c14, (Jur _).1, (Jur _).2.1, (Jur _).2.2.1, (Jur _).2.2.2, cond_true, hr]
 rw [Jaa (tt (by omega)), Jaa (tt2 (by omega) (by omega)), Jaa (tt2 (by omega) (by omega)), Jaa (tt2 (by omega) (by omega)), Jaa (tt2 (by omega) (by omega)), Jaa (tt2 (by omega) (by omega)), Jaa (tt2 (by omega) (by omega)), Jaa (tt2 (by omega) (by omega)), Jaa (tt2 (by omega) (by omega)), Jaa (tt2 (by omega) (by omega)), Jaa (tt2 (by omega) (by omega)), Jaa (tt2 (by omega) (by omega)), Jaa (tt2 (by omega) (by omega)), Jai (by omega) (by omega)]
 rfl
theorem Qo9 {X : Type} (F : Nat) (fail : X) (ex : Int → Int → List UInt32 → List UInt32 → X) (p : Int) (v b : List UInt32) (hv : v.length = 16) : ∀ (j m i : Nat), i + j = 4 → j ≤ m →
  Jjc F fail ex (m + 1) p i b (Qbt v i) = ex p (4 : Nat) b (Qbt v 4)
 | 0, m, i, hi, _ => by
  have e : i = 4 := by omega
  subst e
  rw [Jjc, J16]
  rw [Jab (ff (by omega))]
 | j + 1, 0, i, _, hm => absurd hm (by omega)
 | j + 1, m + 1, i, hi, hm => by
  rw [K7g F fail ex p b (Qbt v i) (m + 1) i (by omega) (by rw [J9f, hv])]
  exact Qo9 F fail ex p v b hv j m (i + 1) (by omega) (by omega)
theorem Qpa {X : Type} (F : Nat) (fail : X) (ex : Int → Int → List UInt32 → List UInt32 → X) (p : Int) (v b : List UInt32) (hv : v.length = 16) : ∀ (j m i : Nat), i + j = 4 → j ≤ m →
  Jjd F fail ex (m + 1) p i b (Qie v i) = ex p (4 : Nat) b (Qie v 4)
 | 0, m, i, hi, _ => by
  have e : i = 4 := by omega
  subst e
  rw [Jjd, J17]
  rw [Jab (ff (by omega))]
 | j + 1, 0, i, _, hm => absurd hm (by omega)
 | j + 1, m + 1, i, hi, hm => by
  rw [K7h F fail ex p b (Qie v i) (m + 1) i (by omega) (by rw [Kmt, hv])]
  exact Qpa F fail ex p v b hv j m (i + 1) (by omega) (by omega)
theorem Qpb {X : Type} (fail : X) (ex : Int → List UInt32 → List UInt32 → X) (v b : List UInt32) (hv : v.length = 16) : ∀ (j m i : Nat), i + j = 10 → j ≤ m →
  Jmz 99 fail ex (m + 1) i b (Qbu v i) = ex (10 : Nat) b (Qbu v 10)
 | 0, m, i, hi, _ => by
  have e : i = 10 := by omega
  subst e
  rw [Jmz, J18]
  rw [Jab (ff (by omega))]
 | j + 1, 0, i, _, hm => absurd hm (by omega)
 | j + 1, m + 1, i, hi, hm => by
  have ih := Qpb fail ex v b hv j m (i + 1) (by omega) (by omega)
  rw [Jmz, J18]
  rw [Jaa (tt (by omega))]
  refine (Qo9 99 fail _ i (Qbu v i) b (by rw [J9g, hv]) 4 98 0 rfl (by omega)).trans ?_
  refine (Qpa 99 fail _ i (Qbt (Qbu v i) 4) b (by rw [J9f, J9g, hv]) 4 98 0 rfl (by omega)).trans ?_
  rw [Jai (by omega) (by omega)]
  exact ih
def Kmy (n k : Nat) : List UInt8 := (List.range k).map fun i => UInt8.ofNat (n / 2 ^ (8 * i) % 256)
theorem J2n (n k : Nat) : (Kmy n k).length = k := by simp [Kmy]
theorem J4r (n k : Nat) : Kmy n (k + 1) = Kmy n k ++ [UInt8.ofNat (n / 2 ^ (8 * k) % 256)] := by
 unfold Kmy; rw [List.range_succ, List.map_append]; rfl
theorem Qm6 (q : Nat) (h : q < 9223372036854775808) : Jzd (q : Int) 256 = ((q / 256 : Nat) : Int) := by
 rw [Jrp (by omega) (by omega) (by omega)]; omega
theorem Qm7 (q : Nat) : Kfc (Jcg (q : Int) 256) = UInt8.ofNat (q % 256) := by
 rw [Jj6 (by omega), Kau]
 congr 1
 omega
theorem Qkr {X : Type} (F : Nat) (fail : X) (ex : Int → Int → Int → List UInt8 → X) (N : Nat) (hN : N < 9223372036854775808) (b : Nat) (hb : b ≤ 8) : ∀ (j m i : Nat), i + j = b → j ≤ m →
  Jkg F fail ex (m + 1) (N / 2 ^ (8 * i) : Nat) b i (Kmy N i) = ex (N / 2 ^ (8 * b) : Nat) b b (Kmy N b)
 | 0, m, i, hi, _ => by
  have e : i = b := by omega
  subst e
  rw [Jkg, Jw8]
  rw [Jab (ff (by omega))]
 | j + 1, 0, i, _, hm => absurd hm (by omega)
 | j + 1, m + 1, i, hi, hm => by
  have ih := Qkr F fail ex N hN b hb j m (i + 1) (by omega) (by omega)
  have hd := Nat.div_le_self N (2 ^ (8 * i))
  have e1 : Jzd ((N / 2 ^ (8 * i) : Nat) : Int) 256 = ((N / 2 ^ (8 * (i + 1)) : Nat) : Int) := by
   rw [Qm6 _ (by omega), show 8 * (i + 1) = 8 * i + 8 by omega, Nat.pow_add, ← Nat.div_div_eq_div_mul]
  have e2 := Qm7 (N / 2 ^ (8 * i))
  rw [Jkg, Jw8]
  simp only [e1, e2, ← J4r]
  rw [Jaa (tt (by omega)), Jaa (Jch (by rw [J2n]; omega)), Jai (by omega) (by omega)]
  exact ih
theorem Kmz (n b : Int) (h : Jnj n b = true) : ∃ F, ∀ {X : Type} (fail : X) (ret : List UInt8 → X), Kyl F n b fail ret = ret (Jjo n b) := ⟨99, fun fail ret => by
 simp only [Jnj, decide_eq_true_eq] at h
 obtain ⟨N, rfl⟩ : ∃ N : Nat, n = N := ⟨n.toNat, by omega⟩
 obtain ⟨k, rfl⟩ : ∃ k : Nat, b = k := ⟨b.toNat, by omega⟩
 unfold Kyl
 have e := Qkr 99 fail (fun (_ : Int) (_ : Int) (_ : Int) (out : List UInt8) => ret out) N (by omega) k (by omega) k 98 0 (by omega) (by omega)
 rw [Nat.mul_zero, Nat.pow_zero, Nat.div_one] at e
 exact e⟩
theorem Qm8 (x : UInt32) : Jjo (Qbp x) 4 = le4 x := by
 have hx := x.toNat_lt
 have s1 := Jph x 8 (by omega)
 have s2 := Jph x 16 (by omega)
 have s3 := Jph x 24 (by omega)
 have e : ∀ (y : UInt32) (k : Nat), y.toNat = x.toNat / 2 ^ k → UInt8.ofNat (x.toNat / 2 ^ k % 256) = J7d y := fun y k h => by
  apply UInt8.toNat_inj.1
  rw [K4c, h, UInt8.toNat_ofNat']; omega
 rw [Kx5]
 show [UInt8.ofNat (x.toNat / 2 ^ 0 % 256), UInt8.ofNat (x.toNat / 2 ^ 8 % 256), UInt8.ofNat (x.toNat / 2 ^ 16 % 256), UInt8.ofNat (x.toNat / 2 ^ 24 % 256)] = _
 rw [e x 0 (by omega), e _ 8 s1, e _ 16 s2, e _ 24 s3]
 rfl
theorem Qpc {X : Type} (F : Nat) (fail : X) (ex : Int → List UInt32 → List UInt32 → List UInt8 → X) (v w : List UInt32) (hv : v.length = 16) (hw : w.length = 16) : ∀ (j m i : Nat), i + j = 16 → j ≤ m →
  Jm0 F fail ex (m + 1) i w v (Klo v w i) = ex (16 : Nat) w v (Klo v w 16)
 | 0, m, i, hi, _ => by
  have e : i = 16 := by omega
  subst e
  rw [Jm0, J19]
  rw [Jab (ff (by omega))]
 | j + 1, 0, i, _, hm => absurd hm (by omega)
 | j + 1, m + 1, i, hi, hm => by
  have ih := Qpc F fail ex v w hv hw j m (i + 1) (by omega) (by omega)
  have hl := J2m v w (i + 1)
  have hx := (Jbp (v.getD i 0) (w.getD i 0)).toNat_lt
  rw [Jm0, J19]
  simp only [Int.toNat_natCast, Qm8, ← J4q]
  rw [Jaa (tt (by omega)), Jaa (tt2 (by omega) (by omega)), Jaa (tt2 (by omega) (by omega)), Jaa (c := Jnj _ _) (by rw [Kx5]; exact tt (by omega)), Jaa (Jch (by omega)), Jai (by omega) (by omega)]
  exact ih
theorem Kr5 (key : List UInt8) (nonce counter : Int) (_ : J8w key nonce counter = true) : ∃ F, ∀ {X : Type} (fail : X) (ret : List UInt8 → Int → X), Qb8 F key nonce counter fail ret = ret (Jjq key nonce counter) (Kaz key nonce counter) := ⟨99, fun fail ret => by
 unfold Qb8 Jjq Kaz Jjp
 rcases K7f nonce counter with ⟨h, e⟩ | ⟨h, h1, e⟩ | ⟨h, h1, h2, e⟩ | ⟨h, h1, h2, e⟩ <;> rw [e, h]
 ·rw [Jaa (c := !false) rfl, if_neg (by omega)]
 ·rw [Jab (c := !true) rfl, Jaa (tt h1), if_neg (by omega)]
 ·rw [Jab (c := !true) rfl, Jab (ff h1), Jaa (tt h2), if_neg (by omega)]
 ·rw [Jab (c := !true) rfl, Jab (ff h1), Jab (ff h2), if_pos rfl, Jaa (c := Jwm key nonce counter) h, Jaa (c := Jwm key nonce counter) h]
  refine (Qpb fail _ (Qop key nonce counter) _ rfl 10 98 0 rfl (by omega)).trans ?_
  exact Qpc 99 fail _ _ _ (by rw [J9g]; rfl) rfl 16 98 0 rfl (by omega)⟩
theorem Qdl (a b : List UInt8) (i : Nat) (ha : i < a.length) (hb : i < b.length) : (Qlt a b).getD i 0 = Jtq (a.getD i 0) (b.getD i 0) := by
 unfold Qlt
 rw [Jpi (by rw [List.length_zipWith]; omega), Jpi ha, Jpi hb, List.getElem_zipWith]
theorem Kze (key : List UInt8) (nonce : Int) : ∀ (n c : Nat) (b : List UInt8), b.length ≤ 64 * n → (Qnz key nonce n c b).length = b.length ∧ ∀ p, p < b.length → (Qnz key nonce n c b).getD p 0 = Jtq (b.getD p 0) ((Kya key nonce ((c + p / 64 : Nat) : Int)).getD (p % 64) 0)
  | 0, c, b, h => ⟨by have : b.length = 0 := by omega
                      rw [this]; rfl, fun p hp => absurd hp (by omega)⟩
  | n + 1, c, b, h => by
    have hk := Kmw key nonce c
    obtain ⟨l, g⟩ := Kze key nonce n (c + 1) (b.drop 64) (by rw [List.length_drop]; omega)
    have lx : (Qlt (b.take 64) (Kya key nonce c)).length = min 64 b.length := by
      unfold Qlt; rw [List.length_zipWith, List.length_take, hk]; omega
    refine ⟨?_, fun p hp => ?_⟩
    · show (Qlt _ _ ++ Qnz key nonce n (c + 1) (b.drop 64)).length = _
      rw [List.length_append, lx, l, List.length_drop]; omega
    · show (Qlt (b.take 64) (Kya key nonce c) ++ Qnz key nonce n (c + 1) (b.drop 64)).getD p 0 = _
      rw [List.getD_eq_getElem?_getD]
      by_cases hp64 : p < 64
      · rw [List.getElem?_append_left (by omega), ← List.getD_eq_getElem?_getD, Qdl _ _ _ (by rw [List.length_take]; omega) (by omega), Juq _ _ _ _ hp64, show c + p / 64 = c by omega, Nat.mod_eq_of_lt hp64]
      · rw [List.getElem?_append_right (by omega), ← List.getD_eq_getElem?_getD, lx, show p - min 64 b.length = p - 64 by omega, g (p - 64) (by rw [List.length_drop]; omega)]
        rw [show c + 1 + (p - 64) / 64 = c + p / 64 by omega, show (p - 64) % 64 = p % 64 by omega]
        congr 1
        simp only [List.getD_eq_getElem?_getD, List.getElem?_drop]
        rw [show 64 + (p - 64) = p by omega]
theorem Jsk (key : List UInt8) (nonce : Int) (b : List UInt8) : (Ke3 key nonce b).length = b.length := (Kze key nonce _ 1 b (by omega)).1
theorem K4v (key : List UInt8) (nonce : Int) (b : List UInt8) (p : Nat) (h : p < b.length) : (Ke3 key nonce b).getD p 0 = Jtq (b.getD p 0) ((Kya key nonce ((1 + p / 64 : Nat) : Int)).getD (p % 64) 0) := (Kze key nonce _ 1 b (by omega)).2 p h
def ovr (s b : List UInt8) (p : Nat) : List UInt8 := s.take p ++ b.drop p
theorem Qm9 {s b : List UInt8} (h : s.length = b.length) (p : Nat) : (ovr s b p).length = b.length := by
 unfold ovr; rw [List.length_append, List.length_take, List.length_drop]; omega
theorem Qna {s b : List UInt8} (h : s.length = b.length) (p : Nat) (hp : p < b.length) : (ovr s b p).getD p 0 = b.getD p 0 := by
 unfold ovr
 simp only [List.getD_eq_getElem?_getD]
 rw [List.getElem?_append_right (by rw [List.length_take]; omega), List.length_take, show p - min p s.length = 0 by omega, List.getElem?_drop, Nat.add_zero]
theorem Qnb {s b : List UInt8} (h : s.length = b.length) (p : Nat) (hp : p < b.length) : (ovr s b p).set p (s.getD p 0) = ovr s b (p + 1) := by
 unfold ovr
 rw [List.set_append_right _ _ (by rw [List.length_take]; omega), List.length_take, show p - min p s.length = 0 by omega, Jd9 s p 0 (by omega), List.append_assoc]
 congr 1
 rw [List.drop_eq_getElem_cons hp]
 rfl
theorem Km0 {s b : List UInt8} (h : s.length = b.length) (p : Nat) (hp : b.length ≤ p) : ovr s b p = s := by
 unfold ovr
 rw [List.take_of_length_le (by omega), List.drop_eq_nil_of_le hp, List.append_nil]
theorem Qnc {s b : List UInt8} (h : s.length = b.length) (p : Nat) : ovr s b (min p b.length) = ovr s b p := by
 by_cases hp : p ≤ b.length
 ·rw [Nat.min_eq_left hp]
 ·rw [Nat.min_eq_right (by omega), Km0 h _ (Nat.le_refl _), Km0 h _ (by omega)]
theorem Qpd {X : Type} (F : Nat) (fail : X) (ex : Nat → Nat → Int → Int → Int → List UInt8 → Int → Int → List UInt8 → List UInt8 → List UInt8 → Int → Int → X) (key : List UInt8) (nonce : Int) (b : List UInt8) (b' : List UInt8) (i n : Nat) (q s7 c s2 : Int) (hn : n ≤ 64) (hi : i % 64 = 0) (hb : i + n ≤ b.length) : ∀ (j m k : Nat), k + j = n → j ≤ m →
  Jkf F fail ex (m + 1) i n (n : Nat) k q b' s7 c (ovr (Ke3 key nonce b) b (i + k)) (Kya key nonce ((1 + i / 64 : Nat) : Int)) key nonce s2 = ex i n (n : Nat) (n : Nat) q b' s7 c (ovr (Ke3 key nonce b) b (i + n)) (Kya key nonce ((1 + i / 64 : Nat) : Int)) key nonce s2
 | 0, m, k, hk, _ => by
  have e : k = n := by omega
  subst e
  rw [Jkf, Jw7]
  rw [Jab (ff (by omega))]
 | j + 1, 0, k, _, hm => absurd hm (by omega)
 | j + 1, m + 1, k, hk, hm => by
  have ih := Qpd F fail ex key nonce b b' i n q s7 c s2 hn hi hb j m (k + 1) (by omega) (by omega)
  have hl := Jsk key nonce b
  have hg := K4v key nonce b (i + k) (by omega)
  rw [show 1 + (i + k) / 64 = 1 + i / 64 by omega, show (i + k) % 64 = k by omega] at hg
  rw [Jkf, Jw7, Int.toNat_natCast, Qna hl (i + k) (by omega), ← hg, Qnb hl (i + k) (by omega), Kmw]
  rw [Jaa (tt (by omega)), Jaa (tt2 (by omega) (by omega)), Jaa (tt2 (by omega) (by omega)), Jaa (tt2 (by omega) (by omega)), Jai (by omega) (by omega)]
  exact ih
theorem Qpe {X : Type} (fail : X) (ex : Int → List UInt8 → Int → List UInt8 → Int → Int → List UInt8 → Int → X) (key : List UInt8) (nonce : Int) (hr : inR nonce = true) (b b' : List UInt8) (s7 : Int) (hb : b.length ≤ 65536) : ∀ (j m k : Nat), b.length ≤ 64 * (k + j) → j ≤ m →
  ∃ i c, Jid 2000 fail ex (m + 1) (64 * k : Nat) b' s7 key nonce (1 + k : Nat) (ovr (Ke3 key nonce b) b (64 * k)) 64 = ex i b' s7 key nonce c (Ke3 key nonce b) 64
 | 0, m, k, hk, _ => by
  have hl := Jsk key nonce b
  refine ⟨((64 * k : Nat) : Int), ((1 + k : Nat) : Int), ?_⟩
  rw [Jid, Jql]
  rw [Km0 hl _ (by omega), hl, Jab (ff (by omega))]
 | j + 1, 0, k, _, hm => absurd hm (by omega)
 | j + 1, m + 1, k, hk, hm => by
  have hl := Jsk key nonce b
  have ho := Qm9 hl (64 * k)
  by_cases hlt : 64 * k < b.length
  ·obtain ⟨i, c, ih⟩ := Qpe fail ex key nonce hr b b' s7 hb j m (k + 1) (by omega) (by omega)
   refine ⟨i, c, ?_⟩
   have emin : Kle 64 ((b.length - 64 * k : Nat) : Int) = ((min 64 (b.length - 64 * k) : Nat) : Int) := by rw [Qbr]; omega
   have eadd : Jag ((64 * k : Nat) : Int) ((min 64 (b.length - 64 * k) : Nat) : Int) = ((64 * k + min 64 (b.length - 64 * k) : Nat) : Int) := by rw [Jai (by omega) (by omega)]; omega
   rw [Jid, Jql, ho]
   simp only [Int.toNat_natCast, emin, eadd]
   rw [Jaa (tt (by omega)), Jaa (tt2 (by omega) (by omega)), Jaa (by rw [tt3 (by omega) (by omega) (by omega)]; exact Jk8 rfl), Jaa (c := K32 key nonce _) hr]
   rw [show 64 * k + min 64 (b.length - 64 * k) - 64 * k = min 64 (b.length - 64 * k) by omega]
   have hc : K33 key nonce ((1 + k : Nat) : Int) = Kya key nonce ((1 + 64 * k / 64 : Nat) : Int) := by rw [show 64 * k / 64 = k by omega]; rfl
   rw [hc]
   refine (Qpd 2000 fail _ key nonce b b' (64 * k) (min 64 (b.length - 64 * k)) _ s7 _ 64 (by omega) (by omega) (by omega) (min 64 (b.length - 64 * k)) 1999 0 (by omega) (by omega)).trans ?_
   rw [show 64 * k + min 64 (b.length - 64 * k) = min (64 * (k + 1)) b.length by omega, Qnc hl, show Jag ((64 * k : Nat) : Int) 64 = ((64 * (k + 1) : Nat) : Int) by rw [Jai (by omega) (by omega)]; omega, show Jag ((1 + k : Nat) : Int) 1 = ((1 + (k + 1) : Nat) : Int) by rw [Jai (by omega) (by omega)]; omega]
   exact ih
  ·refine ⟨((64 * k : Nat) : Int), ((1 + k : Nat) : Int), ?_⟩
   rw [Jid, Jql]
   rw [Km0 hl _ (by omega), hl, Jab (ff (by omega))]
theorem Kiv (nonce : Int) (b : List UInt8) : ((b.length : Int) > 65536 ∧ Qbv nonce b = 5) ∨ (¬ (b.length : Int) > 65536 ∧ inR nonce = false ∧ Qbv nonce b = 2) ∨ (¬ (b.length : Int) > 65536 ∧ inR nonce = true ∧ Qbv nonce b = 0) := by
 unfold Qbv
 by_cases h : (b.length : Int) > 65536
 ·exact .inl ⟨h, if_pos h⟩
 ·rw [if_neg h]
  cases inR nonce with
  | false => exact .inr (.inl ⟨h, rfl, rfl⟩)
  | true => exact .inr (.inr ⟨h, rfl, rfl⟩)
theorem Km1 (key : List UInt8) (nonce : Int) (b : List UInt8) (_ : Jnh key nonce b = true) : ∃ F, ∀ {X : Type} (fail : X) (ret : List UInt8 → Int → X), Kyk F key nonce b fail ret = ret (Jj7 key nonce b) (Jhn key nonce b) := ⟨2000, fun fail ret => by
 unfold Kyk Jj7 Jhn Jrs Qoq
 rcases Kiv nonce b with ⟨h, e⟩ | ⟨h, h1, e⟩ | ⟨h, h1, e⟩ <;> rw [e]
 ·rw [Jaa (tt h), if_neg (by omega)]
 ·rw [Jab (ff h), h1, Jaa (c := !false) rfl, if_neg (by omega)]
 ·rw [Jab (ff h), h1, Jab (c := !true) rfl, if_pos rfl, Jaa (c := Jbq b) (tt (by omega))]
  obtain ⟨i, c, hx⟩ := Qpe fail (fun (_ : Int) (_ : List UInt8) (_ : Int) (_ : List UInt8) (_ : Int) (_ : Int) (out : List UInt8) (_ : Int) => ret out (0 : Int)) key nonce h1 b b 0 (by omega) 1024 1999 0 (by omega) (by omega)
  exact hx⟩
theorem rs_l {X : Type} (F : Nat) (fail : X) (ex : Int → List UInt8 → Int → List UInt8 → List UInt8 → List UInt8 → X) (key : List UInt8) (nonce : Int) (hr : inR nonce = true) (b : List UInt8) (hb : b.length ≤ 65536) : ∀ (j m i : Nat) (blk : List UInt8), i + j = b.length → j ≤ m → (i % 64 ≠ 0 → blk = Kya key nonce ((1 + i / 64 : Nat) : Int)) →
  ∃ blk', Jkh F fail ex (m + 1) nonce b i key ((Ke3 key nonce b).take i) blk = ex nonce b (b.length : Nat) key (Ke3 key nonce b) blk'
 | 0, m, i, blk, hi, _, _ => by
  have hl := Jsk key nonce b
  have e : i = b.length := by omega
  subst e
  refine ⟨blk, ?_⟩
  rw [Jkh, Jw9]
  rw [Jab (ff (by omega)), List.take_of_length_le (by omega)]
 | j + 1, 0, i, _, _, hm, _ => absurd hm (by omega)
 | j + 1, m + 1, i, blk, hi, hm, hk => by
  have hl := Jsk key nonce b
  have hg := K4v key nonce b i (by omega)
  have er : Jcg (i : Int) 64 = ((i % 64 : Nat) : Int) := by rw [Jj6 (by omega)]; omega
  have ec : Jag 1 (Jzd (i : Int) 64) = ((1 + i / 64 : Nat) : Int) := by rw [Jrp (by omega) (by omega) (by omega), Jai (by omega) (by omega)]; omega
  have hbk : Jjq key nonce ((1 + i / 64 : Nat) : Int) = Kya key nonce ((1 + i / 64 : Nat) : Int) := by
   unfold Jjq
   rw [if_pos (by unfold Qkb; rw [if_pos ⟨hr, by omega, by omega⟩])]
  have hb64 := Kmw key nonce ((1 + i / 64 : Nat) : Int)
  obtain ⟨blk', ih⟩ := rs_l F fail ex key nonce hr b hb j m (i + 1) (Kya key nonce ((1 + i / 64 : Nat) : Int)) (by omega) (by omega) (fun h => by rw [show (i + 1) / 64 = i / 64 by omega])
  refine ⟨blk', ?_⟩
  rw [Jd9 (Ke3 key nonce b) i 0 (by omega), hg] at ih
  have hlt : ((Ke3 key nonce b).take i ++ [Jtq (b.getD i 0) ((Kya key nonce ((1 + i / 64 : Nat) : Int)).getD (i % 64) 0)]).length ≤ 2147483648 := by
   rw [List.length_append, List.length_take]; show min i _ + 1 ≤ _; omega
  rw [Jkh, Jw9, er, ec, hbk]
  simp only [Int.toNat_natCast]
  rw [Jaa (tt (by omega))]
  by_cases h0 : i % 64 = 0
  ·rw [Jaa (Jk8 (by omega)), Jaa (c := J8w _ _ _) rfl, Jaa (tt2 (by omega) (by omega)), Jaa (tt2 (by omega) (by omega)), Jaa (Jch hlt), Jai (by omega) (by omega)]
   exact ih
  ·rw [hk h0, Jab (Jl3 (by omega)), Jaa (tt2 (by omega) (by omega)), Jaa (tt2 (by omega) (by omega)), Jaa (Jch hlt), Jai (by omega) (by omega)]
   exact ih
theorem Km2 (key : List UInt8) (nonce : Int) (b : List UInt8) (_ : J1f key nonce b = true) : ∃ F, ∀ {X : Type} (fail : X) (ret : List UInt8 → Int → X), Kyn F key nonce b fail ret = ret (Jp8 key nonce b) (Jp9 key nonce b) := ⟨70000, fun fail ret => by
 unfold Kyn Jp8 Jp9 Jjp Qoq
 rcases Kiv nonce b with ⟨h, e⟩ | ⟨h, h1, e⟩ | ⟨h, h1, e⟩ <;> rw [e]
 ·rw [Jaa (tt h), if_neg (by omega)]
 ·rw [Jab (ff h), h1, Jaa (c := !false) rfl, if_neg (by omega)]
 ·rw [Jab (ff h), h1, Jab (c := !true) rfl, if_pos rfl]
  obtain ⟨c, hx⟩ := rs_l 70000 fail (fun (_ : Int) (_ : List UInt8) (_ : Int) (_ : List UInt8) (out : List UInt8) (_ : List UInt8) => ret out (0 : Int)) key nonce h1 b (by omega) b.length 69999 0 [] (by omega) (by omega) (fun h => absurd rfl h)
  exact hx⟩
end Go.AI
