/- Texts of the proof, joined: CipherP. Names of our own are shortened by program; the long ones stand in wip/. -/
import Derived.Test.YtnmidfcefljafaaGreatQsG
import Derived.Test.YtnmidfcefljafaaGreatQsDigestP4
namespace Go.AI
open Go
theorem K6f (x P Q : Nat) (h : P * Q = 2147483648) (hx : x < 4294967296) :
  (2 * ((x * Q) % 4294967296 + x / (2 * P)) % 4294967296 + ((x * Q) % 4294967296 + x / (2 * P)) / 2147483648) % 4294967296 = (x * (2 * Q)) % 4294967296 + x / P := by
 have hP : 0 < P := Nat.pos_of_ne_zero fun e => by subst e; omega
 have hs : x % P < P := Nat.mod_lt _ hP
 have h1 : (x % P + 1) * Q ≤ P * Q := Nat.mul_le_mul_right Q hs
 rw [Nat.add_mul, Nat.one_mul, h] at h1
 have h2 : x * Q = x / P * 2147483648 + x % P * Q := by
  have e := congrArg (· * Q) (Nat.div_add_mod x P).symm
  simp only [Nat.add_mul] at e
  rw [Nat.mul_right_comm, h, Nat.mul_comm 2147483648] at e
  exact e
 have h3 : x * (2 * Q) = 2 * (x * Q) := by rw [Nat.mul_left_comm]
 have h4 : x / (2 * P) = x / P / 2 := by rw [Nat.mul_comm, Nat.div_div_eq_div_mul]
 have h5 : x / P < 2 * Q := by
  rw [Nat.div_lt_iff_lt_mul hP, Nat.mul_assoc, Nat.mul_comm Q, h]; omega
 rw [h4, h3, h2]
 clear h2 h3 h4
 generalize x % P * Q = N at *
 obtain ⟨a, u, hu, e⟩ : ∃ a u, u < 2 ∧ x / P = 2 * a + u := ⟨x / P / 2, x / P % 2, by omega, by omega⟩
 rw [e] at h5 ⊢
 have e1 : ((2 * a + u) * 2147483648 + N) % 4294967296 = u * 2147483648 + N := by omega
 have e2 : (2 * a + u) / 2 = a := by omega
 have e3 : 2 * ((2 * a + u) * 2147483648 + N) % 4294967296 = 2 * N := by omega
 rw [e1, e2, e3]
 have e4 : (u * 2147483648 + N + a) / 2147483648 = u := by omega
 have hb : 2 * N + 2 * a < 4294967296 := by omega
 have e5 : 2 * (u * 2147483648 + N + a) % 4294967296 = 2 * N + 2 * a := by
  clear e1 e2 e3 e4 e h1 h5
  rw [show 2 * (u * 2147483648 + N + a) = 2 * N + 2 * a + 4294967296 * u by omega, Nat.add_mul_mod_self_left, Nat.mod_eq_of_lt hb]
 rw [e4, e5]
 omega
theorem Kxj (x : Nat) (hx : x < 4294967296) (i : Nat) (hi : i < 16) : (2 * K3r x i % 4294967296 + K3r x i / 2147483648) % 4294967296 = K3r x (i + 1) := by
 have h31 := Nat.pow_add 2 (31 - i) i
 rw [show 31 - i + i = 31 by omega] at h31
 have h := K6f x (2 ^ (31 - i)) (2 ^ i) (by omega) hx
 have e : 2 * 2 ^ (31 - i) = 2 ^ (32 - i) := by rw [← Nat.pow_succ', show (31 - i).succ = 32 - i by omega]
 have e' : 2 * 2 ^ i = 2 ^ (i + 1) := by rw [← Nat.pow_succ']
 rw [e, e'] at h
 unfold K3r
 rw [show 32 - (i + 1) = 31 - i by omega]
 exact h
theorem K6g (x : Nat) (hx : x < 4294967296) (i : Nat) (hi : i < 17) : K3r x i < 4294967296 := by
 cases i with
 | zero => simp only [K3r]; omega
 | succ i =>
  rw [← Kxj x hx i (by omega)]
  exact Nat.mod_lt _ (by omega)
theorem K18 (x : UInt32) (i : Nat) (h : i < 17) : (K8b x i).toNat = K3r x.toNat i := by
 have := K6g x.toNat x.toNat_lt i h
 unfold K8b
 rw [UInt32.toNat_ofNat']; omega
theorem K8v (x a b : Nat) (k : Nat) (h1 : a = 2 ^ k * (x % 2 ^ (32 - k))) (h2 : b < 2 ^ k) : (a ||| b) = a + b := by
 rw [h1, ← Nat.two_pow_add_eq_or_of_lt h2]
theorem Jwh (x : UInt32) (k : Nat) (e : Int) (hk : e = k) (h0 : K76 (Krw e) 31 = (k : Int)) (h1 : subU 32 (k : Int) = ((32 - k : Nat) : Int)) (hk32 : k ≤ 16) (hd : x.toNat / 2 ^ (32 - k) < 2 ^ k) (hm : x.toNat * 2 ^ k % 4294967296 = 2 ^ k * (x.toNat % 2 ^ (32 - k))) :
  orW (Jxf x (K76 (Krw e) 31)) (Jrn x (subU 32 (K76 (Krw e) 31))) = K8b x e.toNat := by
 subst hk
 apply UInt32.toNat_inj.1
 rw [Int.toNat_natCast, K18 x k (by omega), h0, h1, Kfx, UInt32.toNat_or, Jog x k (by omega), Jwd x (32 - k) (by omega)]
 exact K8v x.toNat _ _ k hm hd
theorem Klq (x : UInt32) (k : Int) (h : Jxz x k = true) : ∃ F, ∀ {X : Type} (fail : X) (ret : UInt32 → X), K5r F x k fail ret = ret (J2w x k) := ⟨1, fun fail ret => by
 have hx := x.toNat_lt
 simp only [Jxz, Bool.or_eq_true, beq_iff_eq] at h
 unfold K5r J2w
 congr 1
 rcases h with ((rfl | rfl) | rfl) | rfl
 ·exact Jwh x 7 7 rfl (by decide) (by decide) (by omega) (by omega) (by omega)
 ·exact Jwh x 8 8 rfl (by decide) (by decide) (by omega) (by omega) (by omega)
 ·exact Jwh x 12 12 rfl (by decide) (by decide) (by omega) (by omega) (by omega)
 ·exact Jwh x 16 16 rfl (by decide) (by decide) (by omega) (by omega) (by omega)⟩
theorem K6h (b0 b1 b2 b3 : UInt8) : orW (orW (orW (orW 0 (Jxf (Jxg b0) 0)) (Jxf (Jxg b1) 8)) (Jxf (Jxg b2) 16)) (Jxf (Jxg b3) 24) = UInt32.ofNat (b0.toNat + 256 * b1.toNat + 65536 * b2.toNat + 16777216 * b3.toNat) := by
 have h0 := b0.toNat_lt
 have h1 := b1.toNat_lt
 have h2 := b2.toNat_lt
 have h3 := b3.toNat_lt
 have s0 := Jog (Jxg b0) 0 (by omega)
 have s1 := Jog (Jxg b1) 8 (by omega)
 have s2 := Jog (Jxg b2) 16 (by omega)
 have s3 := Jog (Jxg b3) 24 (by omega)
 rw [Kpx] at s0 s1 s2 s3
 apply UInt32.toNat_inj.1
 simp only [Kfx, UInt32.toNat_or]
 rw [show (Jxf (Jxg b0) 0).toNat = b0.toNat by rw [show (0 : Int) = ((0 : Nat) : Int) from rfl, s0]; omega, show (Jxf (Jxg b1) 8).toNat = 256 * b1.toNat by rw [show (8 : Int) = ((8 : Nat) : Int) from rfl, s1]; omega, show (Jxf (Jxg b2) 16).toNat = 65536 * b2.toNat by rw [show (16 : Int) = ((16 : Nat) : Int) from rfl, s2]; omega, show (Jxf (Jxg b3) 24).toNat = 16777216 * b3.toNat by rw [show (24 : Int) = ((24 : Nat) : Int) from rfl, s3]; omega]
 rw [UInt32.toNat_zero, Nat.zero_or, UInt32.toNat_ofNat']
 rw [Nat.or_comm b0.toNat, show 256 * b1.toNat = 2 ^ 8 * b1.toNat from rfl, ← Nat.two_pow_add_eq_or_of_lt (i := 8) (by omega)]
 rw [Nat.or_comm _ (65536 * b2.toNat), show 65536 * b2.toNat = 2 ^ 16 * b2.toNat from rfl, ← Nat.two_pow_add_eq_or_of_lt (i := 16) (by omega)]
 rw [Nat.or_comm _ (16777216 * b3.toNat), show 16777216 * b3.toNat = 2 ^ 24 * b3.toNat from rfl, ← Nat.two_pow_add_eq_or_of_lt (i := 24) (by omega)]
 omega
def K19 (key : List UInt8) (i : Nat) : List UInt32 := [1634760805, 857760878, 2036477234, 1797285236] ++ ((List.range 8).map fun j => if j < i then kwd key j else 0) ++ [0, 0, 0, 0]
theorem K2a (key : List UInt8) (i : Nat) : (K19 key i).length = 16 := by simp [K19]
theorem K2b (key : List UInt8) : ∀ i, i < 8 → (K19 key i).set (4 + i) (kwd key i) = K19 key (i + 1)
 | 0, _ | 1, _ | 2, _ | 3, _ | 4, _ | 5, _ | 6, _ | 7, _ => rfl
 | n + 8, h => absurd h (by omega)
theorem K2c (key : List UInt8) : ∀ i, i < 8 → (K19 key i).getD (4 + i) 0 = 0
 | 0, _ | 1, _ | 2, _ | 3, _ | 4, _ | 5, _ | 6, _ | 7, _ => rfl
 | n + 8, h => absurd h (by omega)
theorem Jju {X : Type} (F : Nat) (fail : X) (ex : Int → Int → Int → Int → Int → List UInt8 → List UInt32 → List UInt32 → X) (a b c : Int) (key : List UInt8) (s6 w : List UInt32) (m i j : Nat) (hi : i < 8) (hj : j < 4) :
  Jg8 F fail ex (m + 1) a b i c j key s6 w = Jg8 F fail ex m a b i c (j + 1 : Nat) key s6 (w.set (4 + i) (orW (w.getD (4 + i) 0) (Jxf (Jxg (key.getD (4 * i + j) 0)) ((8 * j : Nat) : Int)))) := by
 have e4 : Jat 4 (i : Int) = ((4 + i : Nat) : Int) := by rw [Jar (by omega) (by omega)]; omega
 have e5 : Jat (Jll 4 (i : Int)) j = ((4 * i + j : Nat) : Int) := by rw [Ji5 (by omega) (by omega), Jar (by omega) (by omega)]; omega
 have e8 : Jll 8 (j : Int) = ((8 * j : Nat) : Int) := by rw [Ji5 (by omega) (by omega)]; omega
 rw [Jg8, Jv8]
 rw [e4, e5, e8, Jaa (tt (by omega)), Jaa (tt2 (by omega) (by omega)), Jaa (tt2 (by omega) (by omega)), Jaa (tt (by omega)), Jaa (tt2 (by omega) (by omega)), Jar (by omega) (by omega)]
 rfl
theorem K2d {X : Type} (F : Nat) (fail : X) (ex : Int → Int → Int → Int → Int → List UInt8 → List UInt32 → List UInt32 → X) (a b c : Int) (key : List UInt8) (s6 : List UInt32) (m i : Nat) (hi : i < 8) :
  Jg8 F fail ex (m + 5) a b i c 0 key s6 (K19 key i) = ex a b i c (4 : Nat) key s6 (K19 key (i + 1)) := by
 have hl := K2a key i
 rw [show (0 : Int) = ((0 : Nat) : Int) from rfl, Jju F fail ex a b c key s6 _ _ i 0 hi (by omega), Jju F fail ex a b c key s6 _ _ i 1 hi (by omega), Jju F fail ex a b c key s6 _ _ i 2 hi (by omega), Jju F fail ex a b c key s6 _ _ i 3 hi (by omega)]
 rw [Jg8, Jv8]
 rw [Jab (ff (by omega))]
 rw [Jev (by omega), Jev (by rw [List.length_set]; omega), Jev (by rw [List.length_set, List.length_set]; omega), K2c key i hi]
 simp only [List.set_set]
 rw [← K2b key i hi]
 congr 2
 exact K6h _ _ _ _
theorem Kqa {X : Type} (fail : X) (ex : Int → Int → Int → List UInt8 → List UInt32 → List UInt32 → X) (a b : Int) (key : List UInt8) (s6 : List UInt32) : ∀ (j m i : Nat), i + j = 8 → j ≤ m →
  Jj9 99 fail ex (m + 1) a b i key s6 (K19 key i) = ex a b (8 : Nat) key s6 (K19 key 8)
 | 0, m, i, hi, _ => by
  have e : i = 8 := by omega
  subst e
  rw [Jj9, Jv9]
  rw [Jab (ff (by omega))]
 | j + 1, 0, i, _, hm => absurd hm (by omega)
 | j + 1, m + 1, i, hi, hm => by
  have ih := Kqa fail ex a b key s6 j m (i + 1) (by omega) (by omega)
  rw [Jj9, Jv9]
  rw [Jaa (tt (by omega))]
  refine (K2d 99 fail _ a b _ key s6 94 i (by omega)).trans ?_
  rw [Jar (by omega) (by omega)]
  exact ih
theorem Kbl {n : Int} : inR n = true ↔ 0 ≤ n ∧ n ≤ 9007199254740991 := by simp only [inR, decide_eq_true_eq]
theorem Kgb (key : List UInt8) (nonce counter : Int) (h : J08 key nonce counter = true) : ∃ F, ∀ {X : Type} (fail : X) (ret : List UInt32 → X), Kwg F key nonce counter fail ret = ret (J09 key nonce counter) := ⟨99, fun fail ret => by
 have h := Kbl.1 h
 unfold Kwg
 refine (Kqa fail _ nonce counter key _ 8 98 0 rfl (by omega)).trans ?_
 rw [show Kfd nonce 32 = nonce / 4294967296 by rw [J99 (by omega) (by omega)]; rfl]
 rfl⟩
end Go.AI
