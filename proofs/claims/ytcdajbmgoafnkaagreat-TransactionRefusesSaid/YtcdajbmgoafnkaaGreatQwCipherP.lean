/- Texts of the proof, joined: CipherP. Names of our own are shortened by program; the long ones stand in wip/. -/
import Derived.Test.YtcdajbmgoafnkaaGreatQwG
import Derived.Test.YtcdajbmgoafnkaaGreatQwDigestP4
namespace Go.AI
open Go
theorem Qf5 (x P Q : Nat) (h : P * Q = 2147483648) (hx : x < 4294967296) :
  (2 * ((x * Q) % 4294967296 + x / (2 * P)) % 4294967296 + ((x * Q) % 4294967296 + x / (2 * P)) / 2147483648) % 4294967296 = (x * (2 * Q)) % 4294967296 + x / P := by
 have hP : 0 < P := Nat.pos_of_ne_zero fun e => by subst e; omega
 have hs : x % P < P := Nat.mod_lt _ hP
 have h1 : (x % P + 1) * Q ≤ P * Q := Nat.mul_le_mul_right Q hs
 rw [Nat.add_mul, Nat.one_mul, h] at h1
 have h2 : x * Q = x / P * 2147483648 + x % P * Q := by
  have e := congrArg (· * Q) (Nat.div_add_mod x P).symm
  simp only [Nat.add_mul] at e
  rw [Nat.mul_right_comm, h, Nat.mul_comm 2147483648] at e
  exact e
 have h3 : x * (2 * Q) = 2 * (x * Q) := by rw [Nat.mul_left_comm]
 have h4 : x / (2 * P) = x / P / 2 := by rw [Nat.mul_comm, Nat.div_div_eq_div_mul]
 have h5 : x / P < 2 * Q := by
  rw [Nat.div_lt_iff_lt_mul hP, Nat.mul_assoc, Nat.mul_comm Q, h]; omega
 rw [h4, h3, h2]
 clear h2 h3 h4
 generalize x % P * Q = N at *
 obtain ⟨a, u, hu, e⟩ : ∃ a u, u < 2 ∧ x / P = 2 * a + u := ⟨x / P / 2, x / P % 2, by omega, by omega⟩
 rw [e] at h5 ⊢
 have e1 : ((2 * a + u) * 2147483648 + N) % 4294967296 = u * 2147483648 + N := by omega
 have e2 : (2 * a + u) / 2 = a := by omega
 have e3 : 2 * ((2 * a + u) * 2147483648 + N) % 4294967296 = 2 * N := by omega
 rw [e1, e2, e3]
 have e4 : (u * 2147483648 + N + a) / 2147483648 = u := by omega
 have hb : 2 * N + 2 * a < 4294967296 := by omega
 have e5 : 2 * (u * 2147483648 + N + a) % 4294967296 = 2 * N + 2 * a := by
  clear e1 e2 e3 e4 e h1 h5
  rw [show 2 * (u * 2147483648 + N + a) = 2 * N + 2 * a + 4294967296 * u by omega, Nat.add_mul_mod_self_left, Nat.mod_eq_of_lt hb]
 rw [e4, e5]
 omega
theorem Klw (x : Nat) (hx : x < 4294967296) (i : Nat) (hi : i < 16) : (2 * Qay x i % 4294967296 + Qay x i / 2147483648) % 4294967296 = Qay x (i + 1) := by
 have h31 := Nat.pow_add 2 (31 - i) i
 rw [show 31 - i + i = 31 by omega] at h31
 have h := Qf5 x (2 ^ (31 - i)) (2 ^ i) (by omega) hx
 have e : 2 * 2 ^ (31 - i) = 2 ^ (32 - i) := by rw [← Nat.pow_succ', show (31 - i).succ = 32 - i by omega]
 have e' : 2 * 2 ^ i = 2 ^ (i + 1) := by rw [← Nat.pow_succ']
 rw [e, e'] at h
 unfold Qay
 rw [show 32 - (i + 1) = 31 - i by omega]
 exact h
theorem Qf6 (x : Nat) (hx : x < 4294967296) (i : Nat) (hi : i < 17) : Qay x i < 4294967296 := by
 cases i with
 | zero => simp only [Qay]; omega
 | succ i =>
  rw [← Klw x hx i (by omega)]
  exact Nat.mod_lt _ (by omega)
theorem J42 (x : UInt32) (i : Nat) (h : i < 17) : (K16 x i).toNat = Qay x.toNat i := by
 have := Qf6 x.toNat x.toNat_lt i h
 unfold K16
 rw [UInt32.toNat_ofNat']; omega
theorem K54 (x : UInt32) : K16 x 0 = x := by
 apply UInt32.toNat_inj.1
 have hx := x.toNat_lt
 rw [J42 x 0 (by omega)]
 simp only [Qay]; omega
theorem Kxr (a b : UInt32) : (K12 a b).toNat = a.toNat * b.toNat % 4294967296 := by
 show (UInt32.ofNat (IntKind.u32.wrap ((a.toNat : Int) * b.toNat)).toNat).toNat = _
 rw [show (a.toNat : Int) * b.toNat = ((a.toNat * b.toNat : Nat) : Int) by push_cast; rfl, Jnb, UInt32.toNat_ofNat']; omega
theorem Qbk (a b : UInt32) : (quoW a b).toNat = a.toNat / b.toNat := by
 have ha := a.toNat_lt
 have hd := Nat.div_le_self a.toNat b.toNat
 show (UInt32.ofNat (IntKind.u32.wrap ((a.toNat : Int).tdiv b.toNat)).toNat).toNat = _
 rw [show (a.toNat : Int).tdiv b.toNat = ((a.toNat / b.toNat : Nat) : Int) from rfl]
 generalize a.toNat / b.toNat = q at *
 rw [Jnb, UInt32.toNat_ofNat']; omega
theorem K55 (x : UInt32) (i : Nat) (h : i < 16) : Jbf (K12 2 (K16 x i)) (quoW (K16 x i) 2147483648) = K16 x (i + 1) := by
 apply UInt32.toNat_inj.1
 rw [Jqc, Kxr, Qbk, J42 x i (by omega), J42 x (i + 1) (by omega)]
 exact Klw x.toNat x.toNat_lt i h
theorem K56 {X : Type} (F : Nat) (fail : X) (ex : UInt32 → Int → Int → X) (x : UInt32) (n : Nat) (hn : n ≤ 16) : ∀ (j m i : Nat), i + j = n → j ≤ m →
  Joo F fail ex (m + 1) (K16 x i) n i = ex (K16 x n) n n
 | 0, m, i, hi, _ => by
  have e : i = n := by omega
  subst e
  rw [Joo, J4x]
  rw [Jab (ff (by omega))]
 | j + 1, 0, i, _, hm => absurd hm (by omega)
 | j + 1, m + 1, i, hi, hm => by
  have ih := K56 F fail ex x n hn j m (i + 1) (by omega) (by omega)
  rw [Joo, J4x]
  rw [Jaa (tt (by omega)), Jak (by omega) (by omega), K55 x i (by omega)]
  exact ih
theorem Kse (x : UInt32) (n : Int) (h : Jgw x n = true) : ∃ F, ∀ {X : Type} (fail : X) (ret : UInt32 → X), Qff F x n fail ret = ret (Jiz x n) := ⟨99, fun fail ret => by
 simp only [Jgw, decide_eq_true_eq] at h
 obtain ⟨k, rfl⟩ : ∃ k : Nat, n = k := ⟨n.toNat, by omega⟩
 unfold Qff Jiz
 have e := K56 99 fail (fun (x_1 : UInt32) (_ : Int) (_ : Int) => ret x_1) x k (by omega) k 98 0 (by omega) (by omega)
 rw [K54] at e
 rw [Int.toNat_natCast]
 exact e⟩
theorem Qih (x a b : Nat) (k : Nat) (h1 : a = 2 ^ k * (x % 2 ^ (32 - k))) (h2 : b < 2 ^ k) : (a ||| b) = a + b := by
 rw [h1, ← Nat.two_pow_add_eq_or_of_lt h2]
theorem Jy5 (x : UInt32) (k : Nat) (e : Int) (hk : e = k) (h0 : Qhv (Kcm e) 31 = (k : Int)) (h1 : subU 32 (k : Int) = ((32 - k : Nat) : Int)) (hk32 : k ≤ 16) (hd : x.toNat / 2 ^ (32 - k) < 2 ^ k) (hm : x.toNat * 2 ^ k % 4294967296 = 2 ^ k * (x.toNat % 2 ^ (32 - k))) :
  orW (Jwh x (Qhv (Kcm e) 31)) (Jqx x (subU 32 (Qhv (Kcm e) 31))) = K16 x e.toNat := by
 subst hk
 apply UInt32.toNat_inj.1
 rw [Int.toNat_natCast, J42 x k (by omega), h0, h1, Klf, UInt32.toNat_or, Jqb x k (by omega), Jno x (32 - k) (by omega)]
 exact Qih x.toNat _ _ k hm hd
theorem Ksf (x : UInt32) (k : Int) (h : J0t x k = true) : ∃ F, ∀ {X : Type} (fail : X) (ret : UInt32 → X), Qfe F x k fail ret = ret (J6n x k) := ⟨1, fun fail ret => by
 have hx := x.toNat_lt
 simp only [J0t, Bool.or_eq_true, beq_iff_eq] at h
 unfold Qfe J6n
 congr 1
 rcases h with ((rfl | rfl) | rfl) | rfl
 ·exact Jy5 x 7 7 rfl (by decide) (by decide) (by omega) (by omega) (by omega)
 ·exact Jy5 x 8 8 rfl (by decide) (by decide) (by omega) (by omega) (by omega)
 ·exact Jy5 x 12 12 rfl (by decide) (by decide) (by omega) (by omega) (by omega)
 ·exact Jy5 x 16 16 rfl (by decide) (by decide) (by omega) (by omega) (by omega)⟩
theorem Qf7 (b0 b1 b2 b3 : UInt8) : orW (orW (orW (orW 0 (Jwh (Jn1 b0) 0)) (Jwh (Jn1 b1) 8)) (Jwh (Jn1 b2) 16)) (Jwh (Jn1 b3) 24) = UInt32.ofNat (b0.toNat + 256 * b1.toNat + 65536 * b2.toNat + 16777216 * b3.toNat) := by
 have h0 := b0.toNat_lt
 have h1 := b1.toNat_lt
 have h2 := b2.toNat_lt
 have h3 := b3.toNat_lt
 have s0 := Jqb (Jn1 b0) 0 (by omega)
 have s1 := Jqb (Jn1 b1) 8 (by omega)
 have s2 := Jqb (Jn1 b2) 16 (by omega)
 have s3 := Jqb (Jn1 b3) 24 (by omega)
 rw [Kgh] at s0 s1 s2 s3
 apply UInt32.toNat_inj.1
 simp only [Klf, UInt32.toNat_or]
 rw [show (Jwh (Jn1 b0) 0).toNat = b0.toNat by rw [show (0 : Int) = ((0 : Nat) : Int) from rfl, s0]; omega, show (Jwh (Jn1 b1) 8).toNat = 256 * b1.toNat by rw [show (8 : Int) = ((8 : Nat) : Int) from rfl, s1]; omega, show (Jwh (Jn1 b2) 16).toNat = 65536 * b2.toNat by rw [show (16 : Int) = ((16 : Nat) : Int) from rfl, s2]; omega, show (Jwh (Jn1 b3) 24).toNat = 16777216 * b3.toNat by rw [show (24 : Int) = ((24 : Nat) : Int) from rfl, s3]; omega]
 rw [UInt32.toNat_zero, Nat.zero_or, UInt32.toNat_ofNat']
 rw [Nat.or_comm b0.toNat, show 256 * b1.toNat = 2 ^ 8 * b1.toNat from rfl, ← Nat.two_pow_add_eq_or_of_lt (i := 8) (by omega)]
 rw [Nat.or_comm _ (65536 * b2.toNat), show 65536 * b2.toNat = 2 ^ 16 * b2.toNat from rfl, ← Nat.two_pow_add_eq_or_of_lt (i := 16) (by omega)]
 rw [Nat.or_comm _ (16777216 * b3.toNat), show 16777216 * b3.toNat = 2 ^ 24 * b3.toNat from rfl, ← Nat.two_pow_add_eq_or_of_lt (i := 24) (by omega)]
 omega
theorem Qii (b0 b1 b2 b3 : UInt8) : Jbf (Jbf (Jbf (Jn1 b0) (K12 256 (Jn1 b1))) (K12 65536 (Jn1 b2))) (K12 16777216 (Jn1 b3)) = UInt32.ofNat (b0.toNat + 256 * b1.toNat + 65536 * b2.toNat + 16777216 * b3.toNat) := by
 have h0 := b0.toNat_lt
 have h1 := b1.toNat_lt
 have h2 := b2.toNat_lt
 have h3 := b3.toNat_lt
 apply UInt32.toNat_inj.1
 simp only [Jqc, Kxr, Kgh, UInt32.toNat_ofNat']
 rw [show (256 : UInt32).toNat = 256 from rfl, show (65536 : UInt32).toNat = 65536 from rfl, show (16777216 : UInt32).toNat = 16777216 from rfl]
 omega
def Qbl (key : List UInt8) (i : Nat) : List UInt32 := [1634760805, 857760878, 2036477234, 1797285236] ++ ((List.range 8).map fun j => if j < i then kwd key j else 0) ++ [0, 0, 0, 0]
theorem Qbm (key : List UInt8) (i : Nat) : (Qbl key i).length = 16 := by simp [Qbl]
theorem Qbn (key : List UInt8) : ∀ i, i < 8 → (Qbl key i).set (4 + i) (kwd key i) = Qbl key (i + 1)
 | 0, _ | 1, _ | 2, _ | 3, _ | 4, _ | 5, _ | 6, _ | 7, _ => rfl
 | n + 8, h => absurd h (by omega)
theorem Qbo (key : List UInt8) : ∀ i, i < 8 → (Qbl key i).getD (4 + i) 0 = 0
 | 0, _ | 1, _ | 2, _ | 3, _ | 4, _ | 5, _ | 6, _ | 7, _ => rfl
 | n + 8, h => absurd h (by omega)
theorem Jk7 {X : Type} (F : Nat) (fail : X) (ex : Int → Int → Int → Int → Int → List UInt8 → List UInt32 → List UInt32 → X) (a b c : Int) (key : List UInt8) (s6 w : List UInt32) (m i j : Nat) (hi : i < 8) (hj : j < 4) :
  Jhv F fail ex (m + 1) a b i c j key s6 w = Jhv F fail ex m a b i c (j + 1 : Nat) key s6 (w.set (4 + i) (orW (w.getD (4 + i) 0) (Jwh (Jn1 (key.getD (4 * i + j) 0)) ((8 * j : Nat) : Int)))) := by
 have e4 : Jag 4 (i : Int) = ((4 + i : Nat) : Int) := by rw [Jak (by omega) (by omega)]; omega
 have e5 : Jag (Jfe 4 (i : Int)) j = ((4 * i + j : Nat) : Int) := by rw [Jgv (by omega) (by omega), Jak (by omega) (by omega)]; omega
 have e8 : Jfe 8 (j : Int) = ((8 * j : Nat) : Int) := by rw [Jgv (by omega) (by omega)]; omega
 rw [Jhv, Jyr]
 rw [e4, e5, e8, Jaa (tt (by omega)), Jaa (tt2 (by omega) (by omega)), Jaa (tt2 (by omega) (by omega)), Jaa (tt (by omega)), Jaa (tt2 (by omega) (by omega)), Jak (by omega) (by omega)]
 rfl
theorem Qbp {X : Type} (F : Nat) (fail : X) (ex : Int → Int → Int → Int → Int → List UInt8 → List UInt32 → List UInt32 → X) (a b c : Int) (key : List UInt8) (s6 : List UInt32) (m i : Nat) (hi : i < 8) :
  Jhv F fail ex (m + 5) a b i c 0 key s6 (Qbl key i) = ex a b i c (4 : Nat) key s6 (Qbl key (i + 1)) := by
 have hl := Qbm key i
 rw [show (0 : Int) = ((0 : Nat) : Int) from rfl, Jk7 F fail ex a b c key s6 _ _ i 0 hi (by omega), Jk7 F fail ex a b c key s6 _ _ i 1 hi (by omega), Jk7 F fail ex a b c key s6 _ _ i 2 hi (by omega), Jk7 F fail ex a b c key s6 _ _ i 3 hi (by omega)]
 rw [Jhv, Jyr]
 rw [Jab (ff (by omega))]
 rw [Jcz (by omega), Jcz (by rw [List.length_set]; omega), Jcz (by rw [List.length_set, List.length_set]; omega), Qbo key i hi]
 simp only [List.set_set]
 rw [← Qbn key i hi]
 congr 2
 exact Qf7 _ _ _ _
theorem Kxs {X : Type} (fail : X) (ex : Int → Int → Int → List UInt8 → List UInt32 → List UInt32 → X) (a b : Int) (key : List UInt8) (s6 : List UInt32) : ∀ (j m i : Nat), i + j = 8 → j ≤ m →
  Jll 99 fail ex (m + 1) a b i key s6 (Qbl key i) = ex a b (8 : Nat) key s6 (Qbl key 8)
 | 0, m, i, hi, _ => by
  have e : i = 8 := by omega
  subst e
  rw [Jll, Jys]
  rw [Jab (ff (by omega))]
 | j + 1, 0, i, _, hm => absurd hm (by omega)
 | j + 1, m + 1, i, hi, hm => by
  have ih := Kxs fail ex a b key s6 j m (i + 1) (by omega) (by omega)
  rw [Jll, Jys]
  rw [Jaa (tt (by omega))]
  refine (Qbp 99 fail _ a b _ key s6 94 i (by omega)).trans ?_
  rw [Jak (by omega) (by omega)]
  exact ih
theorem Jqd {n : Int} : inR n = true ↔ 0 ≤ n ∧ n ≤ 9007199254740991 := by simp only [inR, decide_eq_true_eq]
theorem Klx (key : List UInt8) (nonce counter : Int) (h : J4p key nonce counter = true) : ∃ F, ∀ {X : Type} (fail : X) (ret : List UInt32 → X), K4q F key nonce counter fail ret = ret (J4q key nonce counter) := ⟨99, fun fail ret => by
 have h := Jqd.1 h
 unfold K4q
 refine (Kxs fail _ nonce counter key _ 8 98 0 rfl (by omega)).trans ?_
 rw [show Kkw nonce 32 = nonce / 4294967296 by rw [Kff (by omega) (by omega)]; rfl]
 rfl⟩
theorem Kxt {X : Type} (F : Nat) (fail : X) (ex : Int → Int → Int → List UInt8 → List UInt32 → X) (a b : Int) (key : List UInt8) : ∀ (j m i : Nat), i + j = 8 → j ≤ m →
  Jlm F fail ex (m + 1) a b i key ([1634760805, 857760878, 2036477234, 1797285236] ++ (List.range i).map (kwd key)) = ex a b (8 : Nat) key ([1634760805, 857760878, 2036477234, 1797285236] ++ (List.range 8).map (kwd key))
 | 0, m, i, hi, _ => by
  have e : i = 8 := by omega
  subst e
  rw [Jlm, Jyt]
  rw [Jab (ff (by omega))]
 | j + 1, 0, i, _, hm => absurd hm (by omega)
 | j + 1, m + 1, i, hi, hm => by
  have ih := Kxt F fail ex a b key j m (i + 1) (by omega) (by omega)
  have e4 : Jfe 4 (i : Int) = ((4 * i : Nat) : Int) := by rw [Jgv (by omega) (by omega)]; omega
  have e1 : Jag ((4 * i : Nat) : Int) 1 = ((4 * i + 1 : Nat) : Int) := by rw [Jak (by omega) (by omega)]; omega
  have e2 : Jag ((4 * i : Nat) : Int) 2 = ((4 * i + 2 : Nat) : Int) := by rw [Jak (by omega) (by omega)]; omega
  have e3 : Jag ((4 * i : Nat) : Int) 3 = ((4 * i + 3 : Nat) : Int) := by rw [Jak (by omega) (by omega)]; omega
  rw [Jlm, Jyt]
  rw [e4, e1, e2, e3]
  have ek := Qii (key.getD (4 * i) 0) (key.getD (4 * i + 1) 0) (key.getD (4 * i + 2) 0) (key.getD (4 * i + 3) 0)
  rw [show UInt32.ofNat ((key.getD (4 * i) 0).toNat + 256 * (key.getD (4 * i + 1) 0).toNat + 65536 * (key.getD (4 * i + 2) 0).toNat + 16777216 * (key.getD (4 * i + 3) 0).toNat) = kwd key i from rfl] at ek
  have es : [1634760805, 857760878, 2036477234, 1797285236] ++ (List.range i).map (kwd key) ++ [kwd key i] = [1634760805, 857760878, 2036477234, 1797285236] ++ (List.range (i + 1)).map (kwd key) := by
   rw [List.range_succ, List.map_append, List.append_assoc]; rfl
  simp only [Int.toNat_natCast, ek, es]
  rw [Jaa (tt (by omega)), Jaa (tt2 (by omega) (by omega)), Jaa (tt2 (by omega) (by omega)), Jaa (tt2 (by omega) (by omega)), Jaa (tt2 (by omega) (by omega)), Jaa (Jcg (by simp; omega)), Jak (by omega) (by omega)]
  exact ih
theorem Kly (key : List UInt8) (nonce counter : Int) (h : Jtv key nonce counter = true) : ∃ F, ∀ {X : Type} (fail : X) (ret : List UInt32 → X), K4s F key nonce counter fail ret = ret (J4r key nonce counter) := ⟨99, fun fail ret => by
 have h := Jqd.1 h
 unfold K4s
 refine (Kxt 99 fail _ nonce counter key 8 98 0 rfl (by omega)).trans ?_
 have e : Kcl (Jb8 nonce 4294967296) = Kcl nonce := by
  rw [Jnu (by omega)]
  show UInt32.ofNat (IntKind.u32.wrap (nonce % 4294967296)).toNat = UInt32.ofNat (IntKind.u32.wrap nonce).toNat
  rw [Jnb, Jnb]; congr 2; omega
 rw [Jaa (Jcg (by simp)), e, J6i (by omega) (by omega) (by omega)]
 rfl⟩
end Go.AI
