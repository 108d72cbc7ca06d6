/- Texts of the proof, joined: CipherP. Names of our own are shortened by program; the long ones stand in wip/. -/
import Derived.Test.YtcdajbmgoafnkaaGreatQrG
import Derived.Test.YtcdajbmgoafnkaaGreatQrDigestP4
namespace Go.AI
open Go
theorem Qm3 (x P Q : Nat) (h : P * Q = 2147483648) (hx : x < 4294967296) :
  (2 * ((x * Q) % 4294967296 + x / (2 * P)) % 4294967296 + ((x * Q) % 4294967296 + x / (2 * P)) / 2147483648) % 4294967296 = (x * (2 * Q)) % 4294967296 + x / P := by
 have hP : 0 < P := Nat.pos_of_ne_zero fun e => by subst e; omega
 have hs : x % P < P := Nat.mod_lt _ hP
 have h1 : (x % P + 1) * Q ≤ P * Q := Nat.mul_le_mul_right Q hs
 rw [Nat.add_mul, Nat.one_mul, h] at h1
 have h2 : x * Q = x / P * 2147483648 + x % P * Q := by
  have e := congrArg (· * Q) (Nat.div_add_mod x P).symm
  simp only [Nat.add_mul] at e
  rw [Nat.mul_right_comm, h, Nat.mul_comm 2147483648] at e
  exact e
 have h3 : x * (2 * Q) = 2 * (x * Q) := by rw [Nat.mul_left_comm]
 have h4 : x / (2 * P) = x / P / 2 := by rw [Nat.mul_comm, Nat.div_div_eq_div_mul]
 have h5 : x / P < 2 * Q := by
  rw [Nat.div_lt_iff_lt_mul hP, Nat.mul_assoc, Nat.mul_comm Q, h]; omega
 rw [h4, h3, h2]
 clear h2 h3 h4
 generalize x % P * Q = N at *
 obtain ⟨a, u, hu, e⟩ : ∃ a u, u < 2 ∧ x / P = 2 * a + u := ⟨x / P / 2, x / P % 2, by omega, by omega⟩
 rw [e] at h5 ⊢
 have e1 : ((2 * a + u) * 2147483648 + N) % 4294967296 = u * 2147483648 + N := by omega
 have e2 : (2 * a + u) / 2 = a := by omega
 have e3 : 2 * ((2 * a + u) * 2147483648 + N) % 4294967296 = 2 * N := by omega
 rw [e1, e2, e3]
 have e4 : (u * 2147483648 + N + a) / 2147483648 = u := by omega
 have hb : 2 * N + 2 * a < 4294967296 := by omega
 have e5 : 2 * (u * 2147483648 + N + a) % 4294967296 = 2 * N + 2 * a := by
  clear e1 e2 e3 e4 e h1 h5
  rw [show 2 * (u * 2147483648 + N + a) = 2 * N + 2 * a + 4294967296 * u by omega, Nat.add_mul_mod_self_left, Nat.mod_eq_of_lt hb]
 rw [e4, e5]
 omega
theorem Kr1 (x : Nat) (hx : x < 4294967296) (i : Nat) (hi : i < 16) : (2 * Qid x i % 4294967296 + Qid x i / 2147483648) % 4294967296 = Qid x (i + 1) := by
 have h31 := Nat.pow_add 2 (31 - i) i
 rw [show 31 - i + i = 31 by omega] at h31
 have h := Qm3 x (2 ^ (31 - i)) (2 ^ i) (by omega) hx
 have e : 2 * 2 ^ (31 - i) = 2 ^ (32 - i) := by rw [← Nat.pow_succ', show (31 - i).succ = 32 - i by omega]
 have e' : 2 * 2 ^ i = 2 ^ (i + 1) := by rw [← Nat.pow_succ']
 rw [e, e'] at h
 unfold Qid
 rw [show 32 - (i + 1) = 31 - i by omega]
 exact h
theorem Qm4 (x : Nat) (hx : x < 4294967296) (i : Nat) (hi : i < 17) : Qid x i < 4294967296 := by
 cases i with
 | zero => simp only [Qid]; omega
 | succ i =>
  rw [← Kr1 x hx i (by omega)]
  exact Nat.mod_lt _ (by omega)
theorem J9e (x : UInt32) (i : Nat) (h : i < 17) : (K9o x i).toNat = Qid x.toNat i := by
 have := Qm4 x.toNat x.toNat_lt i h
 unfold K9o
 rw [UInt32.toNat_ofNat']; omega
theorem Qdh (x : UInt32) : K9o x 0 = x := by
 apply UInt32.toNat_inj.1
 have hx := x.toNat_lt
 rw [J9e x 0 (by omega)]
 simp only [Qid]; omega
theorem K4r (a b : UInt32) : (K9l a b).toNat = a.toNat * b.toNat % 4294967296 := by
 show (UInt32.ofNat (IntKind.u32.wrap ((a.toNat : Int) * b.toNat)).toNat).toNat = _
 rw [show (a.toNat : Int) * b.toNat = ((a.toNat * b.toNat : Nat) : Int) by push_cast; rfl, Jox, UInt32.toNat_ofNat']; omega
theorem Qix (a b : UInt32) : (quoW a b).toNat = a.toNat / b.toNat := by
 have ha := a.toNat_lt
 have hd := Nat.div_le_self a.toNat b.toNat
 show (UInt32.ofNat (IntKind.u32.wrap ((a.toNat : Int).tdiv b.toNat)).toNat).toNat = _
 rw [show (a.toNat : Int).tdiv b.toNat = ((a.toNat / b.toNat : Nat) : Int) from rfl]
 generalize a.toNat / b.toNat = q at *
 rw [Jox, UInt32.toNat_ofNat']; omega
theorem Qdi (x : UInt32) (i : Nat) (h : i < 16) : Jbp (K9l 2 (K9o x i)) (quoW (K9o x i) 2147483648) = K9o x (i + 1) := by
 apply UInt32.toNat_inj.1
 rw [Jsj, K4r, Qix, J9e x i (by omega), J9e x (i + 1) (by omega)]
 exact Kr1 x.toNat x.toNat_lt i h
theorem Qdj {X : Type} (F : Nat) (fail : X) (ex : UInt32 → Int → Int → X) (x : UInt32) (n : Nat) (hn : n ≤ 16) : ∀ (j m i : Nat), i + j = n → j ≤ m →
  Jqm F fail ex (m + 1) (K9o x i) n i = ex (K9o x n) n n
 | 0, m, i, hi, _ => by
  have e : i = n := by omega
  subst e
  rw [Jqm, J83]
  rw [Jab (ff (by omega))]
 | j + 1, 0, i, _, hm => absurd hm (by omega)
 | j + 1, m + 1, i, hi, hm => by
  have ih := Qdj F fail ex x n hn j m (i + 1) (by omega) (by omega)
  rw [Jqm, J83]
  rw [Jaa (tt (by omega)), Jai (by omega) (by omega), Qdi x i (by omega)]
  exact ih
theorem Kzc (x : UInt32) (n : Int) (h : Jib x n = true) : ∃ F, ∀ {X : Type} (fail : X) (ret : UInt32 → X), Qmb F x n fail ret = ret (Jj8 x n) := ⟨99, fun fail ret => by
 simp only [Jib, decide_eq_true_eq] at h
 obtain ⟨k, rfl⟩ : ∃ k : Nat, n = k := ⟨n.toNat, by omega⟩
 unfold Qmb Jj8
 have e := Qdj 99 fail (fun (x_1 : UInt32) (_ : Int) (_ : Int) => ret x_1) x k (by omega) k 98 0 (by omega) (by omega)
 rw [Qdh] at e
 rw [Int.toNat_natCast]
 exact e⟩
theorem Qo7 (x a b : Nat) (k : Nat) (h1 : a = 2 ^ k * (x % 2 ^ (32 - k))) (h2 : b < 2 ^ k) : (a ||| b) = a + b := by
 rw [h1, ← Nat.two_pow_add_eq_or_of_lt h2]
theorem J2l (x : UInt32) (k : Nat) (e : Int) (hk : e = k) (h0 : Qon (Kib e) 31 = (k : Int)) (h1 : subU 32 (k : Int) = ((32 - k : Nat) : Int)) (hk32 : k ≤ 16) (hd : x.toNat / 2 ^ (32 - k) < 2 ^ k) (hm : x.toNat * 2 ^ k % 4294967296 = 2 ^ k * (x.toNat % 2 ^ (32 - k))) :
  orW (Jze x (Qon (Kib e) 31)) (Jpy x (subU 32 (Qon (Kib e) 31))) = K9o x e.toNat := by
 subst hk
 apply UInt32.toNat_inj.1
 rw [Int.toNat_natCast, J9e x k (by omega), h0, h1, Krk, UInt32.toNat_or, Jsi x k (by omega), Jph x (32 - k) (by omega)]
 exact Qo7 x.toNat _ _ k hm hd
theorem Kzd (x : UInt32) (k : Int) (h : J39 x k = true) : ∃ F, ∀ {X : Type} (fail : X) (ret : UInt32 → X), Qma F x k fail ret = ret (Kay x k) := ⟨1, fun fail ret => by
 have hx := x.toNat_lt
 simp only [J39, Bool.or_eq_true, beq_iff_eq] at h
 unfold Qma Kay
 congr 1
 rcases h with ((rfl | rfl) | rfl) | rfl
 ·exact J2l x 7 7 rfl (by decide) (by decide) (by omega) (by omega) (by omega)
 ·exact J2l x 8 8 rfl (by decide) (by decide) (by omega) (by omega) (by omega)
 ·exact J2l x 12 12 rfl (by decide) (by decide) (by omega) (by omega) (by omega)
 ·exact J2l x 16 16 rfl (by decide) (by decide) (by omega) (by omega) (by omega)⟩
theorem Qm5 (b0 b1 b2 b3 : UInt8) : orW (orW (orW (orW 0 (Jze (Jow b0) 0)) (Jze (Jow b1) 8)) (Jze (Jow b2) 16)) (Jze (Jow b3) 24) = UInt32.ofNat (b0.toNat + 256 * b1.toNat + 65536 * b2.toNat + 16777216 * b3.toNat) := by
 have h0 := b0.toNat_lt
 have h1 := b1.toNat_lt
 have h2 := b2.toNat_lt
 have h3 := b3.toNat_lt
 have s0 := Jsi (Jow b0) 0 (by omega)
 have s1 := Jsi (Jow b1) 8 (by omega)
 have s2 := Jsi (Jow b2) 16 (by omega)
 have s3 := Jsi (Jow b3) 24 (by omega)
 rw [J9d] at s0 s1 s2 s3
 apply UInt32.toNat_inj.1
 simp only [Krk, UInt32.toNat_or]
 rw [show (Jze (Jow b0) 0).toNat = b0.toNat by rw [show (0 : Int) = ((0 : Nat) : Int) from rfl, s0]; omega, show (Jze (Jow b1) 8).toNat = 256 * b1.toNat by rw [show (8 : Int) = ((8 : Nat) : Int) from rfl, s1]; omega, show (Jze (Jow b2) 16).toNat = 65536 * b2.toNat by rw [show (16 : Int) = ((16 : Nat) : Int) from rfl, s2]; omega, show (Jze (Jow b3) 24).toNat = 16777216 * b3.toNat by rw [show (24 : Int) = ((24 : Nat) : Int) from rfl, s3]; omega]
 rw [UInt32.toNat_zero, Nat.zero_or, UInt32.toNat_ofNat']
 rw [Nat.or_comm b0.toNat, show 256 * b1.toNat = 2 ^ 8 * b1.toNat from rfl, ← Nat.two_pow_add_eq_or_of_lt (i := 8) (by omega)]
 rw [Nat.or_comm _ (65536 * b2.toNat), show 65536 * b2.toNat = 2 ^ 16 * b2.toNat from rfl, ← Nat.two_pow_add_eq_or_of_lt (i := 16) (by omega)]
 rw [Nat.or_comm _ (16777216 * b3.toNat), show 16777216 * b3.toNat = 2 ^ 24 * b3.toNat from rfl, ← Nat.two_pow_add_eq_or_of_lt (i := 24) (by omega)]
 omega
theorem Qo8 (b0 b1 b2 b3 : UInt8) : Jbp (Jbp (Jbp (Jow b0) (K9l 256 (Jow b1))) (K9l 65536 (Jow b2))) (K9l 16777216 (Jow b3)) = UInt32.ofNat (b0.toNat + 256 * b1.toNat + 65536 * b2.toNat + 16777216 * b3.toNat) := by
 have h0 := b0.toNat_lt
 have h1 := b1.toNat_lt
 have h2 := b2.toNat_lt
 have h3 := b3.toNat_lt
 apply UInt32.toNat_inj.1
 simp only [Jsj, K4r, J9d, UInt32.toNat_ofNat']
 rw [show (256 : UInt32).toNat = 256 from rfl, show (65536 : UInt32).toNat = 65536 from rfl, show (16777216 : UInt32).toNat = 16777216 from rfl]
 omega
def Qiy (key : List UInt8) (i : Nat) : List UInt32 := [1634760805, 857760878, 2036477234, 1797285236] ++ ((List.range 8).map fun j => if j < i then kwd key j else 0) ++ [0, 0, 0, 0]
theorem Qiz (key : List UInt8) (i : Nat) : (Qiy key i).length = 16 := by simp [Qiy]
theorem Qi0 (key : List UInt8) : ∀ i, i < 8 → (Qiy key i).set (4 + i) (kwd key i) = Qiy key (i + 1)
 | 0, _ | 1, _ | 2, _ | 3, _ | 4, _ | 5, _ | 6, _ | 7, _ => rfl
 | n + 8, h => absurd h (by omega)
theorem Qi1 (key : List UInt8) : ∀ i, i < 8 → (Qiy key i).getD (4 + i) 0 = 0
 | 0, _ | 1, _ | 2, _ | 3, _ | 4, _ | 5, _ | 6, _ | 7, _ => rfl
 | n + 8, h => absurd h (by omega)
theorem Jmj {X : Type} (F : Nat) (fail : X) (ex : Int → Int → Int → Int → Int → List UInt8 → List UInt32 → List UInt32 → X) (a b c : Int) (key : List UInt8) (s6 w : List UInt32) (m i j : Nat) (hi : i < 8) (hj : j < 4) :
  Jjb F fail ex (m + 1) a b i c j key s6 w = Jjb F fail ex m a b i c (j + 1 : Nat) key s6 (w.set (4 + i) (orW (w.getD (4 + i) 0) (Jze (Jow (key.getD (4 * i + j) 0)) ((8 * j : Nat) : Int)))) := by
 have e4 : Jag 4 (i : Int) = ((4 + i : Nat) : Int) := by rw [Jai (by omega) (by omega)]; omega
 have e5 : Jag (Je6 4 (i : Int)) j = ((4 * i + j : Nat) : Int) := by rw [Jff (by omega) (by omega), Jai (by omega) (by omega)]; omega
 have e8 : Je6 8 (j : Int) = ((8 * j : Nat) : Int) := by rw [Jff (by omega) (by omega)]; omega
 rw [Jjb, J13]
 rw [e4, e5, e8, Jaa (tt (by omega)), Jaa (tt2 (by omega) (by omega)), Jaa (tt2 (by omega) (by omega)), Jaa (tt (by omega)), Jaa (tt2 (by omega) (by omega)), Jai (by omega) (by omega)]
 rfl
theorem Qi2 {X : Type} (F : Nat) (fail : X) (ex : Int → Int → Int → Int → Int → List UInt8 → List UInt32 → List UInt32 → X) (a b c : Int) (key : List UInt8) (s6 : List UInt32) (m i : Nat) (hi : i < 8) :
  Jjb F fail ex (m + 5) a b i c 0 key s6 (Qiy key i) = ex a b i c (4 : Nat) key s6 (Qiy key (i + 1)) := by
 have hl := Qiz key i
 rw [show (0 : Int) = ((0 : Nat) : Int) from rfl, Jmj F fail ex a b c key s6 _ _ i 0 hi (by omega), Jmj F fail ex a b c key s6 _ _ i 1 hi (by omega), Jmj F fail ex a b c key s6 _ _ i 2 hi (by omega), Jmj F fail ex a b c key s6 _ _ i 3 hi (by omega)]
 rw [Jjb, J13]
 rw [Jab (ff (by omega))]
 rw [Jdi (by omega), Jdi (by rw [List.length_set]; omega), Jdi (by rw [List.length_set, List.length_set]; omega), Qi1 key i hi]
 simp only [List.set_set]
 rw [← Qi0 key i hi]
 congr 2
 exact Qm5 _ _ _ _
theorem K4s {X : Type} (fail : X) (ex : Int → Int → Int → List UInt8 → List UInt32 → List UInt32 → X) (a b : Int) (key : List UInt8) (s6 : List UInt32) : ∀ (j m i : Nat), i + j = 8 → j ≤ m →
  Jmx 99 fail ex (m + 1) a b i key s6 (Qiy key i) = ex a b (8 : Nat) key s6 (Qiy key 8)
 | 0, m, i, hi, _ => by
  have e : i = 8 := by omega
  subst e
  rw [Jmx, J14]
  rw [Jab (ff (by omega))]
 | j + 1, 0, i, _, hm => absurd hm (by omega)
 | j + 1, m + 1, i, hi, hm => by
  have ih := K4s fail ex a b key s6 j m (i + 1) (by omega) (by omega)
  rw [Jmx, J14]
  rw [Jaa (tt (by omega))]
  refine (Qi2 99 fail _ a b _ key s6 94 i (by omega)).trans ?_
  rw [Jai (by omega) (by omega)]
  exact ih
theorem J4p {n : Int} : inR n = true ↔ 0 ≤ n ∧ n ≤ 9007199254740991 := by simp only [inR, decide_eq_true_eq]
theorem Kr2 (key : List UInt8) (nonce counter : Int) (h : J8t key nonce counter = true) : ∃ F, ∀ {X : Type} (fail : X) (ret : List UInt32 → X), Qb5 F key nonce counter fail ret = ret (J8u key nonce counter) := ⟨99, fun fail ret => by
 have h := J4p.1 h
 unfold Qb5
 refine (K4s fail _ nonce counter key _ 8 98 0 rfl (by omega)).trans ?_
 rw [show Kqz nonce 32 = nonce / 4294967296 by rw [Klf (by omega) (by omega)]; rfl]
 rfl⟩
theorem K4t {X : Type} (F : Nat) (fail : X) (ex : Int → Int → Int → List UInt8 → List UInt32 → X) (a b : Int) (key : List UInt8) : ∀ (j m i : Nat), i + j = 8 → j ≤ m →
  Jmy F fail ex (m + 1) a b i key ([1634760805, 857760878, 2036477234, 1797285236] ++ (List.range i).map (kwd key)) = ex a b (8 : Nat) key ([1634760805, 857760878, 2036477234, 1797285236] ++ (List.range 8).map (kwd key))
 | 0, m, i, hi, _ => by
  have e : i = 8 := by omega
  subst e
  rw [Jmy, J15]
  rw [Jab (ff (by omega))]
 | j + 1, 0, i, _, hm => absurd hm (by omega)
 | j + 1, m + 1, i, hi, hm => by
  have ih := K4t F fail ex a b key j m (i + 1) (by omega) (by omega)
  have e4 : Je6 4 (i : Int) = ((4 * i : Nat) : Int) := by rw [Jff (by omega) (by omega)]; omega
  have e1 : Jag ((4 * i : Nat) : Int) 1 = ((4 * i + 1 : Nat) : Int) := by rw [Jai (by omega) (by omega)]; omega
  have e2 : Jag ((4 * i : Nat) : Int) 2 = ((4 * i + 2 : Nat) : Int) := by rw [Jai (by omega) (by omega)]; omega
  have e3 : Jag ((4 * i : Nat) : Int) 3 = ((4 * i + 3 : Nat) : Int) := by rw [Jai (by omega) (by omega)]; omega
  rw [Jmy, J15]
  rw [e4, e1, e2, e3]
  have ek := Qo8 (key.getD (4 * i) 0) (key.getD (4 * i + 1) 0) (key.getD (4 * i + 2) 0) (key.getD (4 * i + 3) 0)
  rw [show UInt32.ofNat ((key.getD (4 * i) 0).toNat + 256 * (key.getD (4 * i + 1) 0).toNat + 65536 * (key.getD (4 * i + 2) 0).toNat + 16777216 * (key.getD (4 * i + 3) 0).toNat) = kwd key i from rfl] at ek
  have es : [1634760805, 857760878, 2036477234, 1797285236] ++ (List.range i).map (kwd key) ++ [kwd key i] = [1634760805, 857760878, 2036477234, 1797285236] ++ (List.range (i + 1)).map (kwd key) := by
   rw [List.range_succ, List.map_append, List.append_assoc]; rfl
  simp only [Int.toNat_natCast, ek, es]
  rw [Jaa (tt (by omega)), Jaa (tt2 (by omega) (by omega)), Jaa (tt2 (by omega) (by omega)), Jaa (tt2 (by omega) (by omega)), Jaa (tt2 (by omega) (by omega)), Jaa (Jch (by simp; omega)), Jai (by omega) (by omega)]
  exact ih
theorem Kr3 (key : List UInt8) (nonce counter : Int) (h : Jwm key nonce counter = true) : ∃ F, ∀ {X : Type} (fail : X) (ret : List UInt32 → X), Qb7 F key nonce counter fail ret = ret (J8v key nonce counter) := ⟨99, fun fail ret => by
 have h := J4p.1 h
 unfold Qb7
 refine (K4t 99 fail _ nonce counter key 8 98 0 rfl (by omega)).trans ?_
 have e : Kia (Jcg nonce 4294967296) = Kia nonce := by
  rw [Jj6 (by omega)]
  show UInt32.ofNat (IntKind.u32.wrap (nonce % 4294967296)).toNat = UInt32.ofNat (IntKind.u32.wrap nonce).toNat
  rw [Jox, Jox]; congr 2; omega
 rw [Jaa (Jch (by simp)), e, Jrp (by omega) (by omega) (by omega)]
 rfl⟩
end Go.AI
