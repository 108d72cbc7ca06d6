/- Texts of the proof, joined: CipherP. -/
import Derived.Test.YtnmidfcefljafaaGreatQtG
import Derived.Test.YtnmidfcefljafaaGreatQtDigestP4
namespace Go.AI
open Go
theorem rol_alg (x P Q : Nat) (h : P * Q = 2147483648) (hx : x < 4294967296) :
  (2 * ((x * Q) % 4294967296 + x / (2 * P)) % 4294967296 + ((x * Q) % 4294967296 + x / (2 * P)) / 2147483648) % 4294967296 = (x * (2 * Q)) % 4294967296 + x / P := by
 have hP : 0 < P := Nat.pos_of_ne_zero fun e => by subst e; omega
 have hs : x % P < P := Nat.mod_lt _ hP
 have h1 : (x % P + 1) * Q ≤ P * Q := Nat.mul_le_mul_right Q hs
 rw [Nat.add_mul, Nat.one_mul, h] at h1
 have h2 : x * Q = x / P * 2147483648 + x % P * Q := by
  have e := congrArg (· * Q) (Nat.div_add_mod x P).symm
  simp only [Nat.add_mul] at e
  rw [Nat.mul_right_comm, h, Nat.mul_comm 2147483648] at e
  exact e
 have h3 : x * (2 * Q) = 2 * (x * Q) := by rw [Nat.mul_left_comm]
 have h4 : x / (2 * P) = x / P / 2 := by rw [Nat.mul_comm, Nat.div_div_eq_div_mul]
 have h5 : x / P < 2 * Q := by
  rw [Nat.div_lt_iff_lt_mul hP, Nat.mul_assoc, Nat.mul_comm Q, h]; omega
 rw [h4, h3, h2]
 clear h2 h3 h4
 generalize x % P * Q = N at *
 obtain ⟨a, u, hu, e⟩ : ∃ a u, u < 2 ∧ x / P = 2 * a + u := ⟨x / P / 2, x / P % 2, by omega, by omega⟩
 rw [e] at h5 ⊢
 have e1 : ((2 * a + u) * 2147483648 + N) % 4294967296 = u * 2147483648 + N := by omega
 have e2 : (2 * a + u) / 2 = a := by omega
 have e3 : 2 * ((2 * a + u) * 2147483648 + N) % 4294967296 = 2 * N := by omega
 rw [e1, e2, e3]
 have e4 : (u * 2147483648 + N + a) / 2147483648 = u := by omega
 have hb : 2 * N + 2 * a < 4294967296 := by omega
 have e5 : 2 * (u * 2147483648 + N + a) % 4294967296 = 2 * N + 2 * a := by
  clear e1 e2 e3 e4 e h1 h5
  rw [show 2 * (u * 2147483648 + N + a) = 2 * N + 2 * a + 4294967296 * u by omega, Nat.add_mul_mod_self_left, Nat.mod_eq_of_lt hb]
 rw [e4, e5]
 omega
theorem rolN_step (x : Nat) (hx : x < 4294967296) (i : Nat) (hi : i < 16) : (2 * rolN x i % 4294967296 + rolN x i / 2147483648) % 4294967296 = rolN x (i + 1) := by
 have h31 := Nat.pow_add 2 (31 - i) i
 rw [show 31 - i + i = 31 by omega] at h31
 have h := rol_alg x (2 ^ (31 - i)) (2 ^ i) (by omega) hx
 have e : 2 * 2 ^ (31 - i) = 2 ^ (32 - i) := by rw [← Nat.pow_succ', show (31 - i).succ = 32 - i by omega]
 have e' : 2 * 2 ^ i = 2 ^ (i + 1) := by rw [← Nat.pow_succ']
 rw [e, e'] at h
 unfold rolN
 rw [show 32 - (i + 1) = 31 - i by omega]
 exact h
theorem rolN_lt (x : Nat) (hx : x < 4294967296) (i : Nat) (hi : i < 17) : rolN x i < 4294967296 := by
 cases i with
 | zero => simp only [rolN]; omega
 | succ i =>
  rw [← rolN_step x hx i (by omega)]
  exact Nat.mod_lt _ (by omega)
theorem rolW_nat (x : UInt32) (i : Nat) (h : i < 17) : (rolW x i).toNat = rolN x.toNat i := by
 have := rolN_lt x.toNat x.toNat_lt i h
 unfold rolW
 rw [UInt32.toNat_ofNat']; omega
theorem or_rol (x a b : Nat) (k : Nat) (h1 : a = 2 ^ k * (x % 2 ^ (32 - k))) (h2 : b < 2 ^ k) : (a ||| b) = a + b := by
 rw [h1, ← Nat.two_pow_add_eq_or_of_lt h2]
theorem rol32_lit (x : UInt32) (k : Nat) (e : Int) (hk : e = k) (h0 : andU (cvIU e) 31 = (k : Int)) (h1 : subU 32 (k : Int) = ((32 - k : Nat) : Int)) (hk32 : k ≤ 16) (hd : x.toNat / 2 ^ (32 - k) < 2 ^ k) (hm : x.toNat * 2 ^ k % 4294967296 = 2 ^ k * (x.toNat % 2 ^ (32 - k))) :
  orW (shlW x (andU (cvIU e) 31)) (shrW x (subU 32 (andU (cvIU e) 31))) = rolW x e.toNat := by
 subst hk
 apply UInt32.toNat_inj.1
 rw [Int.toNat_natCast, rolW_nat x k (by omega), h0, h1, orW_eq, UInt32.toNat_or, shlW_nat x k (by omega), shrW_nat x (32 - k) (by omega)]
 exact or_rol x.toNat _ _ k hm hd
theorem rol32_plain (x : UInt32) (k : Int) (h : rol32_P x k = true) : ∃ F, ∀ {X : Type} (fail : X) (ret : UInt32 → X), rol32 F x k fail ret = ret (rol32_r x k) := ⟨1, fun fail ret => by
 have hx := x.toNat_lt
 simp only [rol32_P, Bool.or_eq_true, beq_iff_eq] at h
 unfold rol32 rol32_r
 congr 1
 rcases h with ((rfl | rfl) | rfl) | rfl
 ·exact rol32_lit x 7 7 rfl (by decide) (by decide) (by omega) (by omega) (by omega)
 ·exact rol32_lit x 8 8 rfl (by decide) (by decide) (by omega) (by omega) (by omega)
 ·exact rol32_lit x 12 12 rfl (by decide) (by decide) (by omega) (by omega) (by omega)
 ·exact rol32_lit x 16 16 rfl (by decide) (by decide) (by omega) (by omega) (by omega)⟩
theorem kw_prog (b0 b1 b2 b3 : UInt8) : orW (orW (orW (orW 0 (shlW (cvBW b0) 0)) (shlW (cvBW b1) 8)) (shlW (cvBW b2) 16)) (shlW (cvBW b3) 24) = UInt32.ofNat (b0.toNat + 256 * b1.toNat + 65536 * b2.toNat + 16777216 * b3.toNat) := by
 have h0 := b0.toNat_lt
 have h1 := b1.toNat_lt
 have h2 := b2.toNat_lt
 have h3 := b3.toNat_lt
 have s0 := shlW_nat (cvBW b0) 0 (by omega)
 have s1 := shlW_nat (cvBW b1) 8 (by omega)
 have s2 := shlW_nat (cvBW b2) 16 (by omega)
 have s3 := shlW_nat (cvBW b3) 24 (by omega)
 rw [cvBW_nat] at s0 s1 s2 s3
 apply UInt32.toNat_inj.1
 simp only [orW_eq, UInt32.toNat_or]
 rw [show (shlW (cvBW b0) 0).toNat = b0.toNat by rw [show (0 : Int) = ((0 : Nat) : Int) from rfl, s0]; omega, show (shlW (cvBW b1) 8).toNat = 256 * b1.toNat by rw [show (8 : Int) = ((8 : Nat) : Int) from rfl, s1]; omega, show (shlW (cvBW b2) 16).toNat = 65536 * b2.toNat by rw [show (16 : Int) = ((16 : Nat) : Int) from rfl, s2]; omega, show (shlW (cvBW b3) 24).toNat = 16777216 * b3.toNat by rw [show (24 : Int) = ((24 : Nat) : Int) from rfl, s3]; omega]
 rw [UInt32.toNat_zero, Nat.zero_or, UInt32.toNat_ofNat']
 rw [Nat.or_comm b0.toNat, show 256 * b1.toNat = 2 ^ 8 * b1.toNat from rfl, ← Nat.two_pow_add_eq_or_of_lt (i := 8) (by omega)]
 rw [Nat.or_comm _ (65536 * b2.toNat), show 65536 * b2.toNat = 2 ^ 16 * b2.toNat from rfl, ← Nat.two_pow_add_eq_or_of_lt (i := 16) (by omega)]
 rw [Nat.or_comm _ (16777216 * b3.toNat), show 16777216 * b3.toNat = 2 ^ 24 * b3.toNat from rfl, ← Nat.two_pow_add_eq_or_of_lt (i := 24) (by omega)]
 omega
def kwTo (key : List UInt8) (i : Nat) : List UInt32 := [1634760805, 857760878, 2036477234, 1797285236] ++ ((List.range 8).map fun j => if j < i then kwd key j else 0) ++ [0, 0, 0, 0]
theorem kwTo_len (key : List UInt8) (i : Nat) : (kwTo key i).length = 16 := by simp [kwTo]
theorem kwTo_set (key : List UInt8) : ∀ i, i < 8 → (kwTo key i).set (4 + i) (kwd key i) = kwTo key (i + 1)
 | 0, _ | 1, _ | 2, _ | 3, _ | 4, _ | 5, _ | 6, _ | 7, _ => rfl
 | n + 8, h => absurd h (by omega)
theorem kwTo_get (key : List UInt8) : ∀ i, i < 8 → (kwTo key i).getD (4 + i) 0 = 0
 | 0, _ | 1, _ | 2, _ | 3, _ | 4, _ | 5, _ | 6, _ | 7, _ => rfl
 | n + 8, h => absurd h (by omega)
theorem first_l2_step {X : Type} (F : Nat) (fail : X) (ex : Int → Int → Int → Int → Int → List UInt8 → List UInt32 → List UInt32 → X) (a b c : Int) (key : List UInt8) (s6 w : List UInt32) (m i j : Nat) (hi : i < 8) (hj : j < 4) :
  cFirst_l2F F fail ex (m + 1) a b i c j key s6 w = cFirst_l2F F fail ex m a b i c (j + 1 : Nat) key s6 (w.set (4 + i) (orW (w.getD (4 + i) 0) (shlW (cvBW (key.getD (4 * i + j) 0)) ((8 * j : Nat) : Int)))) := by
 have e4 : addI 4 (i : Int) = ((4 + i : Nat) : Int) := by rw [addI_eq (by omega) (by omega)]; omega
 have e5 : addI (mulI 4 (i : Int)) j = ((4 * i + j : Nat) : Int) := by rw [mulI_eq (by omega) (by omega), addI_eq (by omega) (by omega)]; omega
 have e8 : mulI 8 (j : Int) = ((8 * j : Nat) : Int) := by rw [mulI_eq (by omega) (by omega)]; omega
 rw [cFirst_l2F, cFirst_l2]
 rw [e4, e5, e8, bif_true (tt (by omega)), bif_true (tt2 (by omega) (by omega)), bif_true (tt2 (by omega) (by omega)), bif_true (tt (by omega)), bif_true (tt2 (by omega) (by omega)), addI_eq (by omega) (by omega)]
 rfl
theorem first_l2 {X : Type} (F : Nat) (fail : X) (ex : Int → Int → Int → Int → Int → List UInt8 → List UInt32 → List UInt32 → X) (a b c : Int) (key : List UInt8) (s6 : List UInt32) (m i : Nat) (hi : i < 8) :
  cFirst_l2F F fail ex (m + 5) a b i c 0 key s6 (kwTo key i) = ex a b i c (4 : Nat) key s6 (kwTo key (i + 1)) := by
 have hl := kwTo_len key i
 rw [show (0 : Int) = ((0 : Nat) : Int) from rfl, first_l2_step F fail ex a b c key s6 _ _ i 0 hi (by omega), first_l2_step F fail ex a b c key s6 _ _ i 1 hi (by omega), first_l2_step F fail ex a b c key s6 _ _ i 2 hi (by omega), first_l2_step F fail ex a b c key s6 _ _ i 3 hi (by omega)]
 rw [cFirst_l2F, cFirst_l2]
 rw [bif_false (ff (by omega))]
 rw [getD_set_same (by omega), getD_set_same (by rw [List.length_set]; omega), getD_set_same (by rw [List.length_set, List.length_set]; omega), kwTo_get key i hi]
 simp only [List.set_set]
 rw [← kwTo_set key i hi]
 congr 2
 exact kw_prog _ _ _ _
theorem first_l1 {X : Type} (fail : X) (ex : Int → Int → Int → List UInt8 → List UInt32 → List UInt32 → X) (a b : Int) (key : List UInt8) (s6 : List UInt32) : ∀ (j m i : Nat), i + j = 8 → j ≤ m →
  cFirst_l1F 99 fail ex (m + 1) a b i key s6 (kwTo key i) = ex a b (8 : Nat) key s6 (kwTo key 8)
 | 0, m, i, hi, _ => by
  have e : i = 8 := by omega
  subst e
  rw [cFirst_l1F, cFirst_l1]
  rw [bif_false (ff (by omega))]
 | j + 1, 0, i, _, hm => absurd hm (by omega)
 | j + 1, m + 1, i, hi, hm => by
  have ih := first_l1 fail ex a b key s6 j m (i + 1) (by omega) (by omega)
  rw [cFirst_l1F, cFirst_l1]
  rw [bif_true (tt (by omega))]
  refine (first_l2 99 fail _ a b _ key s6 94 i (by omega)).trans ?_
  rw [addI_eq (by omega) (by omega)]
  exact ih
theorem inR_iff {n : Int} : inR n = true ↔ 0 ≤ n ∧ n ≤ 9007199254740991 := by simp only [inR, decide_eq_true_eq]
theorem cFirst_plain (key : List UInt8) (nonce counter : Int) (h : cFirst_P key nonce counter = true) : ∃ F, ∀ {X : Type} (fail : X) (ret : List UInt32 → X), cFirst F key nonce counter fail ret = ret (cFirst_r key nonce counter) := ⟨99, fun fail ret => by
 have h := inR_iff.1 h
 unfold cFirst
 refine (first_l1 fail _ nonce counter key _ 8 98 0 rfl (by omega)).trans ?_
 rw [show shrI nonce 32 = nonce / 4294967296 by rw [shrI_eq (by omega) (by omega)]; rfl]
 rfl⟩
end Go.AI
