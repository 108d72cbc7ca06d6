/- Texts of the proof, joined: LogP. Names of our own are shortened by program; the long ones stand in wip/. -/
import Derived.Test.YtnmidfcefljafaaGreatQsG
import Derived.Test.YtnmidfcefljafaaGreatQsWord
import Derived.Test.YtnmidfcefljafaaGreatQsDiskP3
namespace Go.AI
open Go
theorem K2f (a b : Nat) : (a ^^^ b) / 2 = a / 2 ^^^ b / 2 := by
 apply Nat.eq_of_testBit_eq
 intro i
 simp [Nat.testBit_div_two, Nat.testBit_xor]
theorem K6m (a b : Nat) : (a ^^^ b) % 2 = (a + b) % 2 := by
 have h := Nat.testBit_xor a b 0
 simp only [Nat.testBit_zero] at h
 rcases Nat.mod_two_eq_zero_or_one a with ha | ha <;> rcases Nat.mod_two_eq_zero_or_one b with hb | hb <;> rcases Nat.mod_two_eq_zero_or_one (a ^^^ b) with hc | hc <;> simp [ha, hb, hc] at h ⊢ <;> omega
theorem K6n (a b : Nat) : sh1 (a ^^^ b) = sh1 a ^^^ sh1 b := by
 unfold sh1
 have hp := K6m a b
 rw [K2f]
 rcases Nat.mod_two_eq_zero_or_one a with ha | ha <;> rcases Nat.mod_two_eq_zero_or_one b with hb | hb
 ·rw [if_neg (by omega), if_neg (by omega), if_neg (by omega)]
 ·rw [if_pos (by omega), if_neg (by omega), if_pos (by omega), Nat.xor_assoc]
 ·rw [if_pos (by omega), if_pos (by omega), if_neg (by omega), Nat.xor_assoc, Nat.xor_assoc, Nat.xor_comm (b / 2)]
 ·rw [if_neg (by omega), if_pos (by omega), if_pos (by omega), Nat.xor_assoc, ← Nat.xor_assoc 3988292384 (b / 2), Nat.xor_comm 3988292384 (b / 2), Nat.xor_assoc, Nat.xor_self, Nat.xor_zero]
theorem K6o (a b : Nat) : sh8 (a ^^^ b) = sh8 a ^^^ sh8 b := by simp only [sh8, K6n]
theorem K2g (k : Nat) : sh1 (2 * k) = k := by unfold sh1; rw [if_neg (by omega)]; omega
theorem K2h (h : Nat) : sh8 (256 * h) = h := by
 unfold sh8
 rw [show 256 * h = 2 * (2 * (2 * (2 * (2 * (2 * (2 * (2 * h))))))) by omega]
 simp only [K2g]
theorem K8y (r : Nat) : (256 * (r / 256)) ^^^ (r % 256) = r := by
 apply Nat.eq_of_testBit_eq
 intro i
 rw [Nat.testBit_xor, show (256 : Nat) = 2 ^ 8 from rfl, Nat.testBit_two_pow_mul, Nat.testBit_mod_two_pow, Nat.testBit_div_two_pow]
 by_cases h : i < 8
 ·simp [h, show ¬ 8 ≤ i by omega]
 ·simp [h, show 8 ≤ i by omega]
theorem Kxn (r : Nat) (b : UInt8) : K8d r b = (r / 256) ^^^ sh8 ((r % 256) ^^^ b.toNat) := by
 unfold K8d
 rw [← K2h (r / 256), ← K6o, ← Nat.xor_assoc, K8y]
theorem Jzj {r : Nat} (h : r < 4294967296) : sh1 r < 4294967296 := by
 unfold sh1
 split
 ·exact Nat.xor_lt_two_pow (n := 32) (by omega) (by omega)
 ·omega
theorem K4a {r : Nat} (h : r < 4294967296) : sh8 r < 4294967296 := Jzj (Jzj (Jzj (Jzj (Jzj (Jzj (Jzj (Jzj h)))))))
theorem K6p {r : Nat} (h : r < 4294967296) (b : UInt8) : K8d r b < 4294967296 := K4a (Nat.xor_lt_two_pow (n := 32) h (by have := b.toNat_lt; omega))
theorem Kxo : ∀ (b : Bys) {r : Nat}, r < 4294967296 → crcG r b < 4294967296
 | [], _, h => h
 | x :: b, _, h => Kxo b (K6p h x)
theorem Klx (b : Bys) : Kv8 b < 4294967296 := Nat.xor_lt_two_pow (n := 32) (Kxo b (by omega)) (by omega)
theorem K8z (r : UInt32) : sh1 r.toNat = (if r.toNat % 2 = 1 then Jl5 (Jrn r 1) 3988292384 else Jrn r 1).toNat := by
 have e : (Jrn r 1).toNat = r.toNat / 2 := Jwd r 1 (by omega)
 unfold sh1
 split
 ·rw [Jgk, UInt32.toNat_xor, e]; rfl
 ·rw [e]
theorem K4b {a : UInt32} {n : Nat} (h : a.toNat = n) : a = UInt32.ofNat n := by rw [← h]; simp
theorem Jzk {X : Type} (F : Nat) (fail : X) (ex0 : UInt32 → Int → X) : ∀ (j m i : Nat) (r : UInt32), i + j = 8 → j ≤ m →
  ∃ q : UInt32, q.toNat = Nat.repeat sh1 j r.toNat ∧ Jkw F fail ex0 (m + 1) r i = ex0 q 8
 | 0, m, i, r, hi, _ => by
  obtain rfl : i = 8 := by omega
  exact ⟨r, rfl, rfl⟩
 | j + 1, 0, i, _, _, hm => absurd hm (by omega)
 | j + 1, m + 1, i, r, hi, hm => by
  obtain ⟨q, h1, h2⟩ := Jzk F fail ex0 j m (i + 1) (if r.toNat % 2 = 1 then Jl5 (Jrn r 1) 3988292384 else Jrn r 1) (by omega) (by omega)
  refine ⟨q, ?_, ?_⟩
  ·rw [h1, ← K8z]
   have : ∀ (n x : Nat), Nat.repeat sh1 n (sh1 x) = Nat.repeat sh1 (n + 1) x := by
    intro n
    induction n with
    | zero => intro x; rfl
    | succ n ih => intro x; show sh1 (Nat.repeat sh1 n (sh1 x)) = _; rw [ih]; rfl
   exact this j _
  ·rw [Jkw, Jya]
   have e : (J2q r 1).toNat = r.toNat % 2 := by rw [Jqc, UInt32.toNat_and]; exact Nat.and_one_is_mod _
   rw [Jaa (tt (by omega)), e, Jar (by omega) (by omega), Jwc]
   by_cases c : r.toNat % 2 = 1
   ·rw [if_pos c] at h2; rw [Jaa (Jl7 (by omega))]; exact h2
   ·rw [if_neg c] at h2; rw [Jab (Jpi (by omega))]; exact h2
theorem Kbs (r : UInt32) (_ : Jvu r = true) : ∃ F, ∀ {X : Type} (fail : X) (ret : UInt32 → X), Kk4 F r fail ret = ret (Jiv r) := ⟨9, fun fail ret => by
 obtain ⟨q, h1, h2⟩ := Jzk 9 fail (fun r _ => ret r) 8 8 0 r (by omega) (by omega)
 unfold Kk4 Jiv
 refine h2.trans (congrArg ret (K4b h1))⟩
theorem Kgd (_ : J1a = true) : ∃ F, ∀ {X : Type} (fail : X) (ret : List UInt32 → X), Kwi F fail ret = ret Jjj := ⟨257, fun fail ret => by
 have key : ∀ (j m i : Nat) (s0 out : List UInt32), i + j = 256 → j ≤ m → out.length = 256 → ∀ {X : Type} (fail : X) (ex0 : Int → List UInt32 → List UInt32 → X), ∃ o : List UInt32, o.length = 256 ∧ (∀ k, k < i → o.getD k 0 = out.getD k 0) ∧ (∀ k, i ≤ k → k < 256 → o.getD k 0 = UInt32.ofNat (sh8 k)) ∧ Jmu 257 fail ex0 (m + 1) i s0 out = ex0 256 s0 o := by
  intro j
  induction j with
  | zero =>
   intro m i s0 out hi _ ho X fail ex0
   obtain rfl : i = 256 := by omega
   exact ⟨out, ho, fun _ _ => rfl, fun k h1 h2 => by omega, rfl⟩
  | succ j ih =>
   intro m i s0 out hi hm ho X fail ex0
   obtain ⟨m', rfl⟩ : ∃ m', m = m' + 1 := ⟨m - 1, by omega⟩
   have hc : (Kty (i : Int)).toNat = i := by
    show (UInt32.ofNat (IntKind.u32.wrap (i : Int)).toNat).toNat = i
    rw [Kfw i (by omega)]
    simp only [Int.toNat_natCast]
    exact UInt32.toNat_ofNat_of_lt' (by show _ < 4294967296; omega)
   obtain ⟨o, h1, h2, h3, h4⟩ := ih m' (i + 1) s0 (out.set i (Jiv (Kty (i : Int)))) (by omega) (by omega) (by rw [List.length_set]; exact ho) fail ex0
   refine ⟨o, h1, fun k hk => ?_, fun k hk1 hk2 => ?_, ?_⟩
   ·rw [h2 k (by omega)]; simp [List.getD, List.getElem?_set_ne (show i ≠ k by omega)]
   ·by_cases e : k = i
    ·subst e
     rw [h2 k (by omega)]
     have : (out.set k (Jiv (Kty (k : Int)))).getD k 0 = Jiv (Kty (k : Int)) := by simp [List.getD, show k < out.length by omega]
     rw [this]; unfold Jiv; rw [hc]
    ·exact h3 k (by omega) hk2
   ·rw [Jmu, J23]
    rw [Jaa (tt (by omega)), Jaa (c := Jvu _) rfl, Jaa (tt2 (by omega) (by omega)), Jar (by omega) (by omega), Jwc, Int.toNat_natCast]
    exact h4
 obtain ⟨o, h1, _, h3, h4⟩ := key 256 256 0 (List.replicate 256 0) (List.replicate 256 0) (by omega) (by omega) List.length_replicate fail (fun _ _ o => ret o)
 unfold Kwi Jjj
 refine h4.trans (congrArg ret (List.ext_getElem (by rw [h1, List.length_map, List.length_range]) (fun k hk _ => ?_)))
 have := h3 k (by omega) (by omega)
 rw [Jem hk] at this
 rw [this]; simp⟩
theorem Kqe (a : UInt32) : (K1l a).toNat = a.toNat ^^^ 4294967295 := by
 apply Nat.eq_of_testBit_eq
 intro i
 rw [Klj, Nat.testBit_xor]
 by_cases h : i < 32
 ·rw [Kwx a i h, show (4294967295 : Nat) = 2 ^ 32 - 1 from rfl, Nat.testBit_two_pow_sub_one, decide_eq_true h]; simp
 ·have h1 : (~~~ a).toNat < 2 ^ 32 := (~~~ a).toNat_lt
  have h2 : a.toNat < 2 ^ 32 := a.toNat_lt
  have hp : 2 ^ 32 ≤ 2 ^ i := Nat.pow_le_pow_right (by omega) (by omega)
  rw [Nat.testBit_lt_two_pow (by omega), Nat.testBit_lt_two_pow (by omega), Nat.testBit_lt_two_pow (by omega)]; rfl
theorem Kge {X : Type} (F : Nat) (fail : X) (ex0 : Bys → Int → Int → UInt32 → UInt32 → UInt32 → List UInt32 → Bys → X) (s bs : Bys) (s4 s6 : UInt32) (hs : s.length ≤ 1000000000) : ∀ (j m i : Nat) (r : UInt32), i + j = s.length → j ≤ m →
  ∃ q : UInt32, q.toNat = crcG r.toNat (s.drop i) ∧ Jr3 F fail ex0 (m + 1) s (s.length : Nat) i s4 s6 r Jjj bs = ex0 s (s.length : Nat) (s.length : Nat) s4 s6 q Jjj bs
 | 0, m, i, r, hi, _ => by
  obtain rfl : i = s.length := by omega
  refine ⟨r, by rw [List.drop_length]; rfl, ?_⟩
  rw [Jr3, Kay]
  rw [Jab (ff (by omega))]
 | j + 1, 0, i, _, _, hm => absurd hm (by omega)
 | j + 1, m + 1, i, r, hi, hm => by
  have hx : (J5k (J2r r) (s.getD i 0)).toNat = (r.toNat % 256) ^^^ (s.getD i 0).toNat := by rw [Klk, UInt8.toNat_xor, K1y]
  have hlt : (J5k (J2r r) (s.getD i 0)).toNat < 256 := (J5k (J2r r) (s.getD i 0)).toNat_lt
  have hq : (Jl5 (Jrn r 8) (Jjj.getD (J5k (J2r r) (s.getD i 0)).toNat 0)).toNat = K8d r.toNat (s.getD i 0) := by
   rw [Jgk, UInt32.toNat_xor, show Jrn r 8 = Jrn r ((8 : Nat) : Int) from rfl, Jwd r 8 (by omega), Kxn]
   unfold Jjj
   rw [Jem (by simpa using hlt)]
   simp only [List.getElem_map, List.getElem_range]
   rw [UInt32.toNat_ofNat_of_lt' (K4a (show _ < 4294967296 by omega)), hx]
  obtain ⟨q, h1, h2⟩ := Kge F fail ex0 s bs s4 s6 hs j m (i + 1) (Jl5 (Jrn r 8) (Jjj.getD (J5k (J2r r) (s.getD i 0)).toNat 0)) (by omega) (by omega)
  refine ⟨q, ?_, ?_⟩
  ·rw [h1, hq, Jcz (0 : UInt8) (show i < s.length by omega)]; rfl
  ·rw [Jr3, Kay]
   rw [Int.toNat_natCast, Jaa (tt (by omega)), Jaa (tt2 (by omega) (by omega)), Jaa (tt2 (by omega) (by omega)), Jar (by omega) (by omega), Jwc]
   exact h2
theorem Ksh (s : UInt32) (b : Bys) (h : Kfg s b = true) : ∃ F, ∀ {X : Type} (fail : X) (ret : UInt32 → X), cUpd F s b fail ret = ret (Kpj s b) := ⟨b.length + 1, fun fail ret => by
 simp only [Kfg, decide_eq_true_eq] at h
 obtain ⟨q, h1, h2⟩ := Kge (b.length + 1) fail (fun _ _ _ _ _ r _ _ => ret (K1l r)) b b 0 (K1l s) h b.length b.length 0 (K1l s) (by omega) (by omega)
 unfold cUpd Kpj
 rw [Jaa (c := J1a) rfl]
 refine h2.trans (congrArg ret (K4b ?_))
 rw [Kqe, h1, Kqe, List.drop_zero]⟩
theorem Ksi (b : Bys) (h : J7x b = true) : ∃ F, ∀ {X : Type} (fail : X) (ret : UInt32 → X), cSum F b fail ret = ret (J7y b) := ⟨0, fun fail ret => by
 unfold cSum
 rw [Jaa (c := Kfg 0 b) h]; rfl⟩
theorem Kqf (b : Bys) : cvWI (J7y b) = ((Kv8 b : Nat) : Int) := by
 rw [K5g]; unfold J7y
 rw [UInt32.toNat_ofNat_of_lt' (Klx b)]
end Go.AI
