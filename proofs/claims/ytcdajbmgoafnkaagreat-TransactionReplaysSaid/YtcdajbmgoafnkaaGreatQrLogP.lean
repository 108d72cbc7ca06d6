/- Texts of the proof, joined: LogP. Names of our own are shortened by program; the long ones stand in wip/. -/
import Derived.Test.YtcdajbmgoafnkaaGreatQrG
import Derived.Test.YtcdajbmgoafnkaaGreatQrWord
import Derived.Test.YtcdajbmgoafnkaaGreatQrDiskP3
namespace Go.AI
open Go
theorem Qi4 (a b : Nat) : (a ^^^ b) / 2 = a / 2 ^^^ b / 2 := by
 apply Nat.eq_of_testBit_eq
 intro i
 simp [Nat.testBit_div_two, Nat.testBit_xor]
theorem Qnd (a b : Nat) : (a ^^^ b) % 2 = (a + b) % 2 := by
 have h := Nat.testBit_xor a b 0
 simp only [Nat.testBit_zero] at h
 rcases Nat.mod_two_eq_zero_or_one a with ha | ha <;> rcases Nat.mod_two_eq_zero_or_one b with hb | hb <;> rcases Nat.mod_two_eq_zero_or_one (a ^^^ b) with hc | hc <;> simp [ha, hb, hc] at h ⊢ <;> omega
theorem Qne (a b : Nat) : sh1 (a ^^^ b) = sh1 a ^^^ sh1 b := by
 unfold sh1
 have hp := Qnd a b
 rw [Qi4]
 rcases Nat.mod_two_eq_zero_or_one a with ha | ha <;> rcases Nat.mod_two_eq_zero_or_one b with hb | hb
 ·rw [if_neg (by omega), if_neg (by omega), if_neg (by omega)]
 ·rw [if_pos (by omega), if_neg (by omega), if_pos (by omega), Nat.xor_assoc]
 ·rw [if_pos (by omega), if_pos (by omega), if_neg (by omega), Nat.xor_assoc, Nat.xor_assoc, Nat.xor_comm (b / 2)]
 ·rw [if_neg (by omega), if_pos (by omega), if_pos (by omega), Nat.xor_assoc, ← Nat.xor_assoc 3988292384 (b / 2), Nat.xor_comm 3988292384 (b / 2), Nat.xor_assoc, Nat.xor_self, Nat.xor_zero]
theorem Qnf (a b : Nat) : sh8 (a ^^^ b) = sh8 a ^^^ sh8 b := by simp only [sh8, Qne]
theorem Qi5 (k : Nat) : sh1 (2 * k) = k := by unfold sh1; rw [if_neg (by omega)]; omega
theorem Qi6 (h : Nat) : sh8 (256 * h) = h := by
 unfold sh8
 rw [show 256 * h = 2 * (2 * (2 * (2 * (2 * (2 * (2 * (2 * h))))))) by omega]
 simp only [Qi5]
theorem Qpf (r : Nat) : (256 * (r / 256)) ^^^ (r % 256) = r := by
 apply Nat.eq_of_testBit_eq
 intro i
 rw [Nat.testBit_xor, show (256 : Nat) = 2 ^ 8 from rfl, Nat.testBit_two_pow_mul, Nat.testBit_mod_two_pow, Nat.testBit_div_two_pow]
 by_cases h : i < 8
 ·simp [h, show ¬ 8 ≤ i by omega]
 ·simp [h, show 8 ≤ i by omega]
theorem Qdo (r : Nat) (b : UInt8) : Qlv r b = (r / 256) ^^^ sh8 ((r % 256) ^^^ b.toNat) := by
 unfold Qlv
 rw [← Qi6 (r / 256), ← Qnf, ← Nat.xor_assoc, Qpf]
theorem J6h {r : Nat} (h : r < 4294967296) : sh1 r < 4294967296 := by
 unfold sh1
 split
 ·exact Nat.xor_lt_two_pow (n := 32) (by omega) (by omega)
 ·omega
theorem Qku {r : Nat} (h : r < 4294967296) : sh8 r < 4294967296 := J6h (J6h (J6h (J6h (J6h (J6h (J6h (J6h h)))))))
theorem Qdp {r : Nat} (h : r < 4294967296) (b : UInt8) : Qlv r b < 4294967296 := Qku (Nat.xor_lt_two_pow (n := 32) h (by have := b.toNat_lt; omega))
theorem Qdq : ∀ (b : Bys) {r : Nat}, r < 4294967296 → Qor r b < 4294967296
 | [], _, h => h
 | x :: b, _, h => Qdq b (Qdp h x)
theorem Km5 (b : Bys) : K9r b < 4294967296 := Nat.xor_lt_two_pow (n := 32) (Qdq b (by omega)) (by omega)
theorem Qkv (r : UInt32) : sh1 r.toNat = (if r.toNat % 2 = 1 then Jgq (Jpy r 1) 3988292384 else Jpy r 1).toNat := by
 have e : (Jpy r 1).toNat = r.toNat / 2 := Jph r 1 (by omega)
 unfold sh1
 split
 ·rw [Jhx, UInt32.toNat_xor, e]; rfl
 ·rw [e]
theorem K4x {a : UInt32} {n : Nat} (h : a.toNat = n) : a = UInt32.ofNat n := by rw [← h]; simp
theorem J6i {X : Type} (F : Nat) (fail : X) (ex0 : UInt32 → Int → X) : ∀ (j m i : Nat) (r : UInt32), i + j = 8 → j ≤ m →
  ∃ q : UInt32, q.toNat = Nat.repeat sh1 j r.toNat ∧ Jnn F fail ex0 (m + 1) r i = ex0 q 8
 | 0, m, i, r, hi, _ => by
  obtain rfl : i = 8 := by omega
  exact ⟨r, rfl, rfl⟩
 | j + 1, 0, i, _, _, hm => absurd hm (by omega)
 | j + 1, m + 1, i, r, hi, hm => by
  obtain ⟨q, h1, h2⟩ := J6i F fail ex0 j m (i + 1) (if r.toNat % 2 = 1 then Jgq (Jpy r 1) 3988292384 else Jpy r 1) (by omega) (by omega)
  refine ⟨q, ?_, ?_⟩
  ·rw [h1, ← Qkv]
   have : ∀ (n x : Nat), Nat.repeat sh1 n (sh1 x) = Nat.repeat sh1 (n + 1) x := by
    intro n
    induction n with
    | zero => intro x; rfl
    | succ n ih => intro x; show sh1 (Nat.repeat sh1 n (sh1 x)) = _; rw [ih]; rfl
   exact this j _
  ·rw [Jnn, J4j]
   have e : (J0h r 1).toNat = r.toNat % 2 := by rw [Jup, UInt32.toNat_and]; exact Nat.and_one_is_mod _
   rw [Jaa (tt (by omega)), e, Jai (by omega) (by omega), J2d]
   by_cases c : r.toNat % 2 = 1
   ·rw [if_pos c] at h2; rw [Jaa (Jk8 (by omega))]; exact h2
   ·rw [if_neg c] at h2; rw [Jab (Jl3 (by omega))]; exact h2
theorem Km6 (r : UInt32) (_ : J1g r = true) : ∃ F, ∀ {X : Type} (fail : X) (ret : UInt32 → X), Kyo F r fail ret = ret (Jld r) := ⟨9, fun fail ret => by
 obtain ⟨q, h1, h2⟩ := J6i 9 fail (fun r _ => ret r) 8 8 0 r (by omega) (by omega)
 unfold Kyo Jld
 refine h2.trans (congrArg ret (K4x h1))⟩
theorem Kr6 {X : Type} (F : Nat) (fail : X) (ex0 : UInt32 → Int → X) : ∀ (j m i : Nat) (r : UInt32), i + j = 8 → j ≤ m →
  ∃ q : UInt32, q.toNat = Nat.repeat sh1 j r.toNat ∧ J2a F fail ex0 (m + 1) r i = ex0 q 8
 | 0, m, i, r, hi, _ => by
  obtain rfl : i = 8 := by omega
  exact ⟨r, rfl, rfl⟩
 | j + 1, 0, i, _, _, hm => absurd hm (by omega)
 | j + 1, m + 1, i, r, hi, hm => by
  obtain ⟨q, h1, h2⟩ := Kr6 F fail ex0 j m (i + 1) (if r.toNat % 2 = 1 then Jgq (Jpy r 1) 3988292384 else Jpy r 1) (by omega) (by omega)
  refine ⟨q, ?_, ?_⟩
  ·rw [h1, ← Qkv]
   have : ∀ (n x : Nat), Nat.repeat sh1 n (sh1 x) = Nat.repeat sh1 (n + 1) x := by
    intro n
    induction n with
    | zero => intro x; rfl
    | succ n ih => intro x; show sh1 (Nat.repeat sh1 n (sh1 x)) = _; rw [ih]; rfl
   exact this j _
  ·rw [J2a, Kyp]
   have e : (remW r 2).toNat = r.toNat % 2 := by
    show (UInt32.ofNat (((r.toNat : Int).tmod ((2 : UInt32).toNat : Int))).toNat).toNat = _
    rw [show ((2 : UInt32).toNat : Int) = 2 from rfl, Int.tmod_eq_emod_of_nonneg (by omega)]
    have : ((r.toNat : Int) % 2).toNat = r.toNat % 2 := by omega
    rw [this, UInt32.toNat_ofNat_of_lt' (by have := Nat.mod_lt r.toNat (show 2 > 0 by omega); show _ < 4294967296; omega)]
   rw [Jaa (tt (by omega)), e, Jai (by omega) (by omega), J2d]
   by_cases c : r.toNat % 2 = 1
   ·rw [if_pos c] at h2; rw [Jaa (Jk8 (by omega))]; exact h2
   ·rw [if_neg c] at h2; rw [Jab (Jl3 (by omega))]; exact h2
theorem K7l (r : UInt32) (b : UInt8) (_ : K34 r b = true) : ∃ F, ∀ {X : Type} (fail : X) (ret : UInt32 → X), kReg F r b fail ret = ret (Kii r b) := ⟨9, fun fail ret => by
 obtain ⟨q, h1, h2⟩ := Kr6 9 fail (fun r _ => ret r) 8 8 0 (Jgq r (Jow b)) (by omega) (by omega)
 unfold kReg Kii
 refine h2.trans (congrArg ret (K4x (h1.trans ?_)))
 rw [Jhx, UInt32.toNat_xor, J9d]; rfl⟩
theorem Kr7 (_ : J8x = true) : ∃ F, ∀ {X : Type} (fail : X) (ret : List UInt32 → X), Qb9 F fail ret = ret Jl6 := ⟨257, fun fail ret => by
 have key : ∀ (j m i : Nat) (s0 out : List UInt32), i + j = 256 → j ≤ m → out.length = 256 → ∀ {X : Type} (fail : X) (ex0 : Int → List UInt32 → List UInt32 → X), ∃ o : List UInt32, o.length = 256 ∧ (∀ k, k < i → o.getD k 0 = out.getD k 0) ∧ (∀ k, i ≤ k → k < 256 → o.getD k 0 = UInt32.ofNat (sh8 k)) ∧ Jqn 257 fail ex0 (m + 1) i s0 out = ex0 256 s0 o := by
  intro j
  induction j with
  | zero =>
   intro m i s0 out hi _ ho X fail ex0
   obtain rfl : i = 256 := by omega
   exact ⟨out, ho, fun _ _ => rfl, fun k h1 h2 => by omega, rfl⟩
  | succ j ih =>
   intro m i s0 out hi hm ho X fail ex0
   obtain ⟨m', rfl⟩ : ∃ m', m = m' + 1 := ⟨m - 1, by omega⟩
   have hc : (Kia (i : Int)).toNat = i := by
    show (UInt32.ofNat (IntKind.u32.wrap (i : Int)).toNat).toNat = i
    rw [Krj i (by omega)]
    simp only [Int.toNat_natCast]
    exact UInt32.toNat_ofNat_of_lt' (by show _ < 4294967296; omega)
   obtain ⟨o, h1, h2, h3, h4⟩ := ih m' (i + 1) s0 (out.set i (Jld (Kia (i : Int)))) (by omega) (by omega) (by rw [List.length_set]; exact ho) fail ex0
   refine ⟨o, h1, fun k hk => ?_, fun k hk1 hk2 => ?_, ?_⟩
   ·rw [h2 k (by omega)]; simp [List.getD, List.getElem?_set_ne (show i ≠ k by omega)]
   ·by_cases e : k = i
    ·subst e
     rw [h2 k (by omega)]
     have : (out.set k (Jld (Kia (k : Int)))).getD k 0 = Jld (Kia (k : Int)) := by simp [List.getD, show k < out.length by omega]
     rw [this]; unfold Jld; rw [hc]
    ·exact h3 k (by omega) hk2
   ·rw [Jqn, Kba]
    rw [Jaa (tt (by omega)), Jaa (c := J1g _) rfl, Jaa (tt2 (by omega) (by omega)), Jai (by omega) (by omega), J2d, Int.toNat_natCast]
    exact h4
 obtain ⟨o, h1, _, h3, h4⟩ := key 256 256 0 (List.replicate 256 0) (List.replicate 256 0) (by omega) (by omega) List.length_replicate fail (fun _ _ o => ret o)
 unfold Qb9 Jl6
 refine h4.trans (congrArg ret (List.ext_getElem (by rw [h1, List.length_map, List.length_range]) (fun k hk _ => ?_)))
 have := h3 k (by omega) (by omega)
 rw [Jsh hk] at this
 rw [this]; simp⟩
theorem J9i (a : UInt32) : (Kx3 a).toNat = a.toNat ^^^ 4294967295 := by
 apply Nat.eq_of_testBit_eq
 intro i
 rw [Ky6, Nat.testBit_xor]
 by_cases h : i < 32
 ·rw [Qck a i h, show (4294967295 : Nat) = 2 ^ 32 - 1 from rfl, Nat.testBit_two_pow_sub_one, decide_eq_true h]; simp
 ·have h1 : (~~~ a).toNat < 2 ^ 32 := (~~~ a).toNat_lt
  have h2 : a.toNat < 2 ^ 32 := a.toNat_lt
  have hp : 2 ^ 32 ≤ 2 ^ i := Nat.pow_le_pow_right (by omega) (by omega)
  rw [Nat.testBit_lt_two_pow (by omega), Nat.testBit_lt_two_pow (by omega), Nat.testBit_lt_two_pow (by omega)]; rfl
theorem Kr8 {X : Type} (F : Nat) (fail : X) (ex0 : Bys → Int → Int → UInt32 → UInt32 → UInt32 → List UInt32 → Bys → X) (s bs : Bys) (s4 s6 : UInt32) (hs : s.length ≤ 1000000000) : ∀ (j m i : Nat) (r : UInt32), i + j = s.length → j ≤ m →
  ∃ q : UInt32, q.toNat = Qor r.toNat (s.drop i) ∧ Jxa F fail ex0 (m + 1) s (s.length : Nat) i s4 s6 r Jl6 bs = ex0 s (s.length : Nat) (s.length : Nat) s4 s6 q Jl6 bs
 | 0, m, i, r, hi, _ => by
  obtain rfl : i = s.length := by omega
  refine ⟨r, by rw [List.drop_length]; rfl, ?_⟩
  rw [Jxa, Kma]
  rw [Jab (ff (by omega))]
 | j + 1, 0, i, _, _, hm => absurd hm (by omega)
 | j + 1, m + 1, i, r, hi, hm => by
  have hx : (Jtq (J7d r) (s.getD i 0)).toNat = (r.toNat % 256) ^^^ (s.getD i 0).toNat := by rw [Qmk, UInt8.toNat_xor, K4c]
  have hlt : (Jtq (J7d r) (s.getD i 0)).toNat < 256 := (Jtq (J7d r) (s.getD i 0)).toNat_lt
  have hq : (Jgq (Jpy r 8) (Jl6.getD (Jtq (J7d r) (s.getD i 0)).toNat 0)).toNat = Qlv r.toNat (s.getD i 0) := by
   rw [Jhx, UInt32.toNat_xor, show Jpy r 8 = Jpy r ((8 : Nat) : Int) from rfl, Jph r 8 (by omega), Qdo]
   unfold Jl6
   rw [Jsh (by simpa using hlt)]
   simp only [List.getElem_map, List.getElem_range]
   rw [UInt32.toNat_ofNat_of_lt' (Qku (show _ < 4294967296 by omega)), hx]
  obtain ⟨q, h1, h2⟩ := Kr8 F fail ex0 s bs s4 s6 hs j m (i + 1) (Jgq (Jpy r 8) (Jl6.getD (Jtq (J7d r) (s.getD i 0)).toNat 0)) (by omega) (by omega)
  refine ⟨q, ?_, ?_⟩
  ·rw [h1, hq, Jdj (0 : UInt8) (show i < s.length by omega)]; rfl
  ·rw [Jxa, Kma]
   rw [Int.toNat_natCast, Jaa (tt (by omega)), Jaa (tt2 (by omega) (by omega)), Jaa (tt2 (by omega) (by omega)), Jai (by omega) (by omega), J2d]
   exact h2
theorem K7m (s : UInt32) (b : Bys) (h : Kq7 s b = true) : ∃ F, ∀ {X : Type} (fail : X) (ret : UInt32 → X), cUpd F s b fail ret = ret (Kig s b) := ⟨b.length + 1, fun fail ret => by
 simp only [Kq7, decide_eq_true_eq] at h
 obtain ⟨q, h1, h2⟩ := Kr8 (b.length + 1) fail (fun _ _ _ _ _ r _ _ => ret (Kx3 r)) b b 0 (Kx3 s) h b.length b.length 0 (Kx3 s) (by omega) (by omega)
 unfold cUpd Kig
 rw [Jaa (c := J8x) rfl]
 refine h2.trans (congrArg ret (K4x ?_))
 rw [J9i, h1, J9i, List.drop_zero]⟩
theorem Kr9 {X : Type} (F : Nat) (fail : X) (ex0 : Bys → UInt32 → Int → X) (s : Bys) (hs : s.length ≤ 1000000000) : ∀ (j m i : Nat) (r : UInt32), i + j = s.length → j ≤ m →
  ∃ q : UInt32, q.toNat = Qor r.toNat (s.drop i) ∧ Jxb F fail ex0 (m + 1) s r i = ex0 s q (s.length : Nat)
 | 0, m, i, r, hi, _ => by
  obtain rfl : i = s.length := by omega
  refine ⟨r, by rw [List.drop_length]; rfl, ?_⟩
  rw [Jxb, Kmb]
  rw [Jab (ff (by omega))]
 | j + 1, 0, i, _, _, hm => absurd hm (by omega)
 | j + 1, m + 1, i, r, hi, hm => by
  have hq : (Kii r (s.getD i 0)).toNat = Qlv r.toNat (s.getD i 0) := UInt32.toNat_ofNat_of_lt' (Qdp (show r.toNat < 4294967296 from r.toNat_lt) _)
  obtain ⟨q, h1, h2⟩ := Kr9 F fail ex0 s hs j m (i + 1) (Kii r (s.getD i 0)) (by omega) (by omega)
  refine ⟨q, ?_, ?_⟩
  ·rw [h1, hq, Jdj (0 : UInt8) (show i < s.length by omega)]; rfl
  ·rw [Jxb, Kmb]
   rw [Int.toNat_natCast, Jaa (tt (by omega)), Jaa (tt2 (by omega) (by omega)), Jaa (c := K34 _ _) rfl, Jai (by omega) (by omega), J2d]
   exact h2
theorem K7n (s : UInt32) (b : Bys) (h : Kq8 s b = true) : ∃ F, ∀ {X : Type} (fail : X) (ret : UInt32 → X), kUpd F s b fail ret = ret (K35 s b) := ⟨b.length + 1, fun fail ret => by
 simp only [Kq8, decide_eq_true_eq] at h
 obtain ⟨q, h1, h2⟩ := Kr9 (b.length + 1) fail (fun _ r _ => ret (Kx3 r)) b h b.length b.length 0 (Kx3 s) (by omega) (by omega)
 unfold kUpd K35 Kig
 refine h2.trans (congrArg ret (K4x ?_))
 rw [J9i, h1, J9i, List.drop_zero]⟩
theorem K7o (b : Bys) (h : Kih b = true) : ∃ F, ∀ {X : Type} (fail : X) (ret : UInt32 → X), cSum F b fail ret = ret (Ka0 b) := ⟨0, fun fail ret => by
 unfold cSum
 rw [Jaa (c := Kq7 0 b) h]; rfl⟩
theorem K7p (b : Bys) (h : K36 b = true) : ∃ F, ∀ {X : Type} (fail : X) (ret : UInt32 → X), kSum F b fail ret = ret (Kq9 b) := ⟨0, fun fail ret => by
 unfold kSum
 rw [Jaa (c := Kq8 0 b) h]; rfl⟩
theorem Km7 (b : Bys) : Qbp (Ka0 b) = ((K9r b : Nat) : Int) := by
 rw [Kx5]; unfold Ka0
 rw [UInt32.toNat_ofNat_of_lt' (Km5 b)]
end Go.AI
