/- Texts of the proof, joined: LogP. Names of our own are shortened by program; the long ones stand in wip/. -/
import Derived.Test.YtcdajbmgoafnkaaGreatQvG
import Derived.Test.YtcdajbmgoafnkaaGreatQvWord
import Derived.Test.YtcdajbmgoafnkaaGreatQvDiskP3
namespace Go.AI
open Go
theorem K3t (a b : Nat) : (a ^^^ b) / 2 = a / 2 ^^^ b / 2 := by
 apply Nat.eq_of_testBit_eq
 intro i
 simp [Nat.testBit_div_two, Nat.testBit_xor]
theorem K72 (a b : Nat) : (a ^^^ b) % 2 = (a + b) % 2 := by
 have h := Nat.testBit_xor a b 0
 simp only [Nat.testBit_zero] at h
 rcases Nat.mod_two_eq_zero_or_one a with ha | ha <;> rcases Nat.mod_two_eq_zero_or_one b with hb | hb <;> rcases Nat.mod_two_eq_zero_or_one (a ^^^ b) with hc | hc <;> simp [ha, hb, hc] at h ⊢ <;> omega
theorem K73 (a b : Nat) : sh1 (a ^^^ b) = sh1 a ^^^ sh1 b := by
 unfold sh1
 have hp := K72 a b
 rw [K3t]
 rcases Nat.mod_two_eq_zero_or_one a with ha | ha <;> rcases Nat.mod_two_eq_zero_or_one b with hb | hb
 ·rw [if_neg (by omega), if_neg (by omega), if_neg (by omega)]
 ·rw [if_pos (by omega), if_neg (by omega), if_pos (by omega), Nat.xor_assoc]
 ·rw [if_pos (by omega), if_pos (by omega), if_neg (by omega), Nat.xor_assoc, Nat.xor_assoc, Nat.xor_comm (b / 2)]
 ·rw [if_neg (by omega), if_pos (by omega), if_pos (by omega), Nat.xor_assoc, ← Nat.xor_assoc 3988292384 (b / 2), Nat.xor_comm 3988292384 (b / 2), Nat.xor_assoc, Nat.xor_self, Nat.xor_zero]
theorem K74 (a b : Nat) : sh8 (a ^^^ b) = sh8 a ^^^ sh8 b := by simp only [sh8, K73]
theorem K3u (k : Nat) : sh1 (2 * k) = k := by unfold sh1; rw [if_neg (by omega)]; omega
theorem K3v (h : Nat) : sh8 (256 * h) = h := by
 unfold sh8
 rw [show 256 * h = 2 * (2 * (2 * (2 * (2 * (2 * (2 * (2 * h))))))) by omega]
 simp only [K3u]
theorem Qab (r : Nat) : (256 * (r / 256)) ^^^ (r % 256) = r := by
 apply Nat.eq_of_testBit_eq
 intro i
 rw [Nat.testBit_xor, show (256 : Nat) = 2 ^ 8 from rfl, Nat.testBit_two_pow_mul, Nat.testBit_mod_two_pow, Nat.testBit_div_two_pow]
 by_cases h : i < 8
 ·simp [h, show ¬ 8 ≤ i by omega]
 ·simp [h, show 8 ≤ i by omega]
theorem Kyp (r : Nat) (b : UInt8) : K9q r b = (r / 256) ^^^ sh8 ((r % 256) ^^^ b.toNat) := by
 unfold K9q
 rw [← K3v (r / 256), ← K74, ← Nat.xor_assoc, Qab]
theorem Jz5 {r : Nat} (h : r < 4294967296) : sh1 r < 4294967296 := by
 unfold sh1
 split
 ·exact Nat.xor_lt_two_pow (n := 32) (by omega) (by omega)
 ·omega
theorem K5s {r : Nat} (h : r < 4294967296) : sh8 r < 4294967296 := Jz5 (Jz5 (Jz5 (Jz5 (Jz5 (Jz5 (Jz5 (Jz5 h)))))))
theorem K75 {r : Nat} (h : r < 4294967296) (b : UInt8) : K9q r b < 4294967296 := K5s (Nat.xor_lt_two_pow (n := 32) h (by have := b.toNat_lt; omega))
theorem Kyq : ∀ (b : Bys) {r : Nat}, r < 4294967296 → crcG r b < 4294967296
 | [], _, h => h
 | x :: b, _, h => Kyq b (K75 h x)
theorem Kmk (b : Bys) : Kw8 b < 4294967296 := Nat.xor_lt_two_pow (n := 32) (Kyq b (by omega)) (by omega)
theorem Qac (r : UInt32) : sh1 r.toNat = (if r.toNat % 2 = 1 then Jmm (Jr7 r 1) 3988292384 else Jr7 r 1).toNat := by
 have e : (Jr7 r 1).toNat = r.toNat / 2 := Jww r 1 (by omega)
 unfold sh1
 split
 ·rw [Jgw, UInt32.toNat_xor, e]; rfl
 ·rw [e]
theorem K5t {a : UInt32} {n : Nat} (h : a.toNat = n) : a = UInt32.ofNat n := by rw [← h]; simp
theorem Jz6 {X : Type} (F : Nat) (fail : X) (ex0 : UInt32 → Int → X) : ∀ (j m i : Nat) (r : UInt32), i + j = 8 → j ≤ m →
  ∃ q : UInt32, q.toNat = Nat.repeat sh1 j r.toNat ∧ Jld F fail ex0 (m + 1) r i = ex0 q 8
 | 0, m, i, r, hi, _ => by
  obtain rfl : i = 8 := by omega
  exact ⟨r, rfl, rfl⟩
 | j + 1, 0, i, _, _, hm => absurd hm (by omega)
 | j + 1, m + 1, i, r, hi, hm => by
  obtain ⟨q, h1, h2⟩ := Jz6 F fail ex0 j m (i + 1) (if r.toNat % 2 = 1 then Jmm (Jr7 r 1) 3988292384 else Jr7 r 1) (by omega) (by omega)
  refine ⟨q, ?_, ?_⟩
  ·rw [h1, ← Qac]
   have : ∀ (n x : Nat), Nat.repeat sh1 n (sh1 x) = Nat.repeat sh1 (n + 1) x := by
    intro n
    induction n with
    | zero => intro x; rfl
    | succ n ih => intro x; show sh1 (Nat.repeat sh1 n (sh1 x)) = _; rw [ih]; rfl
   exact this j _
  ·rw [Jld, Jyt]
   have e : (J3d r 1).toNat = r.toNat % 2 := by rw [Jqz, UInt32.toNat_and]; exact Nat.and_one_is_mod _
   rw [Jaa (tt (by omega)), e, Jam (by omega) (by omega), Juu]
   by_cases c : r.toNat % 2 = 1
   ·rw [if_pos c] at h2; rw [Jaa (Jju (by omega))]; exact h2
   ·rw [if_neg c] at h2; rw [Jab (Jjv (by omega))]; exact h2
theorem Kcn (r : UInt32) (_ : Jwh r = true) : ∃ F, ∀ {X : Type} (fail : X) (ret : UInt32 → X), Klr F r fail ret = ret (Ji7 r) := ⟨9, fun fail ret => by
 obtain ⟨q, h1, h2⟩ := Jz6 9 fail (fun r _ => ret r) 8 8 0 r (by omega) (by omega)
 unfold Klr Ji7
 refine h2.trans (congrArg ret (K5t h1))⟩
theorem Kg2 (_ : J1v = true) : ∃ F, ∀ {X : Type} (fail : X) (ret : List UInt32 → X), Kxk F fail ret = ret Jj0 := ⟨257, fun fail ret => by
 have key : ∀ (j m i : Nat) (s0 out : List UInt32), i + j = 256 → j ≤ m → out.length = 256 → ∀ {X : Type} (fail : X) (ex0 : Int → List UInt32 → List UInt32 → X), ∃ o : List UInt32, o.length = 256 ∧ (∀ k, k < i → o.getD k 0 = out.getD k 0) ∧ (∀ k, i ≤ k → k < 256 → o.getD k 0 = UInt32.ofNat (sh8 k)) ∧ Jnd 257 fail ex0 (m + 1) i s0 out = ex0 256 s0 o := by
  intro j
  induction j with
  | zero =>
   intro m i s0 out hi _ ho X fail ex0
   obtain rfl : i = 256 := by omega
   exact ⟨out, ho, fun _ _ => rfl, fun k h1 h2 => by omega, rfl⟩
  | succ j ih =>
   intro m i s0 out hi hm ho X fail ex0
   obtain ⟨m', rfl⟩ : ∃ m', m = m' + 1 := ⟨m - 1, by omega⟩
   have hc : (Kux (i : Int)).toNat = i := by
    show (UInt32.ofNat (IntKind.u32.wrap (i : Int)).toNat).toNat = i
    rw [Kgl i (by omega)]
    simp only [Int.toNat_natCast]
    exact UInt32.toNat_ofNat_of_lt' (by show _ < 4294967296; omega)
   obtain ⟨o, h1, h2, h3, h4⟩ := ih m' (i + 1) s0 (out.set i (Ji7 (Kux (i : Int)))) (by omega) (by omega) (by rw [List.length_set]; exact ho) fail ex0
   refine ⟨o, h1, fun k hk => ?_, fun k hk1 hk2 => ?_, ?_⟩
   ·rw [h2 k (by omega)]; simp [List.getD, List.getElem?_set_ne (show i ≠ k by omega)]
   ·by_cases e : k = i
    ·subst e
     rw [h2 k (by omega)]
     have : (out.set k (Ji7 (Kux (k : Int)))).getD k 0 = Ji7 (Kux (k : Int)) := by simp [List.getD, show k < out.length by omega]
     rw [this]; unfold Ji7; rw [hc]
    ·exact h3 k (by omega) hk2
   ·rw [Jnd, J3s]
    rw [Jaa (tt (by omega)), Jaa (c := Jwh _) rfl, Jaa (tt2 (by omega) (by omega)), Jam (by omega) (by omega), Juu, Int.toNat_natCast]
    exact h4
 obtain ⟨o, h1, _, h3, h4⟩ := key 256 256 0 (List.replicate 256 0) (List.replicate 256 0) (by omega) (by omega) List.length_replicate fail (fun _ _ o => ret o)
 unfold Kxk Jj0
 refine h4.trans (congrArg ret (List.ext_getElem (by rw [h1, List.length_map, List.length_range]) (fun k hk _ => ?_)))
 have := h3 k (by omega) (by omega)
 rw [Jdw hk] at this
 rw [this]; simp⟩
theorem Kq7 (a : UInt32) : (K20 a).toNat = a.toNat ^^^ 4294967295 := by
 apply Nat.eq_of_testBit_eq
 intro i
 rw [Kl6, Nat.testBit_xor]
 by_cases h : i < 32
 ·rw [Kxz a i h, show (4294967295 : Nat) = 2 ^ 32 - 1 from rfl, Nat.testBit_two_pow_sub_one, decide_eq_true h]; simp
 ·have h1 : (~~~ a).toNat < 2 ^ 32 := (~~~ a).toNat_lt
  have h2 : a.toNat < 2 ^ 32 := a.toNat_lt
  have hp : 2 ^ 32 ≤ 2 ^ i := Nat.pow_le_pow_right (by omega) (by omega)
  rw [Nat.testBit_lt_two_pow (by omega), Nat.testBit_lt_two_pow (by omega), Nat.testBit_lt_two_pow (by omega)]; rfl
theorem Kg3 {X : Type} (F : Nat) (fail : X) (ex0 : Bys → Int → Int → UInt32 → UInt32 → UInt32 → List UInt32 → Bys → X) (s bs : Bys) (s4 s6 : UInt32) (hs : s.length ≤ 1000000000) : ∀ (j m i : Nat) (r : UInt32), i + j = s.length → j ≤ m →
  ∃ q : UInt32, q.toNat = crcG r.toNat (s.drop i) ∧ Jsm F fail ex0 (m + 1) s (s.length : Nat) i s4 s6 r Jj0 bs = ex0 s (s.length : Nat) (s.length : Nat) s4 s6 q Jj0 bs
 | 0, m, i, r, hi, _ => by
  obtain rfl : i = s.length := by omega
  refine ⟨r, by rw [List.drop_length]; rfl, ?_⟩
  rw [Jsm, Kbt]
  rw [Jab (ff (by omega))]
 | j + 1, 0, i, _, _, hm => absurd hm (by omega)
 | j + 1, m + 1, i, r, hi, hm => by
  have hx : (J6f (J3e r) (s.getD i 0)).toNat = (r.toNat % 256) ^^^ (s.getD i 0).toNat := by rw [Kl7, UInt8.toNat_xor, K3c]
  have hlt : (J6f (J3e r) (s.getD i 0)).toNat < 256 := (J6f (J3e r) (s.getD i 0)).toNat_lt
  have hq : (Jmm (Jr7 r 8) (Jj0.getD (J6f (J3e r) (s.getD i 0)).toNat 0)).toNat = K9q r.toNat (s.getD i 0) := by
   rw [Jgw, UInt32.toNat_xor, show Jr7 r 8 = Jr7 r ((8 : Nat) : Int) from rfl, Jww r 8 (by omega), Kyp]
   unfold Jj0
   rw [Jdw (by simpa using hlt)]
   simp only [List.getElem_map, List.getElem_range]
   rw [UInt32.toNat_ofNat_of_lt' (K5s (show _ < 4294967296 by omega)), hx]
  obtain ⟨q, h1, h2⟩ := Kg3 F fail ex0 s bs s4 s6 hs j m (i + 1) (Jmm (Jr7 r 8) (Jj0.getD (J6f (J3e r) (s.getD i 0)).toNat 0)) (by omega) (by omega)
  refine ⟨q, ?_, ?_⟩
  ·rw [h1, hq, Jcu (0 : UInt8) (show i < s.length by omega)]; rfl
  ·rw [Jsm, Kbt]
   rw [Int.toNat_natCast, Jaa (tt (by omega)), Jaa (tt2 (by omega) (by omega)), Jaa (tt2 (by omega) (by omega)), Jam (by omega) (by omega), Juu]
   exact h2
theorem Kte (s : UInt32) (b : Bys) (h : Kf8 s b = true) : ∃ F, ∀ {X : Type} (fail : X) (ret : UInt32 → X), cUpd F s b fail ret = ret (Kqb s b) := ⟨b.length + 1, fun fail ret => by
 simp only [Kf8, decide_eq_true_eq] at h
 obtain ⟨q, h1, h2⟩ := Kg3 (b.length + 1) fail (fun _ _ _ _ _ r _ _ => ret (K20 r)) b b 0 (K20 s) h b.length b.length 0 (K20 s) (by omega) (by omega)
 unfold cUpd Kqb
 rw [Jaa (c := J1v) rfl]
 refine h2.trans (congrArg ret (K5t ?_))
 rw [Kq7, h1, Kq7, List.drop_zero]⟩
theorem Ktf (b : Bys) (h : J8r b = true) : ∃ F, ∀ {X : Type} (fail : X) (ret : UInt32 → X), cSum F b fail ret = ret (J8s b) := ⟨0, fun fail ret => by
 unfold cSum
 rw [Jaa (c := Kf8 0 b) h]; rfl⟩
theorem Kq8 (b : Bys) : cvWI (J8s b) = ((Kw8 b : Nat) : Int) := by
 rw [K6x]; unfold J8s
 rw [UInt32.toNat_ofNat_of_lt' (Kmk b)]
end Go.AI
