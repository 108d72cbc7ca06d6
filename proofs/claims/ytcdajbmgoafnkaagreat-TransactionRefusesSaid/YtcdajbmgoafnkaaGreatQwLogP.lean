/- Texts of the proof, joined: LogP. Names of our own are shortened by program; the long ones stand in wip/. -/
import Derived.Test.YtcdajbmgoafnkaaGreatQwG
import Derived.Test.YtcdajbmgoafnkaaGreatQwWord
import Derived.Test.YtcdajbmgoafnkaaGreatQwDiskP3
namespace Go.AI
open Go
theorem Qbr (a b : Nat) : (a ^^^ b) / 2 = a / 2 ^^^ b / 2 := by
 apply Nat.eq_of_testBit_eq
 intro i
 simp [Nat.testBit_div_two, Nat.testBit_xor]
theorem Qgf (a b : Nat) : (a ^^^ b) % 2 = (a + b) % 2 := by
 have h := Nat.testBit_xor a b 0
 simp only [Nat.testBit_zero] at h
 rcases Nat.mod_two_eq_zero_or_one a with ha | ha <;> rcases Nat.mod_two_eq_zero_or_one b with hb | hb <;> rcases Nat.mod_two_eq_zero_or_one (a ^^^ b) with hc | hc <;> simp [ha, hb, hc] at h ⊢ <;> omega
theorem Qgg (a b : Nat) : sh1 (a ^^^ b) = sh1 a ^^^ sh1 b := by
 unfold sh1
 have hp := Qgf a b
 rw [Qbr]
 rcases Nat.mod_two_eq_zero_or_one a with ha | ha <;> rcases Nat.mod_two_eq_zero_or_one b with hb | hb
 ·rw [if_neg (by omega), if_neg (by omega), if_neg (by omega)]
 ·rw [if_pos (by omega), if_neg (by omega), if_pos (by omega), Nat.xor_assoc]
 ·rw [if_pos (by omega), if_pos (by omega), if_neg (by omega), Nat.xor_assoc, Nat.xor_assoc, Nat.xor_comm (b / 2)]
 ·rw [if_neg (by omega), if_pos (by omega), if_pos (by omega), Nat.xor_assoc, ← Nat.xor_assoc 3988292384 (b / 2), Nat.xor_comm 3988292384 (b / 2), Nat.xor_assoc, Nat.xor_self, Nat.xor_zero]
theorem Qgh (a b : Nat) : sh8 (a ^^^ b) = sh8 a ^^^ sh8 b := by simp only [sh8, Qgg]
theorem Qbs (k : Nat) : sh1 (2 * k) = k := by unfold sh1; rw [if_neg (by omega)]; omega
theorem Qbt (h : Nat) : sh8 (256 * h) = h := by
 unfold sh8
 rw [show 256 * h = 2 * (2 * (2 * (2 * (2 * (2 * (2 * (2 * h))))))) by omega]
 simp only [Qbs]
theorem Qip (r : Nat) : (256 * (r / 256)) ^^^ (r % 256) = r := by
 apply Nat.eq_of_testBit_eq
 intro i
 rw [Nat.testBit_xor, show (256 : Nat) = 2 ^ 8 from rfl, Nat.testBit_two_pow_mul, Nat.testBit_mod_two_pow, Nat.testBit_div_two_pow]
 by_cases h : i < 8
 ·simp [h, show ¬ 8 ≤ i by omega]
 ·simp [h, show 8 ≤ i by omega]
theorem K6b (r : Nat) (b : UInt8) : Qh0 r b = (r / 256) ^^^ sh8 ((r % 256) ^^^ b.toNat) := by
 unfold Qh0
 rw [← Qbt (r / 256), ← Qgh, ← Nat.xor_assoc, Qip]
theorem J2s {r : Nat} (h : r < 4294967296) : sh1 r < 4294967296 := by
 unfold sh1
 split
 ·exact Nat.xor_lt_two_pow (n := 32) (by omega) (by omega)
 ·omega
theorem Qdt {r : Nat} (h : r < 4294967296) : sh8 r < 4294967296 := J2s (J2s (J2s (J2s (J2s (J2s (J2s (J2s h)))))))
theorem Qgi {r : Nat} (h : r < 4294967296) (b : UInt8) : Qh0 r b < 4294967296 := Qdt (Nat.xor_lt_two_pow (n := 32) h (by have := b.toNat_lt; omega))
theorem K6c : ∀ (b : Bys) {r : Nat}, r < 4294967296 → crcG r b < 4294967296
 | [], _, h => h
 | x :: b, _, h => K6c b (Qgi h x)
theorem Kso (b : Bys) : K4d b < 4294967296 := Nat.xor_lt_two_pow (n := 32) (K6c b (by omega)) (by omega)
theorem Qiq (r : UInt32) : sh1 r.toNat = (if r.toNat % 2 = 1 then Jgg (Jqx r 1) 3988292384 else Jqx r 1).toNat := by
 have e : (Jqx r 1).toNat = r.toNat / 2 := Jno r 1 (by omega)
 unfold sh1
 split
 ·rw [Jgz, UInt32.toNat_xor, e]; rfl
 ·rw [e]
theorem Qdu {a : UInt32} {n : Nat} (h : a.toNat = n) : a = UInt32.ofNat n := by rw [← h]; simp
theorem J2t {X : Type} (F : Nat) (fail : X) (ex0 : UInt32 → Int → X) : ∀ (j m i : Nat) (r : UInt32), i + j = 8 → j ≤ m →
  ∃ q : UInt32, q.toNat = Nat.repeat sh1 j r.toNat ∧ Jl9 F fail ex0 (m + 1) r i = ex0 q 8
 | 0, m, i, r, hi, _ => by
  obtain rfl : i = 8 := by omega
  exact ⟨r, rfl, rfl⟩
 | j + 1, 0, i, _, _, hm => absurd hm (by omega)
 | j + 1, m + 1, i, r, hi, hm => by
  obtain ⟨q, h1, h2⟩ := J2t F fail ex0 j m (i + 1) (if r.toNat % 2 = 1 then Jgg (Jqx r 1) 3988292384 else Jqx r 1) (by omega) (by omega)
  refine ⟨q, ?_, ?_⟩
  ·rw [h1, ← Qiq]
   have : ∀ (n x : Nat), Nat.repeat sh1 n (sh1 x) = Nat.repeat sh1 (n + 1) x := by
    intro n
    induction n with
    | zero => intro x; rfl
    | succ n ih => intro x; show sh1 (Nat.repeat sh1 n (sh1 x)) = _; rw [ih]; rfl
   exact this j _
  ·rw [Jl9, J02]
   have e : (Jxc r 1).toNat = r.toNat % 2 := by rw [Jsb, UInt32.toNat_and]; exact Nat.and_one_is_mod _
   rw [Jaa (tt (by omega)), e, Jak (by omega) (by omega), J0e]
   by_cases c : r.toNat % 2 = 1
   ·rw [if_pos c] at h2; rw [Jaa (Jnv (by omega))]; exact h2
   ·rw [if_neg c] at h2; rw [Jab (Jkj (by omega))]; exact h2
theorem Kg7 (r : UInt32) (_ : Jyf r = true) : ∃ F, ∀ {X : Type} (fail : X) (ret : UInt32 → X), Krt F r fail ret = ret (Jjt r) := ⟨9, fun fail ret => by
 obtain ⟨q, h1, h2⟩ := J2t 9 fail (fun r _ => ret r) 8 8 0 r (by omega) (by omega)
 unfold Krt Jjt
 refine h2.trans (congrArg ret (Qdu h1))⟩
theorem Kl1 (_ : J4t = true) : ∃ F, ∀ {X : Type} (fail : X) (ret : List UInt32 → X), K4u F fail ret = ret Jko := ⟨257, fun fail ret => by
 have key : ∀ (j m i : Nat) (s0 out : List UInt32), i + j = 256 → j ≤ m → out.length = 256 → ∀ {X : Type} (fail : X) (ex0 : Int → List UInt32 → List UInt32 → X), ∃ o : List UInt32, o.length = 256 ∧ (∀ k, k < i → o.getD k 0 = out.getD k 0) ∧ (∀ k, i ≤ k → k < 256 → o.getD k 0 = UInt32.ofNat (sh8 k)) ∧ Jop 257 fail ex0 (m + 1) i s0 out = ex0 256 s0 o := by
  intro j
  induction j with
  | zero =>
   intro m i s0 out hi _ ho X fail ex0
   obtain rfl : i = 256 := by omega
   exact ⟨out, ho, fun _ _ => rfl, fun k h1 h2 => by omega, rfl⟩
  | succ j ih =>
   intro m i s0 out hi hm ho X fail ex0
   obtain ⟨m', rfl⟩ : ∃ m', m = m' + 1 := ⟨m - 1, by omega⟩
   have hc : (Kcl (i : Int)).toNat = i := by
    show (UInt32.ofNat (IntKind.u32.wrap (i : Int)).toNat).toNat = i
    rw [Kle i (by omega)]
    simp only [Int.toNat_natCast]
    exact UInt32.toNat_ofNat_of_lt' (by show _ < 4294967296; omega)
   obtain ⟨o, h1, h2, h3, h4⟩ := ih m' (i + 1) s0 (out.set i (Jjt (Kcl (i : Int)))) (by omega) (by omega) (by rw [List.length_set]; exact ho) fail ex0
   refine ⟨o, h1, fun k hk => ?_, fun k hk1 hk2 => ?_, ?_⟩
   ·rw [h2 k (by omega)]; simp [List.getD, List.getElem?_set_ne (show i ≠ k by omega)]
   ·by_cases e : k = i
    ·subst e
     rw [h2 k (by omega)]
     have : (out.set k (Jjt (Kcl (k : Int)))).getD k 0 = Jjt (Kcl (k : Int)) := by simp [List.getD, show k < out.length by omega]
     rw [this]; unfold Jjt; rw [hc]
    ·exact h3 k (by omega) hk2
   ·rw [Jop, J6x]
    rw [Jaa (tt (by omega)), Jaa (c := Jyf _) rfl, Jaa (tt2 (by omega) (by omega)), Jak (by omega) (by omega), J0e, Int.toNat_natCast]
    exact h4
 obtain ⟨o, h1, _, h3, h4⟩ := key 256 256 0 (List.replicate 256 0) (List.replicate 256 0) (by omega) (by omega) List.length_replicate fail (fun _ _ o => ret o)
 unfold K4u Jko
 refine h4.trans (congrArg ret (List.ext_getElem (by rw [h1, List.length_map, List.length_range]) (fun k hk _ => ?_)))
 have := h3 k (by omega) (by omega)
 rw [Jd8 hk] at this
 rw [this]; simp⟩
theorem Kxw (a : UInt32) : (K34 a).toNat = a.toNat ^^^ 4294967295 := by
 apply Nat.eq_of_testBit_eq
 intro i
 rw [Kr7, Nat.testBit_xor]
 by_cases h : i < 32
 ·rw [K47 a i h, show (4294967295 : Nat) = 2 ^ 32 - 1 from rfl, Nat.testBit_two_pow_sub_one, decide_eq_true h]; simp
 ·have h1 : (~~~ a).toNat < 2 ^ 32 := (~~~ a).toNat_lt
  have h2 : a.toNat < 2 ^ 32 := a.toNat_lt
  have hp : 2 ^ 32 ≤ 2 ^ i := Nat.pow_le_pow_right (by omega) (by omega)
  rw [Nat.testBit_lt_two_pow (by omega), Nat.testBit_lt_two_pow (by omega), Nat.testBit_lt_two_pow (by omega)]; rfl
theorem Kl2 {X : Type} (F : Nat) (fail : X) (ex0 : Bys → Int → Int → UInt32 → UInt32 → UInt32 → List UInt32 → Bys → X) (s bs : Bys) (s4 s6 : UInt32) (hs : s.length ≤ 1000000000) : ∀ (j m i : Nat) (r : UInt32), i + j = s.length → j ≤ m →
  ∃ q : UInt32, q.toNat = crcG r.toNat (s.drop i) ∧ Juf F fail ex0 (m + 1) s (s.length : Nat) i s4 s6 r Jko bs = ex0 s (s.length : Nat) (s.length : Nat) s4 s6 q Jko bs
 | 0, m, i, r, hi, _ => by
  obtain rfl : i = s.length := by omega
  refine ⟨r, by rw [List.drop_length]; rfl, ?_⟩
  rw [Juf, Kf7]
  rw [Jab (ff (by omega))]
 | j + 1, 0, i, _, _, hm => absurd hm (by omega)
 | j + 1, m + 1, i, r, hi, hm => by
  have hx : (Jpj (J3k r) (s.getD i 0)).toNat = (r.toNat % 256) ^^^ (s.getD i 0).toNat := by rw [Kr8, UInt8.toNat_xor, Kxc]
  have hlt : (Jpj (J3k r) (s.getD i 0)).toNat < 256 := (Jpj (J3k r) (s.getD i 0)).toNat_lt
  have hq : (Jgg (Jqx r 8) (Jko.getD (Jpj (J3k r) (s.getD i 0)).toNat 0)).toNat = Qh0 r.toNat (s.getD i 0) := by
   rw [Jgz, UInt32.toNat_xor, show Jqx r 8 = Jqx r ((8 : Nat) : Int) from rfl, Jno r 8 (by omega), K6b]
   unfold Jko
   rw [Jd8 (by simpa using hlt)]
   simp only [List.getElem_map, List.getElem_range]
   rw [UInt32.toNat_ofNat_of_lt' (Qdt (show _ < 4294967296 by omega)), hx]
  obtain ⟨q, h1, h2⟩ := Kl2 F fail ex0 s bs s4 s6 hs j m (i + 1) (Jgg (Jqx r 8) (Jko.getD (Jpj (J3k r) (s.getD i 0)).toNat 0)) (by omega) (by omega)
  refine ⟨q, ?_, ?_⟩
  ·rw [h1, hq, Jcu (0 : UInt8) (show i < s.length by omega)]; rfl
  ·rw [Juf, Kf7]
   rw [Int.toNat_natCast, Jaa (tt (by omega)), Jaa (tt2 (by omega) (by omega)), Jaa (tt2 (by omega) (by omega)), Jak (by omega) (by omega), J0e]
   exact h2
theorem K0c (s : UInt32) (b : Bys) (h : Kk5 s b = true) : ∃ F, ∀ {X : Type} (fail : X) (ret : UInt32 → X), cUpd F s b fail ret = ret (Kw1 s b) := ⟨b.length + 1, fun fail ret => by
 simp only [Kk5, decide_eq_true_eq] at h
 obtain ⟨q, h1, h2⟩ := Kl2 (b.length + 1) fail (fun _ _ _ _ _ r _ _ => ret (K34 r)) b b 0 (K34 s) h b.length b.length 0 (K34 s) (by omega) (by omega)
 unfold cUpd Kw1
 rw [Jaa (c := J4t) rfl]
 refine h2.trans (congrArg ret (Qdu ?_))
 rw [Kxw, h1, Kxw, List.drop_zero]⟩
theorem K0d (b : Bys) (h : Kcr b = true) : ∃ F, ∀ {X : Type} (fail : X) (ret : UInt32 → X), cSum F b fail ret = ret (Kcs b) := ⟨0, fun fail ret => by
 unfold cSum
 rw [Jaa (c := Kk5 0 b) h]; rfl⟩
theorem Kxx (b : Bys) : Qc6 (Kcs b) = ((K4d b : Nat) : Int) := by
 rw [Kq9]; unfold Kcs
 rw [UInt32.toNat_ofNat_of_lt' (Kso b)]
end Go.AI
