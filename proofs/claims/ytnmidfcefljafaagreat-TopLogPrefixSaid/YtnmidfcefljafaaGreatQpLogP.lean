/- Texts of the proof, joined: LogP. Names of our own are shortened by program; the long ones stand in wip/. -/
import Derived.Test.YtnmidfcefljafaaGreatQpG
import Derived.Test.YtnmidfcefljafaaGreatQpWord
import Derived.Test.YtnmidfcefljafaaGreatQpDiskP3
namespace Go.AI
open Go
theorem K4g (a b : Nat) : (a ^^^ b) / 2 = a / 2 ^^^ b / 2 := by
 apply Nat.eq_of_testBit_eq
 intro i
 simp [Nat.testBit_div_two, Nat.testBit_xor]
theorem K8l (a b : Nat) : (a ^^^ b) % 2 = (a + b) % 2 := by
 have h := Nat.testBit_xor a b 0
 simp only [Nat.testBit_zero] at h
 rcases Nat.mod_two_eq_zero_or_one a with ha | ha <;> rcases Nat.mod_two_eq_zero_or_one b with hb | hb <;> rcases Nat.mod_two_eq_zero_or_one (a ^^^ b) with hc | hc <;> simp [ha, hb, hc] at h ⊢ <;> omega
theorem K8m (a b : Nat) : sh1 (a ^^^ b) = sh1 a ^^^ sh1 b := by
 unfold sh1
 have hp := K8l a b
 rw [K4g]
 rcases Nat.mod_two_eq_zero_or_one a with ha | ha <;> rcases Nat.mod_two_eq_zero_or_one b with hb | hb
 ·rw [if_neg (by omega), if_neg (by omega), if_neg (by omega)]
 ·rw [if_pos (by omega), if_neg (by omega), if_pos (by omega), Nat.xor_assoc]
 ·rw [if_pos (by omega), if_pos (by omega), if_neg (by omega), Nat.xor_assoc, Nat.xor_assoc, Nat.xor_comm (b / 2)]
 ·rw [if_neg (by omega), if_pos (by omega), if_pos (by omega), Nat.xor_assoc, ← Nat.xor_assoc 3988292384 (b / 2), Nat.xor_comm 3988292384 (b / 2), Nat.xor_assoc, Nat.xor_self, Nat.xor_zero]
theorem K8n (a b : Nat) : sh8 (a ^^^ b) = sh8 a ^^^ sh8 b := by simp only [sh8, K8m]
theorem K4h (k : Nat) : sh1 (2 * k) = k := by unfold sh1; rw [if_neg (by omega)]; omega
theorem K4i (h : Nat) : sh8 (256 * h) = h := by
 unfold sh8
 rw [show 256 * h = 2 * (2 * (2 * (2 * (2 * (2 * (2 * (2 * h))))))) by omega]
 simp only [K4h]
theorem Qaw (r : Nat) : (256 * (r / 256)) ^^^ (r % 256) = r := by
 apply Nat.eq_of_testBit_eq
 intro i
 rw [Nat.testBit_xor, show (256 : Nat) = 2 ^ 8 from rfl, Nat.testBit_two_pow_mul, Nat.testBit_mod_two_pow, Nat.testBit_div_two_pow]
 by_cases h : i < 8
 ·simp [h, show ¬ 8 ≤ i by omega]
 ·simp [h, show 8 ≤ i by omega]
theorem Kzm (r : Nat) (b : UInt8) : Qac r b = (r / 256) ^^^ sh8 ((r % 256) ^^^ b.toNat) := by
 unfold Qac
 rw [← K4i (r / 256), ← K8n, ← Nat.xor_assoc, Qaw]
theorem Jz6 {r : Nat} (h : r < 4294967296) : sh1 r < 4294967296 := by
 unfold sh1
 split
 ·exact Nat.xor_lt_two_pow (n := 32) (by omega) (by omega)
 ·omega
theorem K57 {r : Nat} (h : r < 4294967296) : sh8 r < 4294967296 := Jz6 (Jz6 (Jz6 (Jz6 (Jz6 (Jz6 (Jz6 (Jz6 h)))))))
theorem K8o {r : Nat} (h : r < 4294967296) (b : UInt8) : Qac r b < 4294967296 := K57 (Nat.xor_lt_two_pow (n := 32) h (by have := b.toNat_lt; omega))
theorem Kzn : ∀ (b : Bys) {r : Nat}, r < 4294967296 → crcG r b < 4294967296
 | [], _, h => h
 | x :: b, _, h => Kzn b (K8o h x)
theorem Km9 (b : Bys) : Kx3 b < 4294967296 := Nat.xor_lt_two_pow (n := 32) (Kzn b (by omega)) (by omega)
theorem Qax (r : UInt32) : sh1 r.toNat = (if r.toNat % 2 = 1 then Jmf (Jr1 r 1) 3988292384 else Jr1 r 1).toNat := by
 have e : (Jr1 r 1).toNat = r.toNat / 2 := Jwr r 1 (by omega)
 unfold sh1
 split
 ·rw [Jgm, UInt32.toNat_xor, e]; rfl
 ·rw [e]
theorem K58 {a : UInt32} {n : Nat} (h : a.toNat = n) : a = UInt32.ofNat n := by rw [← h]; simp
theorem Jz7 {X : Type} (F : Nat) (fail : X) (ex0 : UInt32 → Int → X) : ∀ (j m i : Nat) (r : UInt32), i + j = 8 → j ≤ m →
  ∃ q : UInt32, q.toNat = Nat.repeat sh1 j r.toNat ∧ Jk3 F fail ex0 (m + 1) r i = ex0 q 8
 | 0, m, i, r, hi, _ => by
  obtain rfl : i = 8 := by omega
  exact ⟨r, rfl, rfl⟩
 | j + 1, 0, i, _, _, hm => absurd hm (by omega)
 | j + 1, m + 1, i, r, hi, hm => by
  obtain ⟨q, h1, h2⟩ := Jz7 F fail ex0 j m (i + 1) (if r.toNat % 2 = 1 then Jmf (Jr1 r 1) 3988292384 else Jr1 r 1) (by omega) (by omega)
  refine ⟨q, ?_, ?_⟩
  ·rw [h1, ← Qax]
   have : ∀ (n x : Nat), Nat.repeat sh1 n (sh1 x) = Nat.repeat sh1 (n + 1) x := by
    intro n
    induction n with
    | zero => intro x; rfl
    | succ n ih => intro x; show sh1 (Nat.repeat sh1 n (sh1 x)) = _; rw [ih]; rfl
   exact this j _
  ·rw [Jk3, Jyp]
   have e : (J3m r 1).toNat = r.toNat % 2 := by rw [Jqr, UInt32.toNat_and]; exact Nat.and_one_is_mod _
   rw [Jaa (tt (by omega)), e, Jao (by omega) (by omega), Jte]
   by_cases c : r.toNat % 2 = 1
   ·rw [if_pos c] at h2; rw [Jaa (Jmg (by omega))]; exact h2
   ·rw [if_neg c] at h2; rw [Jab (Jmt (by omega))]; exact h2
theorem Kc2 (r : UInt32) (_ : Jv9 r = true) : ∃ F, ∀ {X : Type} (fail : X) (ret : UInt32 → X), Kme F r fail ret = ret (Jiz r) := ⟨9, fun fail ret => by
 obtain ⟨q, h1, h2⟩ := Jz7 9 fail (fun r _ => ret r) 8 8 0 r (by omega) (by omega)
 unfold Kme Jiz
 refine h2.trans (congrArg ret (K58 h1))⟩
theorem Khi (_ : J12 = true) : ∃ F, ∀ {X : Type} (fail : X) (ret : List UInt32 → X), Kye F fail ret = ret Jjs := ⟨257, fun fail ret => by
 have key : ∀ (j m i : Nat) (s0 out : List UInt32), i + j = 256 → j ≤ m → out.length = 256 → ∀ {X : Type} (fail : X) (ex0 : Int → List UInt32 → List UInt32 → X), ∃ o : List UInt32, o.length = 256 ∧ (∀ k, k < i → o.getD k 0 = out.getD k 0) ∧ (∀ k, i ≤ k → k < 256 → o.getD k 0 = UInt32.ofNat (sh8 k)) ∧ Jm7 257 fail ex0 (m + 1) i s0 out = ex0 256 s0 o := by
  intro j
  induction j with
  | zero =>
   intro m i s0 out hi _ ho X fail ex0
   obtain rfl : i = 256 := by omega
   exact ⟨out, ho, fun _ _ => rfl, fun k h1 h2 => by omega, rfl⟩
  | succ j ih =>
   intro m i s0 out hi hm ho X fail ex0
   obtain ⟨m', rfl⟩ : ∃ m', m = m' + 1 := ⟨m - 1, by omega⟩
   have hc : (Kvv (i : Int)).toNat = i := by
    show (UInt32.ofNat (IntKind.u32.wrap (i : Int)).toNat).toNat = i
    rw [Kg1 i (by omega)]
    simp only [Int.toNat_natCast]
    exact UInt32.toNat_ofNat_of_lt' (by show _ < 4294967296; omega)
   obtain ⟨o, h1, h2, h3, h4⟩ := ih m' (i + 1) s0 (out.set i (Jiz (Kvv (i : Int)))) (by omega) (by omega) (by rw [List.length_set]; exact ho) fail ex0
   refine ⟨o, h1, fun k hk => ?_, fun k hk1 hk2 => ?_, ?_⟩
   ·rw [h2 k (by omega)]; simp [List.getD, List.getElem?_set_ne (show i ≠ k by omega)]
   ·by_cases e : k = i
    ·subst e
     rw [h2 k (by omega)]
     have : (out.set k (Jiz (Kvv (k : Int)))).getD k 0 = Jiz (Kvv (k : Int)) := by simp [List.getD, show k < out.length by omega]
     rw [this]; unfold Jiz; rw [hc]
    ·exact h3 k (by omega) hk2
   ·rw [Jm7, J34]
    rw [Jaa (tt (by omega)), Jaa (c := Jv9 _) rfl, Jaa (tt2 (by omega) (by omega)), Jao (by omega) (by omega), Jte, Int.toNat_natCast]
    exact h4
 obtain ⟨o, h1, _, h3, h4⟩ := key 256 256 0 (List.replicate 256 0) (List.replicate 256 0) (by omega) (by omega) List.length_replicate fail (fun _ _ o => ret o)
 unfold Kye Jjs
 refine h4.trans (congrArg ret (List.ext_getElem (by rw [h1, List.length_map, List.length_range]) (fun k hk _ => ?_)))
 have := h3 k (by omega) (by omega)
 rw [Jdx hk] at this
 rw [this]; simp⟩
theorem Kr2 (a : UInt32) : (K3m a).toNat = a.toNat ^^^ 4294967295 := by
 apply Nat.eq_of_testBit_eq
 intro i
 rw [Kmv, Nat.testBit_xor]
 by_cases h : i < 32
 ·rw [Kyw a i h, show (4294967295 : Nat) = 2 ^ 32 - 1 from rfl, Nat.testBit_two_pow_sub_one, decide_eq_true h]; simp
 ·have h1 : (~~~ a).toNat < 2 ^ 32 := (~~~ a).toNat_lt
  have h2 : a.toNat < 2 ^ 32 := a.toNat_lt
  have hp : 2 ^ 32 ≤ 2 ^ i := Nat.pow_le_pow_right (by omega) (by omega)
  rw [Nat.testBit_lt_two_pow (by omega), Nat.testBit_lt_two_pow (by omega), Nat.testBit_lt_two_pow (by omega)]; rfl
theorem Khj {X : Type} (F : Nat) (fail : X) (ex0 : Bys → Int → Int → UInt32 → UInt32 → UInt32 → List UInt32 → Bys → X) (s bs : Bys) (s4 s6 : UInt32) (hs : s.length ≤ 1000000000) : ∀ (j m i : Nat) (r : UInt32), i + j = s.length → j ≤ m →
  ∃ q : UInt32, q.toNat = crcG r.toNat (s.drop i) ∧ Jsh F fail ex0 (m + 1) s (s.length : Nat) i s4 s6 r Jjs bs = ex0 s (s.length : Nat) (s.length : Nat) s4 s6 q Jjs bs
 | 0, m, i, r, hi, _ => by
  obtain rfl : i = s.length := by omega
  refine ⟨r, by rw [List.drop_length]; rfl, ?_⟩
  rw [Jsh, Kb9]
  rw [Jab (ff (by omega))]
 | j + 1, 0, i, _, _, hm => absurd hm (by omega)
 | j + 1, m + 1, i, r, hi, hm => by
  have hx : (J6p (J3n r) (s.getD i 0)).toNat = (r.toNat % 256) ^^^ (s.getD i 0).toNat := by rw [Kmw, UInt8.toNat_xor, K3z]
  have hlt : (J6p (J3n r) (s.getD i 0)).toNat < 256 := (J6p (J3n r) (s.getD i 0)).toNat_lt
  have hq : (Jmf (Jr1 r 8) (Jjs.getD (J6p (J3n r) (s.getD i 0)).toNat 0)).toNat = Qac r.toNat (s.getD i 0) := by
   rw [Jgm, UInt32.toNat_xor, show Jr1 r 8 = Jr1 r ((8 : Nat) : Int) from rfl, Jwr r 8 (by omega), Kzm]
   unfold Jjs
   rw [Jdx (by simpa using hlt)]
   simp only [List.getElem_map, List.getElem_range]
   rw [UInt32.toNat_ofNat_of_lt' (K57 (show _ < 4294967296 by omega)), hx]
  obtain ⟨q, h1, h2⟩ := Khj F fail ex0 s bs s4 s6 hs j m (i + 1) (Jmf (Jr1 r 8) (Jjs.getD (J6p (J3n r) (s.getD i 0)).toNat 0)) (by omega) (by omega)
  refine ⟨q, ?_, ?_⟩
  ·rw [h1, hq, Jcx (0 : UInt8) (show i < s.length by omega)]; rfl
  ·rw [Jsh, Kb9]
   rw [Int.toNat_natCast, Jaa (tt (by omega)), Jaa (tt2 (by omega) (by omega)), Jaa (tt2 (by omega) (by omega)), Jao (by omega) (by omega), Jte]
   exact h2
theorem Kud (s : UInt32) (b : Bys) (h : Kgp s b = true) : ∃ F, ∀ {X : Type} (fail : X) (ret : UInt32 → X), cUpd F s b fail ret = ret (Kq8 s b) := ⟨b.length + 1, fun fail ret => by
 simp only [Kgp, decide_eq_true_eq] at h
 obtain ⟨q, h1, h2⟩ := Khj (b.length + 1) fail (fun _ _ _ _ _ r _ _ => ret (K3m r)) b b 0 (K3m s) h b.length b.length 0 (K3m s) (by omega) (by omega)
 unfold cUpd Kq8
 rw [Jaa (c := J12) rfl]
 refine h2.trans (congrArg ret (K58 ?_))
 rw [Kr2, h1, Kr2, List.drop_zero]⟩
theorem Kue (b : Bys) (h : J84 b = true) : ∃ F, ∀ {X : Type} (fail : X) (ret : UInt32 → X), cSum F b fail ret = ret (J85 b) := ⟨0, fun fail ret => by
 unfold cSum
 rw [Jaa (c := Kgp 0 b) h]; rfl⟩
theorem Kr3 (b : Bys) : cvWI (J85 b) = ((Kx3 b : Nat) : Int) := by
 rw [K7d]; unfold J85
 rw [UInt32.toNat_ofNat_of_lt' (Km9 b)]
end Go.AI
