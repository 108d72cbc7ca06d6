/- Checksums, and numbers in bytes. -/
import Derived.Test.YtaoimnfmhdmkmaaCrcG
import Derived.Test.YtaoimnfmhdmkmaaWord
namespace Go.AI
open Go

theorem getD_lt {α : Type} {l : List α} {i : Nat} {d : α} (h : i < l.length) : l.getD i d = l[i] := by simp [List.getD, h]
theorem drop_cons {α : Type} {l : List α} {i : Nat} (d : α) (h : i < l.length) : l.drop i = l.getD i d :: l.drop (i + 1) := by rw [List.drop_eq_getElem_cons h, getD_lt h]
theorem nat1 (i : Nat) : (i : Int) + 1 = ((i + 1 : Nat) : Int) := by omega
/- Registers. -/
theorem xor_half (a b : Nat) : (a ^^^ b) / 2 = a / 2 ^^^ b / 2 := by
  apply Nat.eq_of_testBit_eq
  intro i
  simp [Nat.testBit_div_two, Nat.testBit_xor]
theorem xor_par (a b : Nat) : (a ^^^ b) % 2 = (a + b) % 2 := by
  have h := Nat.testBit_xor a b 0
  simp only [Nat.testBit_zero] at h
  rcases Nat.mod_two_eq_zero_or_one a with ha | ha <;> rcases Nat.mod_two_eq_zero_or_one b with hb | hb <;> rcases Nat.mod_two_eq_zero_or_one (a ^^^ b) with hc | hc <;> simp [ha, hb, hc] at h ⊢ <;> omega
theorem sh1_xor (a b : Nat) : sh1 (a ^^^ b) = sh1 a ^^^ sh1 b := by
  unfold sh1
  have hp := xor_par a b
  rw [xor_half]
  rcases Nat.mod_two_eq_zero_or_one a with ha | ha <;> rcases Nat.mod_two_eq_zero_or_one b with hb | hb
  · rw [if_neg (by omega), if_neg (by omega), if_neg (by omega)]
  · rw [if_pos (by omega), if_neg (by omega), if_pos (by omega), Nat.xor_assoc]
  · rw [if_pos (by omega), if_pos (by omega), if_neg (by omega), Nat.xor_assoc, Nat.xor_assoc, Nat.xor_comm (b / 2)]
  · rw [if_neg (by omega), if_pos (by omega), if_pos (by omega), Nat.xor_assoc, ← Nat.xor_assoc 3988292384 (b / 2), Nat.xor_comm 3988292384 (b / 2), Nat.xor_assoc, Nat.xor_self, Nat.xor_zero]
theorem sh8_xor (a b : Nat) : sh8 (a ^^^ b) = sh8 a ^^^ sh8 b := by simp only [sh8, sh1_xor]
theorem sh1_even (k : Nat) : sh1 (2 * k) = k := by unfold sh1; rw [if_neg (by omega)]; omega
theorem sh8_high (h : Nat) : sh8 (256 * h) = h := by
  unfold sh8
  rw [show 256 * h = 2 * (2 * (2 * (2 * (2 * (2 * (2 * (2 * h))))))) by omega]
  simp only [sh1_even]
theorem split8 (r : Nat) : (256 * (r / 256)) ^^^ (r % 256) = r := by
  apply Nat.eq_of_testBit_eq
  intro i
  rw [Nat.testBit_xor, show (256 : Nat) = 2 ^ 8 from rfl, Nat.testBit_two_pow_mul, Nat.testBit_mod_two_pow, Nat.testBit_div_two_pow]
  by_cases h : i < 8
  · simp [h, show ¬ 8 ≤ i by omega]
  · simp [h, show 8 ≤ i by omega]
theorem reg_table (r : Nat) (b : UInt8) : regN r b = (r / 256) ^^^ sh8 ((r % 256) ^^^ b.toNat) := by
  unfold regN
  rw [← sh8_high (r / 256), ← sh8_xor, ← Nat.xor_assoc, split8]
theorem sh1_lt {r : Nat} (h : r < 4294967296) : sh1 r < 4294967296 := by
  unfold sh1
  split
  · exact Nat.xor_lt_two_pow (n := 32) (by omega) (by omega)
  · omega
theorem sh8_lt {r : Nat} (h : r < 4294967296) : sh8 r < 4294967296 := sh1_lt (sh1_lt (sh1_lt (sh1_lt (sh1_lt (sh1_lt (sh1_lt (sh1_lt h)))))))
theorem regN_lt {r : Nat} (h : r < 4294967296) (b : UInt8) : regN r b < 4294967296 := sh8_lt (Nat.xor_lt_two_pow (n := 32) h (by have := b.toNat_lt; omega))
theorem crcG_lt : ∀ (b : Bys) {r : Nat}, r < 4294967296 → crcG r b < 4294967296
  | [], _, h => h
  | x :: b, _, h => crcG_lt b (regN_lt h x)
theorem crcN_lt (b : Bys) : crcN b < 4294967296 := Nat.xor_lt_two_pow (n := 32) (crcG_lt b (by omega)) (by omega)
theorem step_w (r : UInt32) : sh1 r.toNat = (if r.toNat % 2 = 1 then xorW (shrW r 1) 3988292384 else shrW r 1).toNat := by
  have e : (shrW r 1).toNat = r.toNat / 2 := shrW_nat r 1 (by omega)
  unfold sh1
  split
  · rw [xorW_eq, UInt32.toNat_xor, e]; rfl
  · rw [e]
theorem u32_of {a : UInt32} {n : Nat} (h : a.toNat = n) : a = UInt32.ofNat n := by rw [← h]; simp
theorem shifted_loop {X : Type} (F : Nat) (fail : X) (ex0 : UInt32 → Int → X) : ∀ (j m i : Nat) (r : UInt32), i + j = 8 → j ≤ m →
    ∃ q : UInt32, q.toNat = Nat.repeat sh1 j r.toNat ∧ shifted_l1F F fail ex0 (m + 1) r i = ex0 q 8
  | 0, m, i, r, hi, _ => by
    obtain rfl : i = 8 := by omega
    exact ⟨r, rfl, rfl⟩
  | j + 1, 0, i, _, _, hm => absurd hm (by omega)
  | j + 1, m + 1, i, r, hi, hm => by
    obtain ⟨q, h1, h2⟩ := shifted_loop F fail ex0 j m (i + 1) (if r.toNat % 2 = 1 then xorW (shrW r 1) 3988292384 else shrW r 1) (by omega) (by omega)
    refine ⟨q, ?_, ?_⟩
    · rw [h1, ← step_w]
      have : ∀ (n x : Nat), Nat.repeat sh1 n (sh1 x) = Nat.repeat sh1 (n + 1) x := by
        intro n
        induction n with
        | zero => intro x; rfl
        | succ n ih => intro x; show sh1 (Nat.repeat sh1 n (sh1 x)) = _; rw [ih]; rfl
      exact this j _
    · rw [shifted_l1F, shifted_l1]
      have e : (andW r 1).toNat = r.toNat % 2 := by rw [andW_eq, UInt32.toNat_and]; exact Nat.and_one_is_mod _
      rw [bif_true (tt (by omega)), e, addI_eq (by omega) (by omega), nat1]
      by_cases c : r.toNat % 2 = 1
      · rw [if_pos c] at h2; rw [bif_true (beq_t (by omega))]; exact h2
      · rw [if_neg c] at h2; rw [bif_false (beq_f (by omega))]; exact h2
theorem shifted_plain (r : UInt32) (_ : shifted_P r = true) : ∃ F, ∀ {X : Type} (fail : X) (ret : UInt32 → X), shifted F r fail ret = ret (shifted_r r) := ⟨9, fun fail ret => by
  obtain ⟨q, h1, h2⟩ := shifted_loop 9 fail (fun r _ => ret r) 8 8 0 r (by omega) (by omega)
  unfold shifted shifted_r
  refine h2.trans (congrArg ret (u32_of h1))⟩
theorem ctable_plain (_ : ctable_P = true) : ∃ F, ∀ {X : Type} (fail : X) (ret : List UInt32 → X), ctable F fail ret = ret ctable_r := ⟨257, fun fail ret => by
  have key : ∀ (j m i : Nat) (s0 out : List UInt32), i + j = 256 → j ≤ m → out.length = 256 → ∀ {X : Type} (fail : X) (ex0 : Int → List UInt32 → List UInt32 → X), ∃ o : List UInt32, o.length = 256 ∧ (∀ k, k < i → o.getD k 0 = out.getD k 0) ∧ (∀ k, i ≤ k → k < 256 → o.getD k 0 = UInt32.ofNat (sh8 k)) ∧ ctable_l1F 257 fail ex0 (m + 1) i s0 out = ex0 256 s0 o := by
    intro j
    induction j with
    | zero =>
      intro m i s0 out hi _ ho X fail ex0
      obtain rfl : i = 256 := by omega
      exact ⟨out, ho, fun _ _ => rfl, fun k h1 h2 => by omega, rfl⟩
    | succ j ih =>
      intro m i s0 out hi hm ho X fail ex0
      obtain ⟨m', rfl⟩ : ∃ m', m = m' + 1 := ⟨m - 1, by omega⟩
      have hc : (cvIW (i : Int)).toNat = i := by
        show (UInt32.ofNat (IntKind.u32.wrap (i : Int)).toNat).toNat = i
        rw [wrap_u32n i (by omega)]
        simp only [Int.toNat_natCast]
        exact UInt32.toNat_ofNat_of_lt' (by show _ < 4294967296; omega)
      obtain ⟨o, h1, h2, h3, h4⟩ := ih m' (i + 1) s0 (out.set i (shifted_r (cvIW (i : Int)))) (by omega) (by omega) (by rw [List.length_set]; exact ho) fail ex0
      refine ⟨o, h1, fun k hk => ?_, fun k hk1 hk2 => ?_, ?_⟩
      · rw [h2 k (by omega)]; simp [List.getD, List.getElem?_set_ne (show i ≠ k by omega)]
      · by_cases e : k = i
        · subst e
          rw [h2 k (by omega)]
          have : (out.set k (shifted_r (cvIW (k : Int)))).getD k 0 = shifted_r (cvIW (k : Int)) := by simp [List.getD, show k < out.length by omega]
          rw [this]; unfold shifted_r; rw [hc]
        · exact h3 k (by omega) hk2
      · rw [ctable_l1F, ctable_l1]
        rw [bif_true (tt (by omega)), bif_true (c := shifted_P _) rfl, bif_true (tt2 (by omega) (by omega)), addI_eq (by omega) (by omega), nat1, Int.toNat_natCast]
        exact h4
  obtain ⟨o, h1, _, h3, h4⟩ := key 256 256 0 (List.replicate 256 0) (List.replicate 256 0) (by omega) (by omega) List.length_replicate fail (fun _ _ o => ret o)
  unfold ctable ctable_r
  refine h4.trans (congrArg ret (List.ext_getElem (by rw [h1, List.length_map, List.length_range]) (fun k hk _ => ?_)))
  have := h3 k (by omega) (by omega)
  rw [getD_lt hk] at this
  rw [this]; simp⟩
theorem notW_nat (a : UInt32) : (notW a).toNat = a.toNat ^^^ 4294967295 := by
  apply Nat.eq_of_testBit_eq
  intro i
  rw [notW_eq, Nat.testBit_xor]
  by_cases h : i < 32
  · rw [not_bit a i h, show (4294967295 : Nat) = 2 ^ 32 - 1 from rfl, Nat.testBit_two_pow_sub_one, decide_eq_true h]; simp
  · have h1 : (~~~ a).toNat < 2 ^ 32 := (~~~ a).toNat_lt
    have h2 : a.toNat < 2 ^ 32 := a.toNat_lt
    have hp : 2 ^ 32 ≤ 2 ^ i := Nat.pow_le_pow_right (by omega) (by omega)
    rw [Nat.testBit_lt_two_pow (by omega), Nat.testBit_lt_two_pow (by omega), Nat.testBit_lt_two_pow (by omega)]; rfl
theorem cUpd_loop {X : Type} (F : Nat) (fail : X) (ex0 : Bys → Int → Int → UInt32 → UInt32 → UInt32 → List UInt32 → Bys → X) (s bs : Bys) (s4 s6 : UInt32) (hs : s.length ≤ 1000000000) : ∀ (j m i : Nat) (r : UInt32), i + j = s.length → j ≤ m →
    ∃ q : UInt32, q.toNat = crcG r.toNat (s.drop i) ∧ cUpd_l1F F fail ex0 (m + 1) s (s.length : Nat) i s4 s6 r ctable_r bs = ex0 s (s.length : Nat) (s.length : Nat) s4 s6 q ctable_r bs
  | 0, m, i, r, hi, _ => by
    obtain rfl : i = s.length := by omega
    refine ⟨r, by rw [List.drop_length]; rfl, ?_⟩
    rw [cUpd_l1F, cUpd_l1]
    rw [bif_false (ff (by omega))]
  | j + 1, 0, i, _, _, hm => absurd hm (by omega)
  | j + 1, m + 1, i, r, hi, hm => by
    have hx : (xorB (cvWB r) (s.getD i 0)).toNat = (r.toNat % 256) ^^^ (s.getD i 0).toNat := by rw [xorB_eq, UInt8.toNat_xor, cvWB_nat]
    have hlt : (xorB (cvWB r) (s.getD i 0)).toNat < 256 := (xorB (cvWB r) (s.getD i 0)).toNat_lt
    have hq : (xorW (shrW r 8) (ctable_r.getD (xorB (cvWB r) (s.getD i 0)).toNat 0)).toNat = regN r.toNat (s.getD i 0) := by
      rw [xorW_eq, UInt32.toNat_xor, show shrW r 8 = shrW r ((8 : Nat) : Int) from rfl, shrW_nat r 8 (by omega), reg_table]
      unfold ctable_r
      rw [getD_lt (by simpa using hlt)]
      simp only [List.getElem_map, List.getElem_range]
      rw [UInt32.toNat_ofNat_of_lt' (sh8_lt (show _ < 4294967296 by omega)), hx]
    obtain ⟨q, h1, h2⟩ := cUpd_loop F fail ex0 s bs s4 s6 hs j m (i + 1) (xorW (shrW r 8) (ctable_r.getD (xorB (cvWB r) (s.getD i 0)).toNat 0)) (by omega) (by omega)
    refine ⟨q, ?_, ?_⟩
    · rw [h1, hq, drop_cons (0 : UInt8) (show i < s.length by omega)]; rfl
    · rw [cUpd_l1F, cUpd_l1]
      rw [Int.toNat_natCast, bif_true (tt (by omega)), bif_true (tt2 (by omega) (by omega)), bif_true (tt2 (by omega) (by omega)), addI_eq (by omega) (by omega), nat1]
      exact h2
theorem cUpd_plain (s : UInt32) (b : Bys) (h : cUpd_P s b = true) : ∃ F, ∀ {X : Type} (fail : X) (ret : UInt32 → X), cUpd F s b fail ret = ret (cUpd_r s b) := ⟨b.length + 1, fun fail ret => by
  simp only [cUpd_P, decide_eq_true_eq] at h
  obtain ⟨q, h1, h2⟩ := cUpd_loop (b.length + 1) fail (fun _ _ _ _ _ r _ _ => ret (notW r)) b b 0 (notW s) h b.length b.length 0 (notW s) (by omega) (by omega)
  unfold cUpd cUpd_r
  rw [bif_true (c := ctable_P) rfl]
  refine h2.trans (congrArg ret (u32_of ?_))
  rw [notW_nat, h1, notW_nat, List.drop_zero]⟩
theorem cSum_plain (b : Bys) (h : cSum_P b = true) : ∃ F, ∀ {X : Type} (fail : X) (ret : UInt32 → X), cSum F b fail ret = ret (cSum_r b) := ⟨0, fun fail ret => by
  unfold cSum
  rw [bif_true (c := cUpd_P 0 b) h]; rfl⟩
end Go.AI
