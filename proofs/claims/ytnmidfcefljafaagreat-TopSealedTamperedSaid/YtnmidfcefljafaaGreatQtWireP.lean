/- Texts of the proof, joined: WireP. -/
import Derived.Test.YtnmidfcefljafaaGreatQtG
namespace Go.AI
open Go
theorem numOf_range (n : Int) : 0 ≤ numOf n ∧ numOf n ≤ 9007199254740991 := by
 unfold numOf
 by_cases h1 : n < 0 <;> by_cases h2 : n > 9007199254740991 <;> simp [h1, h2] <;> omega
theorem numOf_id {n : Int} (h0 : 0 ≤ n) (h1 : n ≤ 9007199254740991) : numOf n = n := by
 unfold numOf
 have a : ¬ n < 0 := by omega
 have b : ¬ n > 9007199254740991 := by omega
 simp [a, b]
theorem fur_range (m : Int) : 0 ≤ fur m ∧ fur m ≤ 7 := by
 unfold fur; repeat' split
 all_goals omega
theorem lenN_lt {n k : Nat} : lenN n ≤ k ↔ n < 2 ^ k := by
 unfold lenN
 split
 ·rename_i h; subst h; simp [Nat.pow_pos]
 ·rename_i h
  rw [← Nat.log2_lt h]; omega
theorem lenN_shift (n s : Nat) (h : 2 ^ s ≤ n) : lenN n = s + lenN (n / 2 ^ s) := by
 have key : ∀ k, lenN n ≤ s + k ↔ lenN (n / 2 ^ s) ≤ k := by
  intro k
  rw [lenN_lt, lenN_lt, Nat.pow_add, Nat.div_lt_iff_lt_mul (Nat.pow_pos (by omega)), Nat.mul_comm]
 have h1 : s ≤ lenN n := by
  rcases Nat.lt_or_ge (lenN n) s with h2 | h2
  ·have : n < 2 ^ s := lenN_lt.1 (by omega)
   omega
  ·exact h2
 have h2 := (key (lenN n - s)).1 (by omega)
 have h3 := (key (lenN (n / 2 ^ s))).2 (Nat.le_refl _)
 omega
theorem tab_len : tab_bae91b.length = 256 := by decide +kernel
theorem tab_ok : ∀ i, i < 256 → (tab_bae91b.getD i 0).toNat = lenN i := by decide +kernel
theorem len64_leaf {X : Type} (x y : Int) (s : Nat) (hy : y = x / 2 ^ s) (h0 : 0 ≤ x) (h : y < 256) (hs : s = 0 ∨ 1 ≤ y) (hs' : s ≤ 56) (fail : X) (ret : Int → X) :
  (bif ((decide ((0 : Int) ≤ (((cvUB y).toNat : Nat) : Int))) && (decide ((((cvUB y).toNat : Nat) : Int) < ((tab_bae91b.length : Nat) : Int)))) then
   ret (addI (s : Int) (cvBI (List.getD tab_bae91b (cvUB y).toNat (0 : UInt8)))) else fail) = ret (lenN x.toNat : Int) := by
 have hy0 : 0 ≤ y := by rw [hy]; exact Int.ediv_nonneg h0 (Int.le_of_lt (Int.pow_pos (by omega)))
 have e1 : (cvUB y).toNat = y.toNat := by
  rw [cvUB_eq, UInt8.toNat_ofNat']; omega
 rw [e1, tab_len, bif_true (by simp; omega), cvBI_eq, tab_ok _ (by omega)]
 have hl : lenN y.toNat ≤ 8 := lenN_lt.2 (by omega)
 rw [addI_eq (by omega) (by omega)]
 have e2 : y.toNat = x.toNat / 2 ^ s := by
  obtain ⟨n, rfl⟩ := Int.eq_ofNat_of_zero_le h0
  have : ((2 : Int) ^ s) = ((2 ^ s : Nat) : Int) := by simp
  rw [hy, this, ← Int.natCast_ediv]
  rw [Int.toNat_natCast, Int.toNat_natCast]
 rcases hs with hs | hs
 ·subst hs
  simp at e2
  rw [e2]; simp
 ·have : 2 ^ s ≤ x.toNat := by
   rcases Nat.lt_or_ge x.toNat (2 ^ s) with h2 | h2
   ·rw [Nat.div_eq_of_lt h2] at e2; omega
   ·exact h2
  rw [lenN_shift _ s this, ← e2]; simp
theorem bits_Len64_plain (x : Int) (h : bits_Len64_P x = true) : ∃ F, ∀ {X : Type} (fail : X) (ret : Int → X), bits_Len64 F x fail ret = ret (bits_Len64_r x) := ⟨0, fun fail ret => by
 simp only [bits_Len64_P, decide_eq_true_eq] at h
 have e32 : ∀ a : Int, shrU a 32 = a / 4294967296 := fun a => shrU_eq (by omega) (by omega)
 have e16 : ∀ a : Int, shrU a 16 = a / 65536 := fun a => shrU_eq (by omega) (by omega)
 have e8 : ∀ a : Int, shrU a 8 = a / 256 := fun a => shrU_eq (by omega) (by omega)
 unfold bits_Len64
 simp only [e32, e16, e8, Bool.cond_decide]
 repeat' split
 ·exact len64_leaf x _ 56 (by omega) h.1 (by omega) (.inr (by omega)) (by omega) fail ret
 ·exact len64_leaf x _ 48 (by omega) h.1 (by omega) (.inr (by omega)) (by omega) fail ret
 ·exact len64_leaf x _ 40 (by omega) h.1 (by omega) (.inr (by omega)) (by omega) fail ret
 ·exact len64_leaf x _ 32 (by omega) h.1 (by omega) (.inr (by omega)) (by omega) fail ret
 ·exact len64_leaf x _ 24 (by omega) h.1 (by omega) (.inr (by omega)) (by omega) fail ret
 ·exact len64_leaf x _ 16 (by omega) h.1 (by omega) (.inr (by omega)) (by omega) fail ret
 ·exact len64_leaf x _ 8 (by omega) h.1 (by omega) (.inr (by omega)) (by omega) fail ret
 ·exact len64_leaf x x 0 (by simp) h.1 (by omega) (.inl rfl) (by omega) fail ret⟩
theorem bits_Len8_plain (x : UInt8) : ∃ F, ∀ {X : Type} (fail : X) (ret : Int → X), bits_Len8 F x fail ret = ret (bits_Len8_r x) := ⟨0, fun fail ret => by
 have h := x.toNat_lt
 unfold bits_Len8
 rw [tab_len, bif_true (by simp; omega), cvBI_eq, tab_ok _ h]; rfl⟩
theorem bits_Len_plain (x : Int) (_ : bits_Len_P x = true) : ∃ F, ∀ {X : Type} (fail : X) (ret : Int → X), bits_Len F x fail ret = ret (bits_Len_r x) := ⟨0, fun fail ret => by
 rename_i h _
 unfold bits_Len
 rw [bif_true (by exact h)]; rfl⟩
theorem bits_LeadingZeros8_plain (x : UInt8) : ∃ F, ∀ {X : Type} (fail : X) (ret : Int → X), bits_LeadingZeros8 F x fail ret = ret (bits_LeadingZeros8_r x) := ⟨0, fun fail ret => by
 have h := x.toNat_lt
 have hl : lenN x.toNat ≤ 8 := lenN_lt.2 (by omega)
 unfold bits_LeadingZeros8 bits_LeadingZeros8_r bits_Len8_r
 rw [subI_eq (by omega) (by omega)]⟩
theorem number_eq {X : Type} (n : Int) (ret : Int → X) : (bif decide (n < 0) then ret 0 else bif decide (n > 9007199254740991) then ret 0 else ret n) = ret (numOf n) := by
 unfold numOf
 cases decide (n < 0) <;> cases decide (n > 9007199254740991) <;> rfl
theorem wire_number_plain (n : Int) : ∃ F, ∀ {X : Type} (fail : X) (ret : Int → X), wire_number F n fail ret = ret (wire_number_r n) := ⟨0, fun _ ret => number_eq n ret⟩
theorem fur_len (n : Int) (h0 : 0 ≤ n) (h1 : n ≤ 9007199254740991) : (max 0 ((lenN n.toNat : Int) - 1)) / 7 = fur n := by
 have k1 := @lenN_lt n.toNat 7
 have k2 := @lenN_lt n.toNat 14
 have k3 := @lenN_lt n.toNat 21
 have k4 := @lenN_lt n.toNat 28
 have k5 := @lenN_lt n.toNat 35
 have k6 := @lenN_lt n.toNat 42
 have k7 := @lenN_lt n.toNat 49
 have k8 := (@lenN_lt n.toNat 56).2 (by omega)
 unfold fur
 repeat' split
 all_goals omega
theorem wire_further_plain (n : Int) (h : wire_further_P n = true) : ∃ F, ∀ {X : Type} (fail : X) (ret : Int → X), wire_further F n fail ret = ret (wire_further_r n) := ⟨0, fun fail ret => by
 simp only [wire_further_P, decide_eq_true_eq] at h
 have k8 := (@lenN_lt n.toNat 56).2 (by omega)
 have e : cvIU n = n := cvIU_eq h.1 (by omega)
 unfold wire_further wire_further_r
 rw [e, bif_true (by simp only [bits_Len_P, decide_eq_true_eq]; omega)]
 unfold bits_Len_r
 rw [subI_eq (by omega) (by omega), maxI_eq, quoI_eq (by omega) (by omega) (by omega), fur_len n h.1 h.2]⟩
theorem clone_eq {α : Type} (s : List α) (h : s.length ≤ 2000000000) {X : Type} (fail : X) (both : X → X → X) (hb : ∀ x, both x x = x) (ret : List α → X) :
  (bif List.isEmpty s then both (ret []) (bif decide (s.length ≤ big) then ret s else fail) else bif decide (s.length ≤ big) then ret s else fail) = ret s := by
 rw [le_big (by omega)]
 cases s with
 | nil => exact hb _
 | cons a s => rfl
theorem clone_byte_plain (s : List UInt8) (h : clone_byte_P s = true) : ∃ F, ∀ {X : Type} (fail : X) (both : X → X → X) (_ : ∀ x, both x x = x) (ret : List UInt8 → X), clone_byte F s fail both ret = ret (clone_byte_r s) := ⟨0, fun fail both hb ret => by
 simp only [clone_byte_P, decide_eq_true_eq] at h
 exact clone_eq s h fail both hb ret⟩
theorem lowB_length (m k : Nat) : (lowB m k).length = k := by induction k <;> simp_all [lowB]
theorem encN_length (m : Int) : (encN m).length ≤ 8 := by
 have := fur_range m
 simp only [encN, List.length_cons, lowB_length]; omega
theorem byte_at (N k : Nat) (hk : k ≤ 8) : cvIB (shrI (N : Int) (mulI 8 k)) = UInt8.ofNat (N / 2 ^ (8 * k) % 256) := by
 have e : mulI 8 k = ((8 * k : Nat) : Int) := by rw [mulI_eq (by omega) (by omega)]; omega
 rw [e, shrI_eq (by omega) (by omega), cvIB_eq, Int.toNat_natCast]
 congr 1
theorem put_loop {X : Type} (F : Nat) (fail : X) (ex0 : Int → Int → List UInt8 → X) (N : Nat) : ∀ (k m : Nat) (dst : List UInt8), k < m → k ≤ 7 → dst.length + k ≤ 2147483648 →
  wire_put_l1F F fail ex0 m N ((k : Int) - 1) dst = ex0 N (-1) (dst ++ lowB N k)
 | 0, m + 1, dst, _, _, _ => by
  simp only [wire_put_l1F, wire_put_l1]
  rw [bif_false (by simp)]
  simp [lowB]
 | k + 1, m + 1, dst, h1, h2, h3 => by
  simp only [wire_put_l1F, wire_put_l1]
  have e : (((k + 1 : Nat) : Int) - 1) = k := by omega
  rw [e, bif_true (by simp), byte_at N k (by omega), bif_true (by rw [mulI_eq (by omega) (by omega)]; simp; omega), bif_true (le_big (by simp; omega)), subI_eq (by omega) (by omega)]
  rw [put_loop F fail ex0 N k m _ (by omega) (by omega) (by simp; omega)]
  simp [lowB]
theorem mark_byte : ∀ k : Nat, k ≤ 7 → ∀ q : Nat, q < 128 → q < 2 ^ (7 - k) → orB (shlB 255 (8 - (k : Int))) (UInt8.ofNat q) = UInt8.ofNat (256 - 2 ^ (8 - k) + q) := by decide +kernel
theorem fur_bound (n : Int) (h0 : 0 ≤ n) (h1 : n ≤ 9007199254740991) : n < 2 ^ (7 * ((fur n).toNat + 1)) := by
 unfold fur
 repeat' split
 all_goals (simp; omega)
theorem top_lt (N k : Nat) (h : N < 2 ^ (7 * (k + 1))) (hk : k ≤ 7) : N / 2 ^ (8 * k) < 2 ^ (7 - k) := by
 rw [Nat.div_lt_iff_lt_mul (Nat.pow_pos (by omega)), ← Nat.pow_add]
 have e : 7 - k + 8 * k = 7 * (k + 1) := by omega
 rw [e]; exact h
theorem fur_nat (n : Int) (h0 : 0 ≤ n) (h1 : n ≤ 9007199254740991) : ∃ N k : Nat, n = N ∧ fur n = k ∧ k ≤ 7 ∧ N < 2 ^ (7 * (k + 1)) ∧ encN n = UInt8.ofNat (256 - 2 ^ (8 - k) + N / 2 ^ (8 * k)) :: lowB N k := by
 have hf := fur_range n
 have hb := fur_bound n h0 h1
 refine ⟨n.toNat, (fur n).toNat, by omega, by omega, by omega, ?_, rfl⟩
 have : ((n.toNat : Nat) : Int) < ((2 ^ (7 * ((fur n).toNat + 1)) : Nat) : Int) := by
  rw [Int.toNat_of_nonneg h0]; simpa using hb
 exact_mod_cast this
theorem pow_le_128 (k : Nat) : 2 ^ (7 - k) ≤ 128 := by
 have : 2 ^ (7 - k) ≤ 2 ^ 7 := Nat.pow_le_pow_right (by omega) (by omega)
 omega
theorem wire_put_plain (dst : List UInt8) (n : Int) (h : wire_put_P dst n = true) : ∃ F, ∀ {X : Type} (fail : X) (ret : List UInt8 → X), wire_put F dst n fail ret = ret (wire_put_r dst n) := ⟨9, fun fail ret => by
 simp only [wire_put_P, decide_eq_true_eq] at h
 have hr := numOf_range n
 obtain ⟨N, k, e1, e2, hk, hN, he⟩ := fur_nat (numOf n) hr.1 hr.2
 have hq := top_lt N k hN hk
 have hq2 := pow_le_128 k
 unfold wire_put wire_put_r
 simp only [wire_number_r, wire_further_r, e1] at *
 rw [e2]
 have hs : subI 8 (k : Int) = 8 - (k : Int) := subI_eq (by omega) (by omega)
 rw [bif_true (by simp only [wire_further_P, decide_eq_true_eq]; exact hr), hs, byte_at N k (by omega), bif_true (by simp; omega), bif_true (by rw [mulI_eq (by omega) (by omega)]; simp; omega)]
 have hmod : N / 2 ^ (8 * k) % 256 = N / 2 ^ (8 * k) := Nat.mod_eq_of_lt (by omega)
 rw [hmod, mark_byte k hk _ (by omega) hq, bif_true (le_big (by simp; omega)), subI_eq (by omega) (by omega), put_loop _ _ _ N k 9 _ (by omega) hk (by simp; omega), he]
 simp⟩
theorem wire_PutInt_plain (dst : List UInt8) (n : Int) (h : wire_PutInt_P dst n = true) : ∃ F, ∀ {X : Type} (fail : X) (ret : List UInt8 → X), wire_PutInt F dst n fail ret = ret (wire_PutInt_r dst n) := ⟨0, fun fail ret => by
 have h' := h
 simp only [wire_PutInt_P, decide_eq_true_eq] at h'
 unfold wire_PutInt
 rw [bif_true (by simp only [clone_byte_P, decide_eq_true_eq]; exact h'.1), bif_true (by exact h)]
 rfl⟩
theorem byte_ex (b : UInt8) : ∃ i, i < 256 ∧ b = UInt8.ofNat i := ⟨b.toNat, b.toNat_lt, by simp⟩
theorem lead_le : ∀ i : Nat, i < 256 → lead (UInt8.ofNat i) ≤ 8 := by decide +kernel
theorem lead_not : ∀ i : Nat, i < 256 → (8 : Int) - lenN (notB (UInt8.ofNat i)).toNat = lead (UInt8.ofNat i) := by decide +kernel
theorem lead_first : ∀ i : Nat, i < 256 → lead (UInt8.ofNat i) ≤ 7 → andB (UInt8.ofNat i) (shrB 127 (lead (UInt8.ofNat i) : Int)) = UInt8.ofNat (i - (256 - 2 ^ (8 - lead (UInt8.ofNat i)))) := by decide +kernel
theorem first_lt : ∀ i : Nat, i < 256 → lead (UInt8.ofNat i) ≤ 7 → i - (256 - 2 ^ (8 - lead (UInt8.ofNat i))) < 2 ^ (7 - lead (UInt8.ofNat i)) ∧ 256 - 2 ^ (8 - lead (UInt8.ofNat i)) ≤ i := by decide +kernel
theorem bytesNum_lt : ∀ (l : List UInt8) (a s : Nat), a < 2 ^ s → bytesNum a l < 2 ^ (s + 8 * l.length)
 | [], a, s, h => by simpa [bytesNum] using h
 | c :: l, a, s, h => by
  have hc := c.toNat_lt
  have e : 2 ^ (s + 8) = 256 * 2 ^ s := by rw [Nat.pow_add]; omega
  have := bytesNum_lt l (256 * a + c.toNat) (s + 8) (by omega)
  simp only [bytesNum, List.foldl_cons, List.length_cons] at this ⊢
  have e2 : s + 8 * (l.length + 1) = s + 8 + 8 * l.length := by omega
  rw [e2]; exact this
theorem bytesNum_snoc (a : Nat) (l : List UInt8) (c : UInt8) : bytesNum a (l ++ [c]) = 256 * bytesNum a l + c.toNat := by simp [bytesNum]
theorem or_byte (n : Nat) (c : UInt8) (h : n < 2 ^ 48) : orI (shlI (n : Int) 8) (cvBI c) = ((256 * n + c.toNat : Nat) : Int) := by
 have hc := c.toNat_lt
 have e : shlI (n : Int) 8 = ((256 * n : Nat) : Int) := by rw [shlI_eq (by omega) (by omega) (by simp; omega) (by simp; omega)]; simp; omega
 rw [e, cvBI_eq, orI_eq (by omega) (by omega)]
 have := Nat.two_pow_add_eq_or_of_lt (i := 8) (b := c.toNat) (by omega) n
 rw [show 256 * n = 2 ^ 8 * n by omega, ← this]
theorem int_loop {X : Type} (F : Nat) (fail : X) (ex0 : List UInt8 → Int → Int → List UInt8 → Int → Int → X) (src : List UInt8) (k : Int) (a : Nat) (t : List UInt8) (ht : t.length ≤ 7) (ha : a < 2 ^ (7 - t.length)) : ∀ (j m i : Nat), i + j = t.length → j < m →
  wire_Int_l1F F fail ex0 m src k (bytesNum a (t.take i) : Nat) t (t.length : Nat) i = ex0 src k (bytesNum a t : Nat) t (t.length : Nat) (t.length : Nat)
 | 0, m + 1, i, h1, h2 => by
  simp only [wire_Int_l1F, wire_Int_l1]
  have e : i = t.length := by omega
  subst e
  rw [bif_false (ff (by omega)), List.take_length]
 | j + 1, m + 1, i, h1, h2 => by
  simp only [wire_Int_l1F, wire_Int_l1]
  have hb := bytesNum_lt (t.take i) a (7 - t.length) ha
  have hl : (t.take i).length = i := by simp; omega
  rw [hl] at hb
  have hp : 2 ^ (7 - t.length + 8 * i) ≤ 2 ^ 48 := Nat.pow_le_pow_right (by omega) (by omega)
  rw [bif_true (tt (by omega)), bif_true (tt2 (by omega) (by omega)), Int.toNat_natCast, or_byte _ _ (by omega), ← bytesNum_snoc, ← take_snoc t i 0 (by omega), addI_eq (by omega) (by omega)]
  exact int_loop F fail ex0 src k a t ht ha j m (i + 1) (by omega) (by omega)
theorem wire_Int_plain (src : List UInt8) (h : wire_Int_P src = true) : ∃ F, ∀ {X : Type} (fail : X) (ret : Int → List UInt8 → Int → X), wire_Int F src fail ret = ret (wire_Int_r0 src) (wire_Int_r1 src) (wire_Int_r2 src) := ⟨9, fun fail ret => by
 simp only [wire_Int_P, decide_eq_true_eq] at h
 cases src with
 | nil => rfl
 | cons b r =>
  obtain ⟨i, hi, rfl⟩ := byte_ex b
  have hle := lead_le i hi
  have hnot := lead_not i hi
  have hfst := lead_first i hi
  have hflt := first_lt i hi
  have hi2 : (UInt8.ofNat i).toNat = i := by simp; omega
  simp only [wire_Int_r0, wire_Int_r1, wire_Int_r2, readN, hi2]
  unfold wire_Int
  simp only [List.length_cons, bits_LeadingZeros8_r, show List.getD (UInt8.ofNat i :: r) 0 (0 : UInt8) = UInt8.ofNat i from rfl, hnot]
  generalize hk : lead (UInt8.ofNat i) = k at *
  rw [bif_false (beq_f (by omega)), bif_true (tt (by omega))]
  by_cases h8 : k = 8
  ·rw [if_pos h8, bif_true (tt (by omega))]
  rw [if_neg h8, bif_false (ff (by omega))]
  have hflt := hflt (by omega)
  by_cases hr : r.length < k
  ·rw [if_pos hr, bif_true (tt (by omega))]
  rw [if_neg hr, bif_false (ff (by omega)), bif_true (tt (by omega)), bif_true (tt (by omega)), addI_eq (by omega) (by omega), bif_true (tt2 (by omega) (by omega)), hfst (by omega)]
  have et : List.drop 1 (List.take ((k : Int) + 1).toNat (UInt8.ofNat i :: r)) = r.take k := by
   rw [show ((k : Int) + 1).toNat = k + 1 by omega]; rfl
  have ht : (r.take k).length = k := by simp; omega
  have hc : cvBI (UInt8.ofNat (i - (256 - 2 ^ (8 - k)))) = ((i - (256 - 2 ^ (8 - k)) : Nat) : Int) := by
   rw [cvBI_eq]; simp; omega
  rw [et, hc]
  have hloop := int_loop 9 fail (fun (src1 : List UInt8) (k : Int) (n : Int) (s33 : List UInt8) (s34 : Int) (s35 : Int) =>
   bif (decide (n > (9007199254740991 : Int))) then ret (0 : Int) ([] : List UInt8) (3 : Int)
   else bif (wire_further_P n) then bif ((wire_further_r n) != k) then ret (0 : Int) ([] : List UInt8) (3 : Int)
   else bif ((decide ((0 : Int) ≤ (addI k (1 : Int)))) && (decide ((addI k (1 : Int)) ≤ ((src1.length : Nat) : Int)))) then
   bif (clone_byte_P (List.drop ((addI k (1 : Int))).toNat src1)) then ret n (clone_byte_r (List.drop ((addI k (1 : Int))).toNat src1)) (0 : Int)
   else fail else fail else fail) (UInt8.ofNat i :: r) k (i - (256 - 2 ^ (8 - k))) (r.take k) (by omega) (by rw [ht]; exact hflt.1) k 9 0 (by omega) (by omega)
  simp only [List.take_zero] at hloop
  have hb0 : bytesNum (i - (256 - 2 ^ (8 - k))) [] = i - (256 - 2 ^ (8 - k)) := rfl
  rw [hb0] at hloop
  refine hloop.trans ?_
  clear hloop
  generalize hn : bytesNum (i - (256 - 2 ^ (8 - k))) (r.take k) = n
  by_cases h1 : (n : Int) > 9007199254740991
  ·rw [bif_true (tt h1), if_pos (.inl h1)]
  rw [bif_false (ff h1), bif_true (by simp only [wire_further_P, decide_eq_true_eq]; omega)]
  by_cases h2 : fur (n : Int) = k
  ·rw [if_neg (by unfold maxInt; omega)]
   simp only [wire_further_r]
   rw [h2, bif_false (bne_f rfl), addI_eq (by omega) (by omega), bif_true (tt2 (by omega) (by simp; omega)), bif_true (c := clone_byte_P _) (tt (by simp only [List.length_drop, List.length_cons] at h ⊢; omega))]
   rw [show ((k : Int) + 1).toNat = k + 1 by omega]
   rfl
  ·rw [if_pos (.inr h2)]
   simp only [wire_further_r]
   rw [bif_true (bne_t h2)]⟩
end Go.AI
