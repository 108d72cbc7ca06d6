/- Texts of the proof, joined: WireP4. -/
import Derived.Test.YtnmidfcefljafaaGreatQtWireP3
namespace Go.AI
open Go
theorem first_byte : ∀ k, k ≤ 7 → ∀ t, t < 128 → t < 2 ^ (7 - k) → lead (UInt8.ofNat (256 - 2 ^ (8 - k) + t)) = k ∧ (UInt8.ofNat (256 - 2 ^ (8 - k) + t)).toNat - (256 - 2 ^ (8 - k)) = t := by decide +kernel
theorem bytesNum_low (N : Nat) : ∀ k, bytesNum (N / 2 ^ (8 * k)) (lowB N k) = N
 | 0 => by simp [bytesNum, lowB]
 | k + 1 => by
  have e : 2 ^ (8 * (k + 1)) = 2 ^ (8 * k) * 256 := by rw [show 8 * (k + 1) = 8 * k + 8 from by omega, Nat.pow_add]
  have h := bytesNum_low N k
  simp only [lowB, bytesNum, List.foldl_cons] at h ⊢
  rw [e, ← Nat.div_div_eq_div_mul]
  generalize N / 2 ^ (8 * k) = q at h ⊢
  have : 256 * (q / 256) + (UInt8.ofNat (q % 256)).toNat = q := by
   rw [UInt8.toNat_ofNat']; omega
  rw [this]; exact h
theorem low_bytesNum : ∀ (l : List UInt8) (a : Nat), bytesNum a l / 2 ^ (8 * l.length) = a ∧ lowB (bytesNum a l) l.length = l
 | [], a => by simp [bytesNum, lowB]
 | c :: l, a => by
  have h := low_bytesNum l (256 * a + c.toNat)
  have hb : bytesNum a (c :: l) = bytesNum (256 * a + c.toNat) l := rfl
  have e : 2 ^ (8 * (l.length + 1)) = 2 ^ (8 * l.length) * 256 := by rw [show 8 * (l.length + 1) = 8 * l.length + 8 from by omega, Nat.pow_add]
  have hc := c.toNat_lt
  rw [hb]
  refine ⟨?_, ?_⟩
  ·show _ / 2 ^ (8 * (l.length + 1)) = _
   rw [e, ← Nat.div_div_eq_div_mul, h.1]; omega
  ·show UInt8.ofNat (_ / 2 ^ (8 * l.length) % 256) :: lowB _ l.length = _
   rw [h.1, h.2]
   have : (256 * a + c.toNat) % 256 = c.toNat := by omega
   rw [this]; simp
theorem readN_enc {m : Int} (h0 : 0 ≤ m) (h1 : m ≤ 9007199254740991) (r : List UInt8) : readN (encN m ++ r) = (m, r, 0) := by
 obtain ⟨N, k, rfl, hf, hk, hN, e⟩ := fur_nat m h0 h1
 have ht := top_lt N k hN hk
 have hp := pow_le_128 k
 obtain ⟨f1, f2⟩ := first_byte k hk _ (by omega) ht
 rw [e]
 simp only [List.cons_append, readN, f1, f2]
 rw [if_neg (by omega), if_neg (by simp [lowB_length])]
 have ht : (lowB N k ++ r).take k = lowB N k := by rw [List.take_append_of_le_length (by rw [lowB_length]; exact Nat.le_refl _), List.take_of_length_le (by rw [lowB_length]; exact Nat.le_refl _)]
 have hd : (lowB N k ++ r).drop k = r := by rw [List.drop_append_of_le_length (by rw [lowB_length]; exact Nat.le_refl _), List.drop_of_length_le (by rw [lowB_length]; exact Nat.le_refl _)]; rfl
 rw [ht, hd, bytesNum_low, if_neg]
 unfold maxInt
 rintro (h | h)
 ·omega
 ·exact h hf
theorem readN_canon {src : List UInt8} (h : (readN src).2.2 = 0) : src = encN (readN src).1 ++ (readN src).2.1 := by
 cases src with
 | nil => simp [readN] at h
 | cons b r =>
  obtain ⟨i, hi, rfl⟩ := byte_ex b
  have hle := lead_le i hi
  simp only [readN] at h ⊢
  split at h
  ·cases h
  split at h
  ·cases h
  split at h
  ·cases h
  rename_i h1 h2 h3
  rw [if_neg h1, if_neg h2, if_neg h3]
  simp only
  have hl := (first_lt i hi (by omega)).2
  have hb : (UInt8.ofNat i).toNat = i := by rw [UInt8.toNat_ofNat']; omega
  rw [hb] at h3 ⊢
  generalize lead (UInt8.ofNat i) = k at *
  have hlen : (r.take k).length = k := by rw [List.length_take]; omega
  obtain ⟨d1, d2⟩ := low_bytesNum (r.take k) (i - (256 - 2 ^ (8 - k)))
  rw [hlen] at d1 d2
  generalize bytesNum (i - (256 - 2 ^ (8 - k))) (r.take k) = n at *
  have hf : fur (n : Int) = k := by
   rcases Decidable.em (fur (n : Int) = k) with h | h
   ·exact h
   ·exact absurd (.inr h) h3
  unfold encN
  rw [hf]
  simp only [Int.toNat_natCast]
  rw [d1, d2, List.cons_append, List.take_append_drop, show 256 - 2 ^ (8 - k) + (i - (256 - 2 ^ (8 - k))) = i from by omega]
theorem readLen_enc {n : Nat} (h : n ≤ 65536) (r : List UInt8) : readLen (encN (numOf n) ++ r) = ((n : Int), r, 0) := by
 unfold readLen
 rw [numOf_id (by omega) (by omega), readN_enc (by omega) (by omega)]
 simp only
 rw [if_neg (by omega)]
theorem readBytes_enc {b : List UInt8} (h : b.length ≤ 65536) (r : List UInt8) : readBytes (encN (numOf b.length) ++ b ++ r) = (b, r, 0) := by
 unfold readBytes
 rw [List.append_assoc, readLen_enc h]
 simp
 omega
theorem readLen_canon {src : List UInt8} (h : (readLen src).2.2 = 0) : src = encN (readLen src).1 ++ (readLen src).2.1 ∧ (readLen src).1 ≤ 65536 := by
 refine ⟨?_, readLen_small src h⟩
 unfold readLen at h ⊢
 simp only at h ⊢
 split at h
 ·cases h
 ·rename_i hc
  rw [if_neg hc]
  exact readN_canon h
theorem readBytes_canon {src : List UInt8} (h : (readBytes src).2.2 = 0) : encN (numOf (readBytes src).1.length) ++ (readBytes src).1 ++ (readBytes src).2.1 = src := by
 have hr := readLen_range src
 unfold readBytes at h ⊢
 simp only at h ⊢
 split at h
 ·rename_i h1; exact absurd h h1
 rename_i h1
 split at h
 ·cases h
 rename_i h2
 rw [if_neg h1, if_neg h2]
 simp only
 have hc := (readLen_canon (by omega : (readLen src).2.2 = 0)).1
 rw [List.append_assoc, List.take_append_drop, List.length_take, Nat.min_eq_left (by omega), show (((readLen src).1.toNat : Nat) : Int) = (readLen src).1 from by omega, numOf_id hr.1 hr.2.1]
 exact hc.symm
end Go.AI
