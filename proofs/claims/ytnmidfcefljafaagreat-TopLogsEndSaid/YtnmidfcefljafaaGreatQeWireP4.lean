/- Texts of the proof, joined: WireP4. -/
import Derived.Test.YtnmidfcefljafaaGreatQeWireP3
namespace Go.AI
open Go
theorem first_byte : ∀ k, k ≤ 7 → ∀ t, t < 128 → t < 2 ^ (7 - k) → lead (UInt8.ofNat (256 - 2 ^ (8 - k) + t)) = k ∧ (UInt8.ofNat (256 - 2 ^ (8 - k) + t)).toNat - (256 - 2 ^ (8 - k)) = t := by decide +kernel
theorem bytesNum_low (N : Nat) : ∀ k, bytesNum (N / 2 ^ (8 * k)) (lowB N k) = N
 | 0 => by simp [bytesNum, lowB]
 | k + 1 => by
  have e : 2 ^ (8 * (k + 1)) = 2 ^ (8 * k) * 256 := by rw [show 8 * (k + 1) = 8 * k + 8 from by omega, Nat.pow_add]
  have h := bytesNum_low N k
  simp only [lowB, bytesNum, List.foldl_cons] at h ⊢
  rw [e, ← Nat.div_div_eq_div_mul]
  generalize N / 2 ^ (8 * k) = q at h ⊢
  have : 256 * (q / 256) + (UInt8.ofNat (q % 256)).toNat = q := by
   rw [UInt8.toNat_ofNat']; omega
  rw [this]; exact h
theorem readN_enc {m : Int} (h0 : 0 ≤ m) (h1 : m ≤ 9007199254740991) (r : List UInt8) : readN (encN m ++ r) = (m, r, 0) := by
 obtain ⟨N, k, rfl, hf, hk, hN, e⟩ := fur_nat m h0 h1
 have ht := top_lt N k hN hk
 have hp := pow_le_128 k
 obtain ⟨f1, f2⟩ := first_byte k hk _ (by omega) ht
 rw [e]
 simp only [List.cons_append, readN, f1, f2]
 rw [if_neg (by omega), if_neg (by simp [lowB_length])]
 have ht : (lowB N k ++ r).take k = lowB N k := by rw [List.take_append_of_le_length (by rw [lowB_length]; exact Nat.le_refl _), List.take_of_length_le (by rw [lowB_length]; exact Nat.le_refl _)]
 have hd : (lowB N k ++ r).drop k = r := by rw [List.drop_append_of_le_length (by rw [lowB_length]; exact Nat.le_refl _), List.drop_of_length_le (by rw [lowB_length]; exact Nat.le_refl _)]; rfl
 rw [ht, hd, bytesNum_low, if_neg]
 unfold maxInt
 rintro (h | h)
 ·omega
 ·exact h hf
theorem readLen_enc {n : Nat} (h : n ≤ 65536) (r : List UInt8) : readLen (encN (numOf n) ++ r) = ((n : Int), r, 0) := by
 unfold readLen
 rw [numOf_id (by omega) (by omega), readN_enc (by omega) (by omega)]
 simp only
 rw [if_neg (by omega)]
theorem readBytes_enc {b : List UInt8} (h : b.length ≤ 65536) (r : List UInt8) : readBytes (encN (numOf b.length) ++ b ++ r) = (b, r, 0) := by
 unfold readBytes
 rw [List.append_assoc, readLen_enc h]
 simp
 omega
end Go.AI
