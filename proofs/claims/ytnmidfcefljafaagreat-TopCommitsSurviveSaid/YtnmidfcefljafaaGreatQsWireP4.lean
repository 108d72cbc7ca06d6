/- Texts of the proof, joined: WireP4. Names of our own are shortened by program; the long ones stand in wip/. -/
import Derived.Test.YtnmidfcefljafaaGreatQsWireP3
namespace Go.AI
open Go
theorem Ksn : ∀ k, k ≤ 7 → ∀ t, t < 128 → t < 2 ^ (7 - k) → J5u (UInt8.ofNat (256 - 2 ^ (8 - k) + t)) = k ∧ (UInt8.ofNat (256 - 2 ^ (8 - k) + t)).toNat - (256 - 2 ^ (8 - k)) = t := by decide +kernel
theorem Jzm (N : Nat) : ∀ k, Jd8 (N / 2 ^ (8 * k)) (Kpg N k) = N
 | 0 => by simp [Jd8, Kpg]
 | k + 1 => by
  have e : 2 ^ (8 * (k + 1)) = 2 ^ (8 * k) * 256 := by rw [show 8 * (k + 1) = 8 * k + 8 from by omega, Nat.pow_add]
  have h := Jzm N k
  simp only [Kpg, Jd8, List.foldl_cons] at h ⊢
  rw [e, ← Nat.div_div_eq_div_mul]
  generalize N / 2 ^ (8 * k) = q at h ⊢
  have : 256 * (q / 256) + (UInt8.ofNat (q % 256)).toNat = q := by
   rw [UInt8.toNat_ofNat']; omega
  rw [this]; exact h
theorem J3b {m : Int} (h0 : 0 ≤ m) (h1 : m ≤ 9007199254740991) (r : List UInt8) : Jb0 (J5t m ++ r) = (m, r, 0) := by
 obtain ⟨N, k, rfl, hf, hk, hN, e⟩ := Kxg m h0 h1
 have ht := K33 N k hN hk
 have hp := J75 k
 obtain ⟨f1, f2⟩ := Ksn k hk _ (by omega) ht
 rw [e]
 simp only [List.cons_append, Jb0, f1, f2]
 rw [if_neg (by omega), if_neg (by simp [Jig])]
 have ht : (Kpg N k ++ r).take k = Kpg N k := by rw [List.take_append_of_le_length (by rw [Jig]; exact Nat.le_refl _), List.take_of_length_le (by rw [Jig]; exact Nat.le_refl _)]
 have hd : (Kpg N k ++ r).drop k = r := by rw [List.drop_append_of_le_length (by rw [Jig]; exact Nat.le_refl _), List.drop_of_length_le (by rw [Jig]; exact Nat.le_refl _)]; rfl
 rw [ht, hd, Jzm, if_neg]
 unfold Kpf
 rintro (h | h)
 ·omega
 ·exact h hf
theorem Kl8 {n : Nat} (h : n ≤ 65536) (r : List UInt8) : Jgh (J5t (Jfx n) ++ r) = ((n : Int), r, 0) := by
 unfold Jgh
 rw [Kbh (by omega) (by omega), J3b (by omega) (by omega)]
 simp only
 rw [if_neg (by omega)]
theorem Kbz {b : List UInt8} (h : b.length ≤ 65536) (r : List UInt8) : Jby (J5t (Jfx b.length) ++ b ++ r) = (b, r, 0) := by
 unfold Jby
 rw [List.append_assoc, Kl8 h]
 simp
 omega
end Go.AI
