/- Texts of the proof, joined: WireP4. Names of our own are shortened by program; the long ones stand in wip/. -/
import Derived.Test.YtnmidfcefljafaaGreatQpWireP3
namespace Go.AI
open Go
theorem Kuj : ∀ k, k ≤ 7 → ∀ t, t < 128 → t < 2 ^ (7 - k) → J60 (UInt8.ofNat (256 - 2 ^ (8 - k) + t)) = k ∧ (UInt8.ofNat (256 - 2 ^ (8 - k) + t)).toNat - (256 - 2 ^ (8 - k)) = t := by decide +kernel
theorem Jz9 (N : Nat) : ∀ k, Jec (N / 2 ^ (8 * k)) (Kq4 N k) = N
 | 0 => by simp [Jec, Kq4]
 | k + 1 => by
  have e : 2 ^ (8 * (k + 1)) = 2 ^ (8 * k) * 256 := by rw [show 8 * (k + 1) = 8 * k + 8 from by omega, Nat.pow_add]
  have h := Jz9 N k
  simp only [Kq4, Jec, List.foldl_cons] at h ⊢
  rw [e, ← Nat.div_div_eq_div_mul]
  generalize N / 2 ^ (8 * k) = q at h ⊢
  have : 256 * (q / 256) + (UInt8.ofNat (q % 256)).toNat = q := by
   rw [UInt8.toNat_ofNat']; omega
  rw [this]; exact h
theorem J4c {m : Int} (h0 : 0 ≤ m) (h1 : m ≤ 9007199254740991) (r : List UInt8) : Jbt (J6z m ++ r) = (m, r, 0) := by
 obtain ⟨N, k, rfl, hf, hk, hN, e⟩ := Kzf m h0 h1
 have ht := K50 N k hN hk
 have hp := J9d k
 obtain ⟨f1, f2⟩ := Kuj k hk _ (by omega) ht
 rw [e]
 simp only [List.cons_append, Jbt, f1, f2]
 rw [if_neg (by omega), if_neg (by simp [Jii])]
 have ht : (Kq4 N k ++ r).take k = Kq4 N k := by rw [List.take_append_of_le_length (by rw [Jii]; exact Nat.le_refl _), List.take_of_length_le (by rw [Jii]; exact Nat.le_refl _)]
 have hd : (Kq4 N k ++ r).drop k = r := by rw [List.drop_append_of_le_length (by rw [Jii]; exact Nat.le_refl _), List.drop_of_length_le (by rw [Jii]; exact Nat.le_refl _)]; rfl
 rw [ht, hd, Jz9, if_neg]
 unfold Kq3
 rintro (h | h)
 ·omega
 ·exact h hf
theorem Knk {n : Nat} (h : n ≤ 65536) (r : List UInt8) : Jgj (J6z (Jfy n) ++ r) = ((n : Int), r, 0) := by
 unfold Jgj
 rw [Kcr (by omega) (by omega), J4c (by omega) (by omega)]
 simp only
 rw [if_neg (by omega)]
theorem Kc9 {b : List UInt8} (h : b.length ≤ 65536) (r : List UInt8) : Jbm (J6z (Jfy b.length) ++ b ++ r) = (b, r, 0) := by
 unfold Jbm
 rw [List.append_assoc, Knk h]
 simp
 omega
end Go.AI
