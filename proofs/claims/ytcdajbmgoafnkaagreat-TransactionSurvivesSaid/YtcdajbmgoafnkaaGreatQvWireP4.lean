/- Texts of the proof, joined: WireP4. Names of our own are shortened by program; the long ones stand in wip/. -/
import Derived.Test.YtcdajbmgoafnkaaGreatQvWireP3
namespace Go.AI
open Go
theorem Ktk : ∀ k, k ≤ 7 → ∀ t, t < 128 → t < 2 ^ (7 - k) → J6q (UInt8.ofNat (256 - 2 ^ (8 - k) + t)) = k ∧ (UInt8.ofNat (256 - 2 ^ (8 - k) + t)).toNat - (256 - 2 ^ (8 - k)) = t := by decide +kernel
theorem Jz8 (N : Nat) : ∀ k, Jeo (N / 2 ^ (8 * k)) (Kp7 N k) = N
 | 0 => by simp [Jeo, Kp7]
 | k + 1 => by
  have e : 2 ^ (8 * (k + 1)) = 2 ^ (8 * k) * 256 := by rw [show 8 * (k + 1) = 8 * k + 8 from by omega, Nat.pow_add]
  have h := Jz8 N k
  simp only [Kp7, Jeo, List.foldl_cons] at h ⊢
  rw [e, ← Nat.div_div_eq_div_mul]
  generalize N / 2 ^ (8 * k) = q at h ⊢
  have : 256 * (q / 256) + (UInt8.ofNat (q % 256)).toNat = q := by
   rw [UInt8.toNat_ofNat']; omega
  rw [this]; exact h
theorem J31 {m : Int} (h0 : 0 ≤ m) (h1 : m ≤ 9007199254740991) (r : List UInt8) : Jcc (J6p m ++ r) = (m, r, 0) := by
 obtain ⟨N, k, rfl, hf, hk, hN, e⟩ := Kyi m h0 h1
 have ht := K5l N k hN hk
 have hp := J80 k
 obtain ⟨f1, f2⟩ := Ktk k hk _ (by omega) ht
 rw [e]
 simp only [List.cons_append, Jcc, f1, f2]
 rw [if_neg (by omega), if_neg (by simp [Jir])]
 have ht : (Kp7 N k ++ r).take k = Kp7 N k := by rw [List.take_append_of_le_length (by rw [Jir]; exact Nat.le_refl _), List.take_of_length_le (by rw [Jir]; exact Nat.le_refl _)]
 have hd : (Kp7 N k ++ r).drop k = r := by rw [List.drop_append_of_le_length (by rw [Jir]; exact Nat.le_refl _), List.drop_of_length_le (by rw [Jir]; exact Nat.le_refl _)]; rfl
 rw [ht, hd, Jz8, if_neg]
 unfold Kp6
 rintro (h | h)
 ·omega
 ·exact h hf
theorem Kmv {n : Nat} (h : n ≤ 65536) (r : List UInt8) : Jgt (J6p (Jf9 n) ++ r) = ((n : Int), r, 0) := by
 unfold Jgt
 rw [Kcd (by omega) (by omega), J31 (by omega) (by omega)]
 simp only
 rw [if_neg (by omega)]
theorem Kcu {b : List UInt8} (h : b.length ≤ 65536) (r : List UInt8) : Jb9 (J6p (Jf9 b.length) ++ b ++ r) = (b, r, 0) := by
 unfold Jb9
 rw [List.append_assoc, Kmv h]
 simp
 omega
end Go.AI
