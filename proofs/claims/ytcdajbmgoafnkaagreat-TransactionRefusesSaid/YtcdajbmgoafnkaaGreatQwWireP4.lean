/- Texts of the proof, joined: WireP4. Names of our own are shortened by program; the long ones stand in wip/. -/
import Derived.Test.YtcdajbmgoafnkaaGreatQwWireP3
namespace Go.AI
open Go
theorem K0i : ∀ k, k ≤ 7 → ∀ t, t < 128 → t < 2 ^ (7 - k) → J95 (UInt8.ofNat (256 - 2 ^ (8 - k) + t)) = k ∧ (UInt8.ofNat (256 - 2 ^ (8 - k) + t)).toNat - (256 - 2 ^ (8 - k)) = t := by decide +kernel
theorem J2v (N : Nat) : ∀ k, Jcr (N / 2 ^ (8 * k)) (Kk3 N k) = N
 | 0 => by simp [Jcr, Kk3]
 | k + 1 => by
  have e : 2 ^ (8 * (k + 1)) = 2 ^ (8 * k) * 256 := by rw [show 8 * (k + 1) = 8 * k + 8 from by omega, Nat.pow_add]
  have h := J2v N k
  simp only [Kk3, Jcr, List.foldl_cons] at h ⊢
  rw [e, ← Nat.div_div_eq_div_mul]
  generalize N / 2 ^ (8 * k) = q at h ⊢
  have : 256 * (q / 256) + (UInt8.ofNat (q % 256)).toNat = q := by
   rw [UInt8.toNat_ofNat']; omega
  rw [this]; exact h
theorem J2w : ∀ (l : List UInt8) (a : Nat), Jcr a l / 2 ^ (8 * l.length) = a ∧ Kk3 (Jcr a l) l.length = l
 | [], a => by simp [Jcr, Kk3]
 | c :: l, a => by
  have h := J2w l (256 * a + c.toNat)
  have hb : Jcr a (c :: l) = Jcr (256 * a + c.toNat) l := rfl
  have e : 2 ^ (8 * (l.length + 1)) = 2 ^ (8 * l.length) * 256 := by rw [show 8 * (l.length + 1) = 8 * l.length + 8 from by omega, Nat.pow_add]
  have hc := c.toNat_lt
  rw [hb]
  refine ⟨?_, ?_⟩
  ·show _ / 2 ^ (8 * (l.length + 1)) = _
   rw [e, ← Nat.div_div_eq_div_mul, h.1]; omega
  ·show UInt8.ofNat (_ / 2 ^ (8 * l.length) % 256) :: Kk3 _ l.length = _
   rw [h.1, h.2]
   have : (256 * a + c.toNat) % 256 = c.toNat := by omega
   rw [this]; simp
theorem J64 {m : Int} (h0 : 0 ≤ m) (h1 : m ≤ 9007199254740991) (r : List UInt8) : Jbc (J3m m ++ r) = (m, r, 0) := by
 obtain ⟨N, k, rfl, hf, hk, hN, e⟩ := K5y m h0 h1
 have ht := Qdk N k hN hk
 have hp := Kc1 k
 obtain ⟨f1, f2⟩ := K0i k hk _ (by omega) ht
 rw [e]
 simp only [List.cons_append, Jbc, f1, f2]
 rw [if_neg (by omega), if_neg (by simp [Jjb])]
 have ht : (Kk3 N k ++ r).take k = Kk3 N k := by rw [List.take_append_of_le_length (by rw [Jjb]; exact Nat.le_refl _), List.take_of_length_le (by rw [Jjb]; exact Nat.le_refl _)]
 have hd : (Kk3 N k ++ r).drop k = r := by rw [List.drop_append_of_le_length (by rw [Jjb]; exact Nat.le_refl _), List.drop_of_length_le (by rw [Jjb]; exact Nat.le_refl _)]; rfl
 rw [ht, hd, J2v, if_neg]
 unfold Kwy
 rintro (h | h)
 ·omega
 ·exact h hf
theorem Jwq {src : List UInt8} (h : (Jbc src).2.2 = 0) : src = J3m (Jbc src).1 ++ (Jbc src).2.1 := by
 cases src with
 | nil => simp [Jbc] at h
 | cons b r =>
  obtain ⟨i, hi, rfl⟩ := K5z b
  have hle := K50 i hi
  simp only [Jbc] at h ⊢
  split at h
  ·cases h
  split at h
  ·cases h
  split at h
  ·cases h
  rename_i h1 h2 h3
  rw [if_neg h1, if_neg h2, if_neg h3]
  simp only
  have hl := (Kxm i hi (by omega)).2
  have hb : (UInt8.ofNat i).toNat = i := by rw [UInt8.toNat_ofNat']; omega
  rw [hb] at h3 ⊢
  generalize J95 (UInt8.ofNat i) = k at *
  have hlen : (r.take k).length = k := by rw [List.length_take]; omega
  obtain ⟨d1, d2⟩ := J2w (r.take k) (i - (256 - 2 ^ (8 - k)))
  rw [hlen] at d1 d2
  generalize Jcr (i - (256 - 2 ^ (8 - k))) (r.take k) = n at *
  have hf : fur (n : Int) = k := by
   rcases Decidable.em (fur (n : Int) = k) with h | h
   ·exact h
   ·exact absurd (.inr h) h3
  unfold J3m
  rw [hf]
  simp only [Int.toNat_natCast]
  rw [d1, d2, List.cons_append, List.take_append_drop, show 256 - 2 ^ (8 - k) + (i - (256 - 2 ^ (8 - k))) = i from by omega]
theorem Ksz {n : Nat} (h : n ≤ 65536) (r : List UInt8) : Jch (J3m (Jfk n) ++ r) = ((n : Int), r, 0) := by
 unfold Jch
 rw [Juq (by omega) (by omega), J64 (by omega) (by omega)]
 simp only
 rw [if_neg (by omega)]
theorem Khe {b : List UInt8} (h : b.length ≤ 65536) (r : List UInt8) : Jay (J3m (Jfk b.length) ++ b ++ r) = (b, r, 0) := by
 unfold Jay
 rw [List.append_assoc, Ksz h]
 simp
 omega
theorem Khf {src : List UInt8} (h : (Jch src).2.2 = 0) : src = J3m (Jch src).1 ++ (Jch src).2.1 ∧ (Jch src).1 ≤ 65536 := by
 refine ⟨?_, Kgs src h⟩
 unfold Jch at h ⊢
 simp only at h ⊢
 split at h
 ·cases h
 ·rename_i hc
  rw [if_neg hc]
  exact Jwq h
theorem J65 {src : List UInt8} (h : (Jay src).2.2 = 0) : J3m (Jfk (Jay src).1.length) ++ (Jay src).1 ++ (Jay src).2.1 = src := by
 have hr := Jy4 src
 unfold Jay at h ⊢
 simp only at h ⊢
 split at h
 ·rename_i h1; exact absurd h h1
 rename_i h1
 split at h
 ·cases h
 rename_i h2
 rw [if_neg h1, if_neg h2]
 simp only
 have hc := (Khf (by omega : (Jch src).2.2 = 0)).1
 rw [List.append_assoc, List.take_append_drop, List.length_take, Nat.min_eq_left (by omega), show (((Jch src).1.toNat : Nat) : Int) = (Jch src).1 from by omega, Juq hr.1 hr.2.1]
 exact hc.symm
end Go.AI
