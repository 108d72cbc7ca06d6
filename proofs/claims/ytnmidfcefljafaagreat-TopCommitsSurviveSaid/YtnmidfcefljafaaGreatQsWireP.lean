/- Texts of the proof, joined: WireP. Names of our own are shortened by program; the long ones stand in wip/. -/
import Derived.Test.YtnmidfcefljafaaGreatQsG
namespace Go.AI
open Go
theorem Kln (n : Int) : 0 ≤ Jfx n ∧ Jfx n ≤ 9007199254740991 := by
 unfold Jfx
 by_cases h1 : n < 0 <;> by_cases h2 : n > 9007199254740991 <;> simp [h1, h2] <;> omega
theorem Kbh {n : Int} (h0 : 0 ≤ n) (h1 : n ≤ 9007199254740991) : Jfx n = n := by
 unfold Jfx
 have a : ¬ n < 0 := by omega
 have b : ¬ n > 9007199254740991 := by omega
 simp [a, b]
theorem Kf4 (m : Int) : 0 ≤ fur m ∧ fur m ≤ 7 := by
 unfold fur; repeat' split
 all_goals omega
theorem Jhs {n k : Nat} : J7w n ≤ k ↔ n < 2 ^ k := by
 unfold J7w
 split
 ·rename_i h; subst h; simp [Nat.pow_pos]
 ·rename_i h
  rw [← Nat.log2_lt h]; omega
theorem Kr9 (n s : Nat) (h : 2 ^ s ≤ n) : J7w n = s + J7w (n / 2 ^ s) := by
 have key : ∀ k, J7w n ≤ s + k ↔ J7w (n / 2 ^ s) ≤ k := by
  intro k
  rw [Jhs, Jhs, Nat.pow_add, Nat.div_lt_iff_lt_mul (Nat.pow_pos (by omega)), Nat.mul_comm]
 have h1 : s ≤ J7w n := by
  rcases Nat.lt_or_ge (J7w n) s with h2 | h2
  ·have : n < 2 ^ s := Jhs.1 (by omega)
   omega
  ·exact h2
 have h2 := (key (J7w n - s)).1 (by omega)
 have h3 := (key (J7w (n / 2 ^ s))).2 (Nat.le_refl _)
 omega
theorem Kxb : Jbm.length = 256 := by decide +kernel
theorem K32 : ∀ i, i < 256 → (Jbm.getD i 0).toNat = J7w i := by decide +kernel
theorem Jhc {X : Type} (x y : Int) (s : Nat) (hy : y = x / 2 ^ s) (h0 : 0 ≤ x) (h : y < 256) (hs : s = 0 ∨ 1 ≤ y) (hs' : s ≤ 56) (fail : X) (ret : Int → X) :
  (bif ((decide ((0 : Int) ≤ (((Jsu y).toNat : Nat) : Int))) && (decide ((((Jsu y).toNat : Nat) : Int) < ((Jbm.length : Nat) : Int)))) then
   ret (Jat (s : Int) (Jl6 (List.getD Jbm (Jsu y).toNat (0 : UInt8)))) else fail) = ret (J7w x.toNat : Int) := by
 have hy0 : 0 ≤ y := by rw [hy]; exact Int.ediv_nonneg h0 (Int.le_of_lt (Int.pow_pos (by omega)))
 have e1 : (Jsu y).toNat = y.toNat := by
  rw [Kv3, UInt8.toNat_ofNat']; omega
 rw [e1, Kxb, Jaa (by simp; omega), Jxx, K32 _ (by omega)]
 have hl : J7w y.toNat ≤ 8 := Jhs.2 (by omega)
 rw [Jar (by omega) (by omega)]
 have e2 : y.toNat = x.toNat / 2 ^ s := by
  obtain ⟨n, rfl⟩ := Int.eq_ofNat_of_zero_le h0
  have : ((2 : Int) ^ s) = ((2 ^ s : Nat) : Int) := by simp
  rw [hy, this, ← Int.natCast_ediv]
  rw [Int.toNat_natCast, Int.toNat_natCast]
 rcases hs with hs | hs
 ·subst hs
  simp at e2
  rw [e2]; simp
 ·have : 2 ^ s ≤ x.toNat := by
   rcases Nat.lt_or_ge x.toNat (2 ^ s) with h2 | h2
   ·rw [Nat.div_eq_of_lt h2] at e2; omega
   ·exact h2
  rw [Kr9 _ s this, ← e2]; simp
theorem Jz9 (x : Int) (h : Jlt x = true) : ∃ F, ∀ {X : Type} (fail : X) (ret : Int → X), Jx7 F x fail ret = ret (Jp6 x) := ⟨0, fun fail ret => by
 simp only [Jlt, decide_eq_true_eq] at h
 have e32 : ∀ a : Int, Jj0 a 32 = a / 4294967296 := fun a => Kaa (by omega) (by omega)
 have e16 : ∀ a : Int, Jj0 a 16 = a / 65536 := fun a => Kaa (by omega) (by omega)
 have e8 : ∀ a : Int, Jj0 a 8 = a / 256 := fun a => Kaa (by omega) (by omega)
 unfold Jx7
 simp only [e32, e16, e8, Bool.cond_decide]
 repeat' split
 ·exact Jhc x _ 56 (by omega) h.1 (by omega) (.inr (by omega)) (by omega) fail ret
 ·exact Jhc x _ 48 (by omega) h.1 (by omega) (.inr (by omega)) (by omega) fail ret
 ·exact Jhc x _ 40 (by omega) h.1 (by omega) (.inr (by omega)) (by omega) fail ret
 ·exact Jhc x _ 32 (by omega) h.1 (by omega) (.inr (by omega)) (by omega) fail ret
 ·exact Jhc x _ 24 (by omega) h.1 (by omega) (.inr (by omega)) (by omega) fail ret
 ·exact Jhc x _ 16 (by omega) h.1 (by omega) (.inr (by omega)) (by omega) fail ret
 ·exact Jhc x _ 8 (by omega) h.1 (by omega) (.inr (by omega)) (by omega) fail ret
 ·exact Jhc x x 0 (by simp) h.1 (by omega) (.inl rfl) (by omega) fail ret⟩
theorem J25 (x : UInt8) : ∃ F, ∀ {X : Type} (fail : X) (ret : Int → X), J21 F x fail ret = ret (Jnt x) := ⟨0, fun fail ret => by
 have h := x.toNat_lt
 unfold J21
 rw [Kxb, Jaa (by simp; omega), Jxx, K32 _ h]; rfl⟩
theorem J51 (x : Int) (_ : Jrq x = true) : ∃ F, ∀ {X : Type} (fail : X) (ret : Int → X), Kao F x fail ret = ret (Jrr x) := ⟨0, fun fail ret => by
 rename_i h _
 unfold Kao
 rw [Jaa (by exact h)]; rfl⟩
theorem Jmz (x : UInt8) : ∃ F, ∀ {X : Type} (fail : X) (ret : Int → X), Jhr F x fail ret = ret (Jaw x) := ⟨0, fun fail ret => by
 have h := x.toNat_lt
 have hl : J7w x.toNat ≤ 8 := Jhs.2 (by omega)
 unfold Jhr Jaw Jnt
 rw [Jde (by omega) (by omega)]⟩
theorem Kxc {X : Type} (n : Int) (ret : Int → X) : (bif decide (n < 0) then ret 0 else bif decide (n > 9007199254740991) then ret 0 else ret n) = ret (Jfx n) := by
 unfold Jfx
 cases decide (n < 0) <;> cases decide (n > 9007199254740991) <;> rfl
theorem Jyd (n : Int) : ∃ F, ∀ {X : Type} (fail : X) (ret : Int → X), J22 F n fail ret = ret (Jbz n) := ⟨0, fun _ ret => Kxc n ret⟩
theorem K6a (n : Int) (h0 : 0 ≤ n) (h1 : n ≤ 9007199254740991) : (max 0 ((J7w n.toNat : Int) - 1)) / 7 = fur n := by
 have k1 := @Jhs n.toNat 7
 have k2 := @Jhs n.toNat 14
 have k3 := @Jhs n.toNat 21
 have k4 := @Jhs n.toNat 28
 have k5 := @Jhs n.toNat 35
 have k6 := @Jhs n.toNat 42
 have k7 := @Jhs n.toNat 49
 have k8 := (@Jhs n.toNat 56).2 (by omega)
 unfold fur
 repeat' split
 all_goals omega
theorem Jwf (n : Int) (h : Jdi n = true) : ∃ F, ∀ {X : Type} (fail : X) (ret : Int → X), Jqa F n fail ret = ret (Jbg n) := ⟨0, fun fail ret => by
 simp only [Jdi, decide_eq_true_eq] at h
 have k8 := (@Jhs n.toNat 56).2 (by omega)
 have e : Krw n = n := Kv4 h.1 (by omega)
 unfold Jqa Jbg
 rw [e, Jaa (by simp only [Jrq, decide_eq_true_eq]; omega)]
 unfold Jrr
 rw [Jde (by omega) (by omega), K5f, Kv0 (by omega) (by omega) (by omega), K6a n h.1 h.2]⟩
theorem K15 {α : Type} (s : List α) (h : s.length ≤ 2000000000) {X : Type} (fail : X) (Jmd : X → X → X) (hb : ∀ x, Jmd x x = x) (ret : List α → X) :
  (bif List.isEmpty s then Jmd (ret []) (bif decide (s.length ≤ big) then ret s else fail) else bif decide (s.length ≤ big) then ret s else fail) = ret s := by
 rw [Jds (by omega)]
 cases s with
 | nil => exact hb _
 | cons a s => rfl
theorem J0a (s : List UInt8) (h : Jbh s = true) : ∃ F, ∀ {X : Type} (fail : X) (Jmd : X → X → X) (_ : ∀ x, Jmd x x = x) (ret : List UInt8 → X), J72 F s fail Jmd ret = ret (Jb4 s) := ⟨0, fun fail Jmd hb ret => by
 simp only [Jbh, decide_eq_true_eq] at h
 exact K15 s h fail Jmd hb ret⟩
theorem Jig (m k : Nat) : (Kpg m k).length = k := by induction k <;> simp_all [Kpg]
theorem Jfl (m : Int) : (J5t m).length ≤ 8 := by
 have := Kf4 m
 simp only [J5t, List.length_cons, Jig]; omega
theorem Kxd (N k : Nat) (hk : k ≤ 8) : Kkn (Kfd (N : Int) (Jll 8 k)) = UInt8.ofNat (N / 2 ^ (8 * k) % 256) := by
 have e : Jll 8 k = ((8 * k : Nat) : Int) := by rw [Ji5 (by omega) (by omega)]; omega
 rw [e, J99 (by omega) (by omega), Kkp, Int.toNat_natCast]
 congr 1
theorem Kp4 {X : Type} (F : Nat) (fail : X) (ex0 : Int → Int → List UInt8 → X) (N : Nat) : ∀ (k m : Nat) (dst : List UInt8), k < m → k ≤ 7 → dst.length + k ≤ 2147483648 →
  Jg6 F fail ex0 m N ((k : Int) - 1) dst = ex0 N (-1) (dst ++ Kpg N k)
 | 0, m + 1, dst, _, _, _ => by
  simp only [Jg6, Jn4]
  rw [Jab (by simp)]
  simp [Kpg]
 | k + 1, m + 1, dst, h1, h2, h3 => by
  simp only [Jg6, Jn4]
  have e : (((k + 1 : Nat) : Int) - 1) = k := by omega
  rw [e, Jaa (by simp), Kxd N k (by omega), Jaa (by rw [Ji5 (by omega) (by omega)]; simp; omega), Jaa (Jds (by simp; omega)), Jde (by omega) (by omega)]
  rw [Kp4 F fail ex0 N k m _ (by omega) (by omega) (by simp; omega)]
  simp [Kpg]
theorem Kxe : ∀ k : Nat, k ≤ 7 → ∀ q : Nat, q < 128 → q < 2 ^ (7 - k) → orB (shlB 255 (8 - (k : Int))) (UInt8.ofNat q) = UInt8.ofNat (256 - 2 ^ (8 - k) + q) := by decide +kernel
theorem Kxf (n : Int) (h0 : 0 ≤ n) (h1 : n ≤ 9007199254740991) : n < 2 ^ (7 * ((fur n).toNat + 1)) := by
 unfold fur
 repeat' split
 all_goals (simp; omega)
theorem K33 (N k : Nat) (h : N < 2 ^ (7 * (k + 1))) (hk : k ≤ 7) : N / 2 ^ (8 * k) < 2 ^ (7 - k) := by
 rw [Nat.div_lt_iff_lt_mul (Nat.pow_pos (by omega)), ← Nat.pow_add]
 have e : 7 - k + 8 * k = 7 * (k + 1) := by omega
 rw [e]; exact h
theorem Kxg (n : Int) (h0 : 0 ≤ n) (h1 : n ≤ 9007199254740991) : ∃ N k : Nat, n = N ∧ fur n = k ∧ k ≤ 7 ∧ N < 2 ^ (7 * (k + 1)) ∧ J5t n = UInt8.ofNat (256 - 2 ^ (8 - k) + N / 2 ^ (8 * k)) :: Kpg N k := by
 have hf := Kf4 n
 have hb := Kxf n h0 h1
 refine ⟨n.toNat, (fur n).toNat, by omega, by omega, by omega, ?_, rfl⟩
 have : ((n.toNat : Nat) : Int) < ((2 ^ (7 * ((fur n).toNat + 1)) : Nat) : Int) := by
  rw [Int.toNat_of_nonneg h0]; simpa using hb
 exact_mod_cast this
theorem J75 (k : Nat) : 2 ^ (7 - k) ≤ 128 := by
 have : 2 ^ (7 - k) ≤ 2 ^ 7 := Nat.pow_le_pow_right (by omega) (by omega)
 omega
theorem J52 (dst : List UInt8) (n : Int) (h : Jj1 dst n = true) : ∃ F, ∀ {X : Type} (fail : X) (ret : List UInt8 → X), Kap F dst n fail ret = ret (Jml dst n) := ⟨9, fun fail ret => by
 simp only [Jj1, decide_eq_true_eq] at h
 have hr := Kln n
 obtain ⟨N, k, e1, e2, hk, hN, he⟩ := Kxg (Jfx n) hr.1 hr.2
 have hq := K33 N k hN hk
 have hq2 := J75 k
 unfold Kap Jml
 simp only [Jbz, Jbg, e1] at *
 rw [e2]
 have hs : Jdj 8 (k : Int) = 8 - (k : Int) := Jde (by omega) (by omega)
 rw [Jaa (by simp only [Jdi, decide_eq_true_eq]; exact hr), hs, Kxd N k (by omega), Jaa (by simp; omega), Jaa (by rw [Ji5 (by omega) (by omega)]; simp; omega)]
 have hmod : N / 2 ^ (8 * k) % 256 = N / 2 ^ (8 * k) := Nat.mod_eq_of_lt (by omega)
 rw [hmod, Kxe k hk _ (by omega) hq, Jaa (Jds (by simp; omega)), Jde (by omega) (by omega), Kp4 _ _ _ N k 9 _ (by omega) hk (by simp; omega), he]
 simp⟩
theorem Jye (dst : List UInt8) (n : Int) (h : Jfy dst n = true) : ∃ F, ∀ {X : Type} (fail : X) (ret : List UInt8 → X), Jt3 F dst n fail ret = ret (Jjh dst n) := ⟨0, fun fail ret => by
 have h' := h
 simp only [Jfy, decide_eq_true_eq] at h'
 unfold Jt3
 rw [Jaa (by simp only [Jbh, decide_eq_true_eq]; exact h'.1), Jaa (by exact h)]
 rfl⟩
theorem K6b (b : UInt8) : ∃ i, i < 256 ∧ b = UInt8.ofNat i := ⟨b.toNat, b.toNat_lt, by simp⟩
theorem K6c : ∀ i : Nat, i < 256 → J5u (UInt8.ofNat i) ≤ 8 := by decide +kernel
theorem K16 : ∀ i : Nat, i < 256 → (8 : Int) - J7w (K0d (UInt8.ofNat i)).toNat = J5u (UInt8.ofNat i) := by decide +kernel
theorem Ksa : ∀ i : Nat, i < 256 → J5u (UInt8.ofNat i) ≤ 7 → andB (UInt8.ofNat i) (shrB 127 (J5u (UInt8.ofNat i) : Int)) = UInt8.ofNat (i - (256 - 2 ^ (8 - J5u (UInt8.ofNat i)))) := by decide +kernel
theorem K17 : ∀ i : Nat, i < 256 → J5u (UInt8.ofNat i) ≤ 7 → i - (256 - 2 ^ (8 - J5u (UInt8.ofNat i))) < 2 ^ (7 - J5u (UInt8.ofNat i)) ∧ 256 - 2 ^ (8 - J5u (UInt8.ofNat i)) ≤ i := by decide +kernel
theorem J26 : ∀ (l : List UInt8) (a s : Nat), a < 2 ^ s → Jd8 a l < 2 ^ (s + 8 * l.length)
 | [], a, s, h => by simpa [Jd8] using h
 | c :: l, a, s, h => by
  have hc := c.toNat_lt
  have e : 2 ^ (s + 8) = 256 * 2 ^ s := by rw [Nat.pow_add]; omega
  have := J26 l (256 * a + c.toNat) (s + 8) (by omega)
  simp only [Jd8, List.foldl_cons, List.length_cons] at this ⊢
  have e2 : s + 8 * (l.length + 1) = s + 8 + 8 * l.length := by omega
  rw [e2]; exact this
theorem Kbi (a : Nat) (l : List UInt8) (c : UInt8) : Jd8 a (l ++ [c]) = 256 * Jd8 a l + c.toNat := by simp [Jd8]
theorem K6d (n : Nat) (c : UInt8) (h : n < 2 ^ 48) : orI (K5e (n : Int) 8) (Jl6 c) = ((256 * n + c.toNat : Nat) : Int) := by
 have hc := c.toNat_lt
 have e : K5e (n : Int) 8 = ((256 * n : Nat) : Int) := by rw [Kv1 (by omega) (by omega) (by simp; omega) (by simp; omega)]; simp; omega
 rw [e, Jxx, K3n (by omega) (by omega)]
 have := Nat.two_pow_add_eq_or_of_lt (i := 8) (b := c.toNat) (by omega) n
 rw [show 256 * n = 2 ^ 8 * n by omega, ← this]
theorem Kp5 {X : Type} (F : Nat) (fail : X) (ex0 : List UInt8 → Int → Int → List UInt8 → Int → Int → X) (src : List UInt8) (k : Int) (a : Nat) (t : List UInt8) (ht : t.length ≤ 7) (ha : a < 2 ^ (7 - t.length)) : ∀ (j m i : Nat), i + j = t.length → j < m →
  Jg7 F fail ex0 m src k (Jd8 a (t.take i) : Nat) t (t.length : Nat) i = ex0 src k (Jd8 a t : Nat) t (t.length : Nat) (t.length : Nat)
 | 0, m + 1, i, h1, h2 => by
  simp only [Jg7, Jn5]
  have e : i = t.length := by omega
  subst e
  rw [Jab (ff (by omega)), List.take_length]
 | j + 1, m + 1, i, h1, h2 => by
  simp only [Jg7, Jn5]
  have hb := J26 (t.take i) a (7 - t.length) ha
  have hl : (t.take i).length = i := by simp; omega
  rw [hl] at hb
  have hp : 2 ^ (7 - t.length + 8 * i) ≤ 2 ^ 48 := Nat.pow_le_pow_right (by omega) (by omega)
  rw [Jaa (tt (by omega)), Jaa (tt2 (by omega) (by omega)), Int.toNat_natCast, K6d _ _ (by omega), ← Kbi, ← Jhm t i 0 (by omega), Jar (by omega) (by omega)]
  exact Kp5 F fail ex0 src k a t ht ha j m (i + 1) (by omega) (by omega)
theorem J53 (src : List UInt8) (h : Jef src = true) : ∃ F, ∀ {X : Type} (fail : X) (ret : Int → List UInt8 → Int → X), Kaq F src fail ret = ret (Jan src) (Jam src) (Ja9 src) := ⟨9, fun fail ret => by
 simp only [Jef, decide_eq_true_eq] at h
 cases src with
 | nil => rfl
 | cons b r =>
  obtain ⟨i, hi, rfl⟩ := K6b b
  have hle := K6c i hi
  have hnot := K16 i hi
  have hfst := Ksa i hi
  have hflt := K17 i hi
  have hi2 : (UInt8.ofNat i).toNat = i := by simp; omega
  simp only [Jan, Jam, Ja9, Jb0, hi2]
  unfold Kaq
  simp only [List.length_cons, Jaw, show List.getD (UInt8.ofNat i :: r) 0 (0 : UInt8) = UInt8.ofNat i from rfl, hnot]
  generalize hk : J5u (UInt8.ofNat i) = k at *
  rw [Jab (Jpi (by omega)), Jaa (tt (by omega))]
  by_cases h8 : k = 8
  ·rw [if_pos h8, Jaa (tt (by omega))]
  rw [if_neg h8, Jab (ff (by omega))]
  have hflt := hflt (by omega)
  by_cases hr : r.length < k
  ·rw [if_pos hr, Jaa (tt (by omega))]
  rw [if_neg hr, Jab (ff (by omega)), Jaa (tt (by omega)), Jaa (tt (by omega)), Jar (by omega) (by omega), Jaa (tt2 (by omega) (by omega)), hfst (by omega)]
  have et : List.drop 1 (List.take ((k : Int) + 1).toNat (UInt8.ofNat i :: r)) = r.take k := by
   rw [show ((k : Int) + 1).toNat = k + 1 by omega]; rfl
  have ht : (r.take k).length = k := by simp; omega
  have hc : Jl6 (UInt8.ofNat (i - (256 - 2 ^ (8 - k)))) = ((i - (256 - 2 ^ (8 - k)) : Nat) : Int) := by
   rw [Jxx]; simp; omega
  rw [et, hc]
  have hloop := Kp5 9 fail (fun (src1 : List UInt8) (k : Int) (n : Int) (s33 : List UInt8) (s34 : Int) (s35 : Int) =>
   bif (decide (n > (9007199254740991 : Int))) then ret (0 : Int) ([] : List UInt8) (3 : Int)
   else bif (Jdi n) then bif ((Jbg n) != k) then ret (0 : Int) ([] : List UInt8) (3 : Int)
   else bif ((decide ((0 : Int) ≤ (Jat k (1 : Int)))) && (decide ((Jat k (1 : Int)) ≤ ((src1.length : Nat) : Int)))) then
   bif (Jbh (List.drop ((Jat k (1 : Int))).toNat src1)) then ret n (Jb4 (List.drop ((Jat k (1 : Int))).toNat src1)) (0 : Int)
   else fail else fail else fail) (UInt8.ofNat i :: r) k (i - (256 - 2 ^ (8 - k))) (r.take k) (by omega) (by rw [ht]; exact hflt.1) k 9 0 (by omega) (by omega)
  simp only [List.take_zero] at hloop
  have hb0 : Jd8 (i - (256 - 2 ^ (8 - k))) [] = i - (256 - 2 ^ (8 - k)) := rfl
  rw [hb0] at hloop
  refine hloop.trans ?_
  clear hloop
  generalize hn : Jd8 (i - (256 - 2 ^ (8 - k))) (r.take k) = n
  by_cases h1 : (n : Int) > 9007199254740991
  ·rw [Jaa (tt h1), if_pos (.inl h1)]
  rw [Jab (ff h1), Jaa (by simp only [Jdi, decide_eq_true_eq]; omega)]
  by_cases h2 : fur (n : Int) = k
  ·rw [if_neg (by unfold Kpf; omega)]
   simp only [Jbg]
   rw [h2, Jab (Jhl rfl), Jar (by omega) (by omega), Jaa (tt2 (by omega) (by simp; omega)), Jaa (c := Jbh _) (tt (by simp only [List.length_drop, List.length_cons] at h ⊢; omega))]
   rw [show ((k : Int) + 1).toNat = k + 1 by omega]
   rfl
  ·rw [if_pos (.inr h2)]
   simp only [Jbg]
   rw [Jaa (Jkp h2)]⟩
end Go.AI
