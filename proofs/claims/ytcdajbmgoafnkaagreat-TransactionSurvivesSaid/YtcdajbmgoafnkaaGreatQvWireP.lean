/- Texts of the proof, joined: WireP. Names of our own are shortened by program; the long ones stand in wip/. -/
import Derived.Test.YtcdajbmgoafnkaaGreatQvG
namespace Go.AI
open Go
theorem Kma (n : Int) : 0 ≤ Jf9 n ∧ Jf9 n ≤ 9007199254740991 := by
 unfold Jf9
 by_cases h1 : n < 0 <;> by_cases h2 : n > 9007199254740991 <;> simp [h1, h2] <;> omega
theorem Kcd {n : Int} (h0 : 0 ≤ n) (h1 : n ≤ 9007199254740991) : Jf9 n = n := by
 unfold Jf9
 have a : ¬ n < 0 := by omega
 have b : ¬ n > 9007199254740991 := by omega
 simp [a, b]
theorem Kgt (m : Int) : 0 ≤ fur m ∧ fur m ≤ 7 := by
 unfold fur; repeat' split
 all_goals omega
theorem Jh3 {n k : Nat} : J8q n ≤ k ↔ n < 2 ^ k := by
 unfold J8q
 split
 ·rename_i h; subst h; simp [Nat.pow_pos]
 ·rename_i h
  rw [← Nat.log2_lt h]; omega
theorem Ks6 (n s : Nat) (h : 2 ^ s ≤ n) : J8q n = s + J8q (n / 2 ^ s) := by
 have key : ∀ k, J8q n ≤ s + k ↔ J8q (n / 2 ^ s) ≤ k := by
  intro k
  rw [Jh3, Jh3, Nat.pow_add, Nat.div_lt_iff_lt_mul (Nat.pow_pos (by omega)), Nat.mul_comm]
 have h1 : s ≤ J8q n := by
  rcases Nat.lt_or_ge (J8q n) s with h2 | h2
  ·have : n < 2 ^ s := Jh3.1 (by omega)
   omega
  ·exact h2
 have h2 := (key (J8q n - s)).1 (by omega)
 have h3 := (key (J8q (n / 2 ^ s))).2 (Nat.le_refl _)
 omega
theorem Kyd : Jbx.length = 256 := by decide +kernel
theorem K5k : ∀ i, i < 256 → (Jbx.getD i 0).toNat = J8q i := by decide +kernel
theorem Jho {X : Type} (x y : Int) (s : Nat) (hy : y = x / 2 ^ s) (h0 : 0 ≤ x) (h : y < 256) (hs : s = 0 ∨ 1 ≤ y) (hs' : s ≤ 56) (fail : X) (ret : Int → X) :
  (bif ((decide ((0 : Int) ≤ (((Jth y).toNat : Nat) : Int))) && (decide ((((Jth y).toNat : Nat) : Int) < ((Jbx.length : Nat) : Int)))) then
   ret (Jay (s : Int) (Jyh (List.getD Jbx (Jth y).toNat (0 : UInt8)))) else fail) = ret (J8q x.toNat : Int) := by
 have hy0 : 0 ≤ y := by rw [hy]; exact Int.ediv_nonneg h0 (Int.le_of_lt (Int.pow_pos (by omega)))
 have e1 : (Jth y).toNat = y.toNat := by
  rw [Kw2, UInt8.toNat_ofNat']; omega
 rw [e1, Kyd, Jaa (by simp; omega), Jyi, K5k _ (by omega)]
 have hl : J8q y.toNat ≤ 8 := Jh3.2 (by omega)
 rw [Jam (by omega) (by omega)]
 have e2 : y.toNat = x.toNat / 2 ^ s := by
  obtain ⟨n, rfl⟩ := Int.eq_ofNat_of_zero_le h0
  have : ((2 : Int) ^ s) = ((2 ^ s : Nat) : Int) := by simp
  rw [hy, this, ← Int.natCast_ediv]
  rw [Int.toNat_natCast, Int.toNat_natCast]
 rcases hs with hs | hs
 ·subst hs
  simp at e2
  rw [e2]; simp
 ·have : 2 ^ s ≤ x.toNat := by
   rcases Nat.lt_or_ge x.toNat (2 ^ s) with h2 | h2
   ·rw [Nat.div_eq_of_lt h2] at e2; omega
   ·exact h2
  rw [Ks6 _ s this, ← e2]; simp
theorem J0v (x : Int) (h : Jmb x = true) : ∃ F, ∀ {X : Type} (fail : X) (ret : Int → X), Jyq F x fail ret = ret (Jqq x) := ⟨0, fun fail ret => by
 simp only [Jmb, decide_eq_true_eq] at h
 have e32 : ∀ a : Int, Jkj a 32 = a / 4294967296 := fun a => Ka4 (by omega) (by omega)
 have e16 : ∀ a : Int, Jkj a 16 = a / 65536 := fun a => Ka4 (by omega) (by omega)
 have e8 : ∀ a : Int, Jkj a 8 = a / 256 := fun a => Ka4 (by omega) (by omega)
 unfold Jyq
 simp only [e32, e16, e8, Bool.cond_decide]
 repeat' split
 ·exact Jho x _ 56 (by omega) h.1 (by omega) (.inr (by omega)) (by omega) fail ret
 ·exact Jho x _ 48 (by omega) h.1 (by omega) (.inr (by omega)) (by omega) fail ret
 ·exact Jho x _ 40 (by omega) h.1 (by omega) (.inr (by omega)) (by omega) fail ret
 ·exact Jho x _ 32 (by omega) h.1 (by omega) (.inr (by omega)) (by omega) fail ret
 ·exact Jho x _ 24 (by omega) h.1 (by omega) (.inr (by omega)) (by omega) fail ret
 ·exact Jho x _ 16 (by omega) h.1 (by omega) (.inr (by omega)) (by omega) fail ret
 ·exact Jho x _ 8 (by omega) h.1 (by omega) (.inr (by omega)) (by omega) fail ret
 ·exact Jho x x 0 (by simp) h.1 (by omega) (.inl rfl) (by omega) fail ret⟩
theorem J3u (x : UInt8) : ∃ F, ∀ {X : Type} (fail : X) (ret : Int → X), J3q F x fail ret = ret (Joc x) := ⟨0, fun fail ret => by
 have h := x.toNat_lt
 unfold J3q
 rw [Kyd, Jaa (by simp; omega), Jyi, K5k _ h]; rfl⟩
theorem J6w (x : Int) (_ : Jsa x = true) : ∃ F, ∀ {X : Type} (fail : X) (ret : Int → X), Kbj F x fail ret = ret (Jsb x) := ⟨0, fun fail ret => by
 rename_i h _
 unfold Kbj
 rw [Jaa (by exact h)]; rfl⟩
theorem Jni (x : UInt8) : ∃ F, ∀ {X : Type} (fail : X) (ret : Int → X), Jh2 F x fail ret = ret (Ja0 x) := ⟨0, fun fail ret => by
 have h := x.toNat_lt
 have hl : J8q x.toNat ≤ 8 := Jh3.2 (by omega)
 unfold Jh2 Ja0 Joc
 rw [Jdo (by omega) (by omega)]⟩
theorem Kye {X : Type} (n : Int) (ret : Int → X) : (bif decide (n < 0) then ret 0 else bif decide (n > 9007199254740991) then ret 0 else ret n) = ret (Jf9 n) := by
 unfold Jf9
 cases decide (n < 0) <;> cases decide (n > 9007199254740991) <;> rfl
theorem Jyw (n : Int) : ∃ F, ∀ {X : Type} (fail : X) (ret : Int → X), J3r F n fail ret = ret (Jca n) := ⟨0, fun _ ret => Kye n ret⟩
theorem K7q (n : Int) (h0 : 0 ≤ n) (h1 : n ≤ 9007199254740991) : (max 0 ((J8q n.toNat : Int) - 1)) / 7 = fur n := by
 have k1 := @Jh3 n.toNat 7
 have k2 := @Jh3 n.toNat 14
 have k3 := @Jh3 n.toNat 21
 have k4 := @Jh3 n.toNat 28
 have k5 := @Jh3 n.toNat 35
 have k6 := @Jh3 n.toNat 42
 have k7 := @Jh3 n.toNat 49
 have k8 := (@Jh3 n.toNat 56).2 (by omega)
 unfold fur
 repeat' split
 all_goals omega
theorem Jwy (n : Int) (h : Jdy n = true) : ∃ F, ∀ {X : Type} (fail : X) (ret : Int → X), Jqx F n fail ret = ret (Jbs n) := ⟨0, fun fail ret => by
 simp only [Jdy, decide_eq_true_eq] at h
 have k8 := (@Jh3 n.toNat 56).2 (by omega)
 have e : Kss n = n := Kw3 h.1 (by omega)
 unfold Jqx Jbs
 rw [e, Jaa (by simp only [Jsa, decide_eq_true_eq]; omega)]
 unfold Jsb
 rw [Jdo (by omega) (by omega), K6w, Kwz (by omega) (by omega) (by omega), K7q n h.1 h.2]⟩
theorem K3j {α : Type} (s : List α) (h : s.length ≤ 2000000000) {X : Type} (fail : X) (Jmt : X → X → X) (hb : ∀ x, Jmt x x = x) (ret : List α → X) :
  (bif List.isEmpty s then Jmt (ret []) (bif decide (s.length ≤ big) then ret s else fail) else bif decide (s.length ≤ big) then ret s else fail) = ret s := by
 rw [Jem (by omega)]
 cases s with
 | nil => exact hb _
 | cons a s => rfl
theorem J0w (s : List UInt8) (h : Jbt s = true) : ∃ F, ∀ {X : Type} (fail : X) (Jmt : X → X → X) (_ : ∀ x, Jmt x x = x) (ret : List UInt8 → X), J8x F s fail Jmt ret = ret (Jch s) := ⟨0, fun fail Jmt hb ret => by
 simp only [Jbt, decide_eq_true_eq] at h
 exact K3j s h fail Jmt hb ret⟩
theorem Jir (m k : Nat) : (Kp7 m k).length = k := by induction k <;> simp_all [Kp7]
theorem Jfx (m : Int) : (J6p m).length ≤ 8 := by
 have := Kgt m
 simp only [J6p, List.length_cons, Jir]; omega
theorem Kyf (N k : Nat) (hk : k ≤ 8) : Kld (Kf5 (N : Int) (Jl4 8 k)) = UInt8.ofNat (N / 2 ^ (8 * k) % 256) := by
 have e : Jl4 8 k = ((8 * k : Nat) : Int) := by rw [Jji (by omega) (by omega)]; omega
 rw [e, Ka3 (by omega) (by omega), Klf, Int.toNat_natCast]
 congr 1
theorem Kqx {X : Type} (F : Nat) (fail : X) (ex0 : Int → Int → List UInt8 → X) (N : Nat) : ∀ (k m : Nat) (dst : List UInt8), k < m → k ≤ 7 → dst.length + k ≤ 2147483648 →
  Jhj F fail ex0 m N ((k : Int) - 1) dst = ex0 N (-1) (dst ++ Kp7 N k)
 | 0, m + 1, dst, _, _, _ => by
  simp only [Jhj, Joo]
  rw [Jab (by simp)]
  simp [Kp7]
 | k + 1, m + 1, dst, h1, h2, h3 => by
  simp only [Jhj, Joo]
  have e : (((k + 1 : Nat) : Int) - 1) = k := by omega
  rw [e, Jaa (by simp), Kyf N k (by omega), Jaa (by rw [Jji (by omega) (by omega)]; simp; omega), Jaa (Jem (by simp; omega)), Jdo (by omega) (by omega)]
  rw [Kqx F fail ex0 N k m _ (by omega) (by omega) (by simp; omega)]
  simp [Kp7]
theorem Kyg : ∀ k : Nat, k ≤ 7 → ∀ q : Nat, q < 128 → q < 2 ^ (7 - k) → orB (shlB 255 (8 - (k : Int))) (UInt8.ofNat q) = UInt8.ofNat (256 - 2 ^ (8 - k) + q) := by decide +kernel
theorem Kyh (n : Int) (h0 : 0 ≤ n) (h1 : n ≤ 9007199254740991) : n < 2 ^ (7 * ((fur n).toNat + 1)) := by
 unfold fur
 repeat' split
 all_goals (simp; omega)
theorem K5l (N k : Nat) (h : N < 2 ^ (7 * (k + 1))) (hk : k ≤ 7) : N / 2 ^ (8 * k) < 2 ^ (7 - k) := by
 rw [Nat.div_lt_iff_lt_mul (Nat.pow_pos (by omega)), ← Nat.pow_add]
 have e : 7 - k + 8 * k = 7 * (k + 1) := by omega
 rw [e]; exact h
theorem Kyi (n : Int) (h0 : 0 ≤ n) (h1 : n ≤ 9007199254740991) : ∃ N k : Nat, n = N ∧ fur n = k ∧ k ≤ 7 ∧ N < 2 ^ (7 * (k + 1)) ∧ J6p n = UInt8.ofNat (256 - 2 ^ (8 - k) + N / 2 ^ (8 * k)) :: Kp7 N k := by
 have hf := Kgt n
 have hb := Kyh n h0 h1
 refine ⟨n.toNat, (fur n).toNat, by omega, by omega, by omega, ?_, rfl⟩
 have : ((n.toNat : Nat) : Int) < ((2 ^ (7 * ((fur n).toNat + 1)) : Nat) : Int) := by
  rw [Int.toNat_of_nonneg h0]; simpa using hb
 exact_mod_cast this
theorem J80 (k : Nat) : 2 ^ (7 - k) ≤ 128 := by
 have : 2 ^ (7 - k) ≤ 2 ^ 7 := Nat.pow_le_pow_right (by omega) (by omega)
 omega
theorem J6x (dst : List UInt8) (n : Int) (h : Jkk dst n = true) : ∃ F, ∀ {X : Type} (fail : X) (ret : List UInt8 → X), Kbk F dst n fail ret = ret (Jm1 dst n) := ⟨9, fun fail ret => by
 simp only [Jkk, decide_eq_true_eq] at h
 have hr := Kma n
 obtain ⟨N, k, e1, e2, hk, hN, he⟩ := Kyi (Jf9 n) hr.1 hr.2
 have hq := K5l N k hN hk
 have hq2 := J80 k
 unfold Kbk Jm1
 simp only [Jca, Jbs, e1] at *
 rw [e2]
 have hs : Jb3 8 (k : Int) = 8 - (k : Int) := Jdo (by omega) (by omega)
 rw [Jaa (by simp only [Jdy, decide_eq_true_eq]; exact hr), hs, Kyf N k (by omega), Jaa (by simp; omega), Jaa (by rw [Jji (by omega) (by omega)]; simp; omega)]
 have hmod : N / 2 ^ (8 * k) % 256 = N / 2 ^ (8 * k) := Nat.mod_eq_of_lt (by omega)
 rw [hmod, Kyg k hk _ (by omega) hq, Jaa (Jem (by simp; omega)), Jdo (by omega) (by omega), Kqx _ _ _ N k 9 _ (by omega) hk (by simp; omega), he]
 simp⟩
theorem Jyx (dst : List UInt8) (n : Int) (h : Jga dst n = true) : ∃ F, ∀ {X : Type} (fail : X) (ret : List UInt8 → X), Jus F dst n fail ret = ret (Jjy dst n) := ⟨0, fun fail ret => by
 have h' := h
 simp only [Jga, decide_eq_true_eq] at h'
 unfold Jus
 rw [Jaa (by simp only [Jbt, decide_eq_true_eq]; exact h'.1), Jaa (by exact h)]
 rfl⟩
theorem K7r (b : UInt8) : ∃ i, i < 256 ∧ b = UInt8.ofNat i := ⟨b.toNat, b.toNat_lt, by simp⟩
theorem K7s : ∀ i : Nat, i < 256 → J6q (UInt8.ofNat i) ≤ 8 := by decide +kernel
theorem K3k : ∀ i : Nat, i < 256 → (8 : Int) - J8q (K1u (UInt8.ofNat i)).toNat = J6q (UInt8.ofNat i) := by decide +kernel
theorem Ks7 : ∀ i : Nat, i < 256 → J6q (UInt8.ofNat i) ≤ 7 → andB (UInt8.ofNat i) (shrB 127 (J6q (UInt8.ofNat i) : Int)) = UInt8.ofNat (i - (256 - 2 ^ (8 - J6q (UInt8.ofNat i)))) := by decide +kernel
theorem K3l : ∀ i : Nat, i < 256 → J6q (UInt8.ofNat i) ≤ 7 → i - (256 - 2 ^ (8 - J6q (UInt8.ofNat i))) < 2 ^ (7 - J6q (UInt8.ofNat i)) ∧ 256 - 2 ^ (8 - J6q (UInt8.ofNat i)) ≤ i := by decide +kernel
theorem J3v : ∀ (l : List UInt8) (a s : Nat), a < 2 ^ s → Jeo a l < 2 ^ (s + 8 * l.length)
 | [], a, s, h => by simpa [Jeo] using h
 | c :: l, a, s, h => by
  have hc := c.toNat_lt
  have e : 2 ^ (s + 8) = 256 * 2 ^ s := by rw [Nat.pow_add]; omega
  have := J3v l (256 * a + c.toNat) (s + 8) (by omega)
  simp only [Jeo, List.foldl_cons, List.length_cons] at this ⊢
  have e2 : s + 8 * (l.length + 1) = s + 8 + 8 * l.length := by omega
  rw [e2]; exact this
theorem Kce (a : Nat) (l : List UInt8) (c : UInt8) : Jeo a (l ++ [c]) = 256 * Jeo a l + c.toNat := by simp [Jeo]
theorem K7t (n : Nat) (c : UInt8) (h : n < 2 ^ 48) : orI (K6v (n : Int) 8) (Jyh c) = ((256 * n + c.toNat : Nat) : Int) := by
 have hc := c.toNat_lt
 have e : K6v (n : Int) 8 = ((256 * n : Nat) : Int) := by rw [Kw0 (by omega) (by omega) (by simp; omega) (by simp; omega)]; simp; omega
 rw [e, Jyi, K42 (by omega) (by omega)]
 have := Nat.two_pow_add_eq_or_of_lt (i := 8) (b := c.toNat) (by omega) n
 rw [show 256 * n = 2 ^ 8 * n by omega, ← this]
theorem Kqy {X : Type} (F : Nat) (fail : X) (ex0 : List UInt8 → Int → Int → List UInt8 → Int → Int → X) (src : List UInt8) (k : Int) (a : Nat) (t : List UInt8) (ht : t.length ≤ 7) (ha : a < 2 ^ (7 - t.length)) : ∀ (j m i : Nat), i + j = t.length → j < m →
  Jhk F fail ex0 m src k (Jeo a (t.take i) : Nat) t (t.length : Nat) i = ex0 src k (Jeo a t : Nat) t (t.length : Nat) (t.length : Nat)
 | 0, m + 1, i, h1, h2 => by
  simp only [Jhk, Jop]
  have e : i = t.length := by omega
  subst e
  rw [Jab (ff (by omega)), List.take_length]
 | j + 1, m + 1, i, h1, h2 => by
  simp only [Jhk, Jop]
  have hb := J3v (t.take i) a (7 - t.length) ha
  have hl : (t.take i).length = i := by simp; omega
  rw [hl] at hb
  have hp : 2 ^ (7 - t.length + 8 * i) ≤ 2 ^ 48 := Nat.pow_le_pow_right (by omega) (by omega)
  rw [Jaa (tt (by omega)), Jaa (tt2 (by omega) (by omega)), Int.toNat_natCast, K7t _ _ (by omega), ← Kce, ← Jfe t i 0 (by omega), Jam (by omega) (by omega)]
  exact Kqy F fail ex0 src k a t ht ha j m (i + 1) (by omega) (by omega)
theorem J6y (src : List UInt8) (h : Jeu src = true) : ∃ F, ∀ {X : Type} (fail : X) (ret : Int → List UInt8 → Int → X), Kbl F src fail ret = ret (Jao src) (Jal src) (Jbi src) := ⟨9, fun fail ret => by
 simp only [Jeu, decide_eq_true_eq] at h
 cases src with
 | nil => rfl
 | cons b r =>
  obtain ⟨i, hi, rfl⟩ := K7r b
  have hle := K7s i hi
  have hnot := K3k i hi
  have hfst := Ks7 i hi
  have hflt := K3l i hi
  have hi2 : (UInt8.ofNat i).toNat = i := by simp; omega
  simp only [Jao, Jal, Jbi, Jcc, hi2]
  unfold Kbl
  simp only [List.length_cons, Ja0, show List.getD (UInt8.ofNat i :: r) 0 (0 : UInt8) = UInt8.ofNat i from rfl, hnot]
  generalize hk : J6q (UInt8.ofNat i) = k at *
  rw [Jab (Jjv (by omega)), Jaa (tt (by omega))]
  by_cases h8 : k = 8
  ·rw [if_pos h8, Jaa (tt (by omega))]
  rw [if_neg h8, Jab (ff (by omega))]
  have hflt := hflt (by omega)
  by_cases hr : r.length < k
  ·rw [if_pos hr, Jaa (tt (by omega))]
  rw [if_neg hr, Jab (ff (by omega)), Jaa (tt (by omega)), Jaa (tt (by omega)), Jam (by omega) (by omega), Jaa (tt2 (by omega) (by omega)), hfst (by omega)]
  have et : List.drop 1 (List.take ((k : Int) + 1).toNat (UInt8.ofNat i :: r)) = r.take k := by
   rw [show ((k : Int) + 1).toNat = k + 1 by omega]; rfl
  have ht : (r.take k).length = k := by simp; omega
  have hc : Jyh (UInt8.ofNat (i - (256 - 2 ^ (8 - k)))) = ((i - (256 - 2 ^ (8 - k)) : Nat) : Int) := by
   rw [Jyi]; simp; omega
  rw [et, hc]
  have hloop := Kqy 9 fail (fun (src1 : List UInt8) (k : Int) (n : Int) (s33 : List UInt8) (s34 : Int) (s35 : Int) =>
   bif (decide (n > (9007199254740991 : Int))) then ret (0 : Int) ([] : List UInt8) (3 : Int)
   else bif (Jdy n) then bif ((Jbs n) != k) then ret (0 : Int) ([] : List UInt8) (3 : Int)
   else bif ((decide ((0 : Int) ≤ (Jay k (1 : Int)))) && (decide ((Jay k (1 : Int)) ≤ ((src1.length : Nat) : Int)))) then
   bif (Jbt (List.drop ((Jay k (1 : Int))).toNat src1)) then ret n (Jch (List.drop ((Jay k (1 : Int))).toNat src1)) (0 : Int)
   else fail else fail else fail) (UInt8.ofNat i :: r) k (i - (256 - 2 ^ (8 - k))) (r.take k) (by omega) (by rw [ht]; exact hflt.1) k 9 0 (by omega) (by omega)
  simp only [List.take_zero] at hloop
  have hb0 : Jeo (i - (256 - 2 ^ (8 - k))) [] = i - (256 - 2 ^ (8 - k)) := rfl
  rw [hb0] at hloop
  refine hloop.trans ?_
  clear hloop
  generalize hn : Jeo (i - (256 - 2 ^ (8 - k))) (r.take k) = n
  by_cases h1 : (n : Int) > 9007199254740991
  ·rw [Jaa (tt h1), if_pos (.inl h1)]
  rw [Jab (ff h1), Jaa (by simp only [Jdy, decide_eq_true_eq]; omega)]
  by_cases h2 : fur (n : Int) = k
  ·rw [if_neg (by unfold Kp6; omega)]
   simp only [Jbs]
   rw [h2, Jab (Jf8 rfl), Jam (by omega) (by omega), Jaa (tt2 (by omega) (by simp; omega)), Jaa (c := Jbt _) (tt (by simp only [List.length_drop, List.length_cons] at h ⊢; omega))]
   rw [show ((k : Int) + 1).toNat = k + 1 by omega]
   rfl
  ·rw [if_pos (.inr h2)]
   simp only [Jbs]
   rw [Jaa (Jjj h2)]⟩
end Go.AI
