/- Texts of the proof, joined: WireP. Names of our own are shortened by program; the long ones stand in wip/. -/
import Derived.Test.YtcdajbmgoafnkaaGreatQrG
namespace Go.AI
open Go
theorem Kbf (n : Int) : 0 ≤ Jfn n ∧ Jfn n ≤ 9007199254740991 := by
 unfold Jfn
 by_cases h1 : n < 0 <;> by_cases h2 : n > 9007199254740991 <;> simp [h1, h2] <;> omega
theorem Qis {n : Int} (h0 : 0 ≤ n) (h1 : n ≤ 9007199254740991) : Jfn n = n := by
 unfold Jfn
 have a : ¬ n < 0 := by omega
 have b : ¬ n > 9007199254740991 := by omega
 simp [a, b]
theorem Kbg (m : Int) : 0 ≤ fur m ∧ fur m ≤ 7 := by
 unfold fur; repeat' split
 all_goals omega
theorem Jjv {n k : Nat} : Kie n ≤ k ↔ n < 2 ^ k := by
 unfold Kie
 split
 ·rename_i h; subst h; simp [Nat.pow_pos]
 ·rename_i h
  rw [← Nat.log2_lt h]; omega
theorem K7a (n s : Nat) (h : 2 ^ s ≤ n) : Kie n = s + Kie (n / 2 ^ s) := by
 have key : ∀ k, Kie n ≤ s + k ↔ Kie (n / 2 ^ s) ≤ k := by
  intro k
  rw [Jjv, Jjv, Nat.pow_add, Nat.div_lt_iff_lt_mul (Nat.pow_pos (by omega)), Nat.mul_comm]
 have h1 : s ≤ Kie n := by
  rcases Nat.lt_or_ge (Kie n) s with h2 | h2
  ·have : n < 2 ^ s := Jjv.1 (by omega)
   omega
  ·exact h2
 have h2 := (key (Kie n - s)).1 (by omega)
 have h3 := (key (Kie (n / 2 ^ s))).2 (Nat.le_refl _)
 omega
theorem Qc6 : Jb1.length = 256 := by decide +kernel
theorem Qkl : ∀ i, i < 256 → (Jb1.getD i 0).toNat = Kie i := by decide +kernel
theorem Jjh {X : Type} (x y : Int) (s : Nat) (hy : y = x / 2 ^ s) (h0 : 0 ≤ x) (h : y < 256) (hs : s = 0 ∨ 1 ≤ y) (hs' : s ≤ 56) (fail : X) (ret : Int → X) :
  (bif ((decide ((0 : Int) ≤ (((Jt8 y).toNat : Nat) : Int))) && (decide ((((Jt8 y).toNat : Nat) : Int) < ((Jb1.length : Nat) : Int)))) then
   ret (Jag (s : Int) (Ke2 (List.getD Jb1 (Jt8 y).toNat (0 : UInt8)))) else fail) = ret (Kie x.toNat : Int) := by
 have hy0 : 0 ≤ y := by rw [hy]; exact Int.ediv_nonneg h0 (Int.le_of_lt (Int.pow_pos (by omega)))
 have e1 : (Jt8 y).toNat = y.toNat := by
  rw [Kx6, UInt8.toNat_ofNat']; omega
 rw [e1, Qc6, Jaa (by simp; omega), Jt9, Qkl _ (by omega)]
 have hl : Kie y.toNat ≤ 8 := Jjv.2 (by omega)
 rw [Jai (by omega) (by omega)]
 have e2 : y.toNat = x.toNat / 2 ^ s := by
  obtain ⟨n, rfl⟩ := Int.eq_ofNat_of_zero_le h0
  have : ((2 : Int) ^ s) = ((2 ^ s : Nat) : Int) := by simp
  rw [hy, this, ← Int.natCast_ediv]
  rw [Int.toNat_natCast, Int.toNat_natCast]
 rcases hs with hs | hs
 ·subst hs
  simp at e2
  rw [e2]; simp
 ·have : 2 ^ s ≤ x.toNat := by
   rcases Nat.lt_or_ge x.toNat (2 ^ s) with h2 | h2
   ·rw [Nat.div_eq_of_lt h2] at e2; omega
   ·exact h2
  rw [K7a _ s this, ← e2]; simp
theorem J7h (x : Int) (h : Joz x = true) : ∃ F, ∀ {X : Type} (fail : X) (ret : Int → X), J4e F x fail ret = ret (Jud x) := ⟨0, fun fail ret => by
 simp only [Joz, decide_eq_true_eq] at h
 have e32 : ∀ a : Int, Jls a 32 = a / 4294967296 := fun a => Kat (by omega) (by omega)
 have e16 : ∀ a : Int, Jls a 16 = a / 65536 := fun a => Kat (by omega) (by omega)
 have e8 : ∀ a : Int, Jls a 8 = a / 256 := fun a => Kat (by omega) (by omega)
 unfold J4e
 simp only [e32, e16, e8, Bool.cond_decide]
 repeat' split
 ·exact Jjh x _ 56 (by omega) h.1 (by omega) (.inr (by omega)) (by omega) fail ret
 ·exact Jjh x _ 48 (by omega) h.1 (by omega) (.inr (by omega)) (by omega) fail ret
 ·exact Jjh x _ 40 (by omega) h.1 (by omega) (.inr (by omega)) (by omega) fail ret
 ·exact Jjh x _ 32 (by omega) h.1 (by omega) (.inr (by omega)) (by omega) fail ret
 ·exact Jjh x _ 24 (by omega) h.1 (by omega) (.inr (by omega)) (by omega) fail ret
 ·exact Jjh x _ 16 (by omega) h.1 (by omega) (.inr (by omega)) (by omega) fail ret
 ·exact Jjh x _ 8 (by omega) h.1 (by omega) (.inr (by omega)) (by omega) fail ret
 ·exact Jjh x x 0 (by simp) h.1 (by omega) (.inl rfl) (by omega) fail ret⟩
theorem Kbh (x : UInt8) : ∃ F, ∀ {X : Type} (fail : X) (ret : Int → X), Ka6 F x fail ret = ret (Jrr x) := ⟨0, fun fail ret => by
 have h := x.toNat_lt
 unfold Ka6
 rw [Qc6, Jaa (by simp; omega), Jt9, Qkl _ h]; rfl⟩
theorem Kff (x : Int) (_ : Jwj x = true) : ∃ F, ∀ {X : Type} (fail : X) (ret : Int → X), Klx F x fail ret = ret (Jwk x) := ⟨0, fun fail ret => by
 rename_i h _
 unfold Klx
 rw [Jaa (by exact h)]; rfl⟩
theorem Jqv (x : UInt8) : ∃ F, ∀ {X : Type} (fail : X) (ret : Int → X), Jju F x fail ret = ret (Ja4 x) := ⟨0, fun fail ret => by
 have h := x.toNat_lt
 have hl : Kie x.toNat ≤ 8 := Jjv.2 (by omega)
 unfold Jju Ja4 Jrr
 rw [Jca (by omega) (by omega)]⟩
theorem Kru {X : Type} (n : Int) (ret : Int → X) : (bif decide (n < 0) then ret 0 else bif decide (n > 9007199254740991) then ret 0 else ret n) = ret (Jfn n) := by
 unfold Jfn
 cases decide (n < 0) <;> cases decide (n > 9007199254740991) <;> rfl
theorem J4l (n : Int) : ∃ F, ∀ {X : Type} (fail : X) (ret : Int → X), Ka7 F n fail ret = ret (Jcb n) := ⟨0, fun _ ret => Kru n ret⟩
theorem J2f (n : Int) : ∃ F, ∀ {X : Type} (fail : X) (ret : Int → X), J6g F n fail ret = ret (Jpp n) := ⟨0, fun _ ret => Kru n ret⟩
theorem Qmx (n : Int) (h0 : 0 ≤ n) (h1 : n ≤ 9007199254740991) : (max 0 ((Kie n.toNat : Int) - 1)) / 7 = fur n := by
 have k1 := @Jjv n.toNat 7
 have k2 := @Jjv n.toNat 14
 have k3 := @Jjv n.toNat 21
 have k4 := @Jjv n.toNat 28
 have k5 := @Jjv n.toNat 35
 have k6 := @Jjv n.toNat 42
 have k7 := @Jjv n.toNat 49
 have k8 := (@Jjv n.toNat 56).2 (by omega)
 unfold fur
 repeat' split
 all_goals omega
theorem J2g (n : Int) (h : Jd5 n = true) : ∃ F, ∀ {X : Type} (fail : X) (ret : Int → X), Juk F n fail ret = ret (Jbo n) := ⟨0, fun fail ret => by
 simp only [Jd5, decide_eq_true_eq] at h
 have k8 := (@Jjv n.toNat 56).2 (by omega)
 have e : Kib n = n := Kx7 h.1 (by omega)
 unfold Juk Jbo
 rw [e, Jaa (by simp only [Jwj, decide_eq_true_eq]; omega)]
 unfold Jwk
 rw [Jca (by omega) (by omega), Qlo, Jrp (by omega) (by omega) (by omega), Qmx n h.1 h.2]⟩
theorem Qit {α : Type} (s : List α) (h : s.length ≤ 2000000000) {X : Type} (fail : X) (J67 : X → X → X) (hb : ∀ x, J67 x x = x) (ret : List α → X) :
  (bif List.isEmpty s then J67 (ret []) (bif decide (s.length ≤ big) then ret s else fail) else bif decide (s.length ≤ big) then ret s else fail) = ret s := by
 rw [Jch (by omega)]
 cases s with
 | nil => exact hb _
 | cons a s => rfl
theorem J7i (s : List UInt8) (h : Jbq s = true) : ∃ F, ∀ {X : Type} (fail : X) (J67 : X → X → X) (_ : ∀ x, J67 x x = x) (ret : List UInt8 → X), Kio F s fail J67 ret = ret (Jcj s) := ⟨0, fun fail J67 hb ret => by
 simp only [Jbq, decide_eq_true_eq] at h
 exact Qit s h fail J67 hb ret⟩
theorem Kis {X : Type} (F : Nat) (fail : X) (ex0 : Int → Int → Int → X) : ∀ (r m i : Nat), r < m → i + r ≤ 62 → Jfm F fail ex0 m ((i + r : Nat) : Int) ((2 ^ i : Nat) : Int) i = ex0 ((i + r : Nat) : Int) ((2 ^ (i + r) : Nat) : Int) ((i + r : Nat) : Int)
 | 0, m + 1, i, _, _ => by
  simp only [Jfm, Jkw, Nat.add_zero]
  rw [Jab (by simp)]
 | r + 1, m + 1, i, h1, h2 => by
  simp only [Jfm, Jkw]
  have hp : (2 : Nat) ^ (i + 1) ≤ 2 ^ 62 := Nat.pow_le_pow_right (by omega) (by omega)
  have hs : (2 : Nat) ^ (i + 1) = 2 * 2 ^ i := by rw [Nat.pow_succ]; omega
  rw [Jaa (by simp; omega), Jff (by omega) (by omega), Jai (by omega) (by omega)]
  have ih := Kis F fail ex0 r m (i + 1) (by omega) (by omega)
  have e1 : i + 1 + r = i + (r + 1) := by omega
  rw [e1, hs] at ih
  rw [← ih]
  congr 1
theorem J4m (n : Int) (h : Jc1 n = true) : ∃ F, ∀ {X : Type} (fail : X) (ret : Int → X), Ka8 F n fail ret = ret (Jc2 n) := ⟨64, fun fail ret => by
 simp only [Jc1, decide_eq_true_eq] at h
 obtain ⟨k, rfl⟩ := Int.eq_ofNat_of_zero_le h.1
 have := Kis 64 fail (fun (n1 : Int) (p : Int) (i : Int) => ret p) k 64 0 (by omega) (by omega)
 simp only [Nat.zero_add, Nat.pow_zero] at this
 exact this⟩
theorem pow7 (j : Nat) (hj : j ≤ 7) : Jc1 (Je6 7 (Jag j 1)) = true ∧ Jc2 (Je6 7 (Jag j 1)) = ((2 ^ (7 * (j + 1)) : Nat) : Int) := by
 have e : Je6 7 (Jag j 1) = ((7 * (j + 1) : Nat) : Int) := by
  rw [Jai (by omega) (by omega), Jff (by omega) (by omega)]; omega
 rw [e]
 exact ⟨by simp only [Jc1, decide_eq_true_eq]; omega, by unfold Jc2; rw [Int.toNat_natCast]⟩
theorem Jlh {X : Type} (F : Nat) (fail : X) (ex0 : Int → Int → X) (m j : Nat) (hj : j ≤ 7) (n : Int) : Je1 F fail ex0 (m + 1) n j = if Jfn n ≥ ((2 ^ (7 * (j + 1)) : Nat) : Int) then Je1 F fail ex0 m n ((j + 1 : Nat) : Int) else ex0 n j := by
 obtain ⟨h1, h2⟩ := pow7 j hj
 simp only [Je1, Jr7]
 rw [Jaa h1, h2, Qlp, Jai (by omega) (by omega)]
 rfl
theorem Qc7 {X : Type} (F : Nat) (fail : X) (ex0 : Int → Int → X) (n : Int) : Je1 F fail ex0 9 n 0 = ex0 n (fur (Jfn n)) := by
 have h := Kbf n
 have s0 := Jlh F fail ex0 8 0 (by omega) n
 have s1 := Jlh F fail ex0 7 1 (by omega) n
 have s2 := Jlh F fail ex0 6 2 (by omega) n
 have s3 := Jlh F fail ex0 5 3 (by omega) n
 have s4 := Jlh F fail ex0 4 4 (by omega) n
 have s5 := Jlh F fail ex0 3 5 (by omega) n
 have s6 := Jlh F fail ex0 2 6 (by omega) n
 have s7 := Jlh F fail ex0 1 7 (by omega) n
 simp only [Nat.reduceAdd, Nat.reduceMul, Nat.reducePow] at s0 s1 s2 s3 s4 s5 s6 s7
 refine s0.trans ?_
 split
 rotate_left
 ·rw [show fur (Jfn n) = ((0 : Nat) : Int) by unfold fur; omega]
 refine s1.trans ?_
 split
 rotate_left
 ·rw [show fur (Jfn n) = ((1 : Nat) : Int) by unfold fur; omega]
 refine s2.trans ?_
 split
 rotate_left
 ·rw [show fur (Jfn n) = ((2 : Nat) : Int) by unfold fur; omega]
 refine s3.trans ?_
 split
 rotate_left
 ·rw [show fur (Jfn n) = ((3 : Nat) : Int) by unfold fur; omega]
 refine s4.trans ?_
 split
 rotate_left
 ·rw [show fur (Jfn n) = ((4 : Nat) : Int) by unfold fur; omega]
 refine s5.trans ?_
 split
 rotate_left
 ·rw [show fur (Jfn n) = ((5 : Nat) : Int) by unfold fur; omega]
 refine s6.trans ?_
 split
 rotate_left
 ·rw [show fur (Jfn n) = ((6 : Nat) : Int) by unfold fur; omega]
 refine s7.trans ?_
 split
 rotate_left
 ·rw [show fur (Jfn n) = ((7 : Nat) : Int) by unfold fur; omega]
 ·omega
theorem J7j (n : Int) : ∃ F, ∀ {X : Type} (fail : X) (ret : Int → X), J4f F n fail ret = ret (Jlc n) := ⟨9, fun fail ret => by
 have h := Kbg (Jfn n)
 unfold J4f Jlc
 rw [Qc7, Jai (by omega) (by omega)]⟩
theorem Ky9 (m k : Nat) : (Qka m k).length = k := by induction k <;> simp_all [Qka]
theorem Jnp (m : Int) : (Kx9 m).length ≤ 8 := by
 have := Kbg m
 simp only [Kx9, List.length_cons, Ky9]; omega
theorem Qc8 (N k : Nat) (hk : k ≤ 8) : Kfc (Kqz (N : Int) (Je6 8 k)) = UInt8.ofNat (N / 2 ^ (8 * k) % 256) := by
 have e : Je6 8 k = ((8 * k : Nat) : Int) := by rw [Jff (by omega) (by omega)]; omega
 rw [e, Klf (by omega) (by omega), Kau, Int.toNat_natCast]
 congr 1
theorem K4l {X : Type} (F : Nat) (fail : X) (ex0 : Int → Int → List UInt8 → X) (N : Nat) : ∀ (k m : Nat) (dst : List UInt8), k < m → k ≤ 7 → dst.length + k ≤ 2147483648 →
  Ji9 F fail ex0 m N ((k : Int) - 1) dst = ex0 N (-1) (dst ++ Qka N k)
 | 0, m + 1, dst, _, _, _ => by
  simp only [Ji9, Jr5]
  rw [Jab (by simp)]
  simp [Qka]
 | k + 1, m + 1, dst, h1, h2, h3 => by
  simp only [Ji9, Jr5]
  have e : (((k + 1 : Nat) : Int) - 1) = k := by omega
  rw [e, Jaa (by simp), Qc8 N k (by omega), Jaa (by rw [Jff (by omega) (by omega)]; simp; omega), Jaa (Jch (by simp; omega)), Jca (by omega) (by omega)]
  rw [K4l F fail ex0 N k m _ (by omega) (by omega) (by simp; omega)]
  simp [Qka]
theorem Qc9 : ∀ k : Nat, k ≤ 7 → ∀ q : Nat, q < 128 → q < 2 ^ (7 - k) → orB (shlB 255 (8 - (k : Int))) (UInt8.ofNat q) = UInt8.ofNat (256 - 2 ^ (8 - k) + q) := by decide +kernel
theorem Qda (n : Int) (h0 : 0 ≤ n) (h1 : n ≤ 9007199254740991) : n < 2 ^ (7 * ((fur n).toNat + 1)) := by
 unfold fur
 repeat' split
 all_goals (simp; omega)
theorem Qo6 (N k : Nat) (h : N < 2 ^ (7 * (k + 1))) (hk : k ≤ 7) : N / 2 ^ (8 * k) < 2 ^ (7 - k) := by
 rw [Nat.div_lt_iff_lt_mul (Nat.pow_pos (by omega)), ← Nat.pow_add]
 have e : 7 - k + 8 * k = 7 * (k + 1) := by omega
 rw [e]; exact h
theorem Qmy (n : Int) (h0 : 0 ≤ n) (h1 : n ≤ 9007199254740991) : ∃ N k : Nat, n = N ∧ fur n = k ∧ k ≤ 7 ∧ N < 2 ^ (7 * (k + 1)) ∧ Kx9 n = UInt8.ofNat (256 - 2 ^ (8 - k) + N / 2 ^ (8 * k)) :: Qka N k := by
 have hf := Kbg n
 have hb := Qda n h0 h1
 refine ⟨n.toNat, (fur n).toNat, by omega, by omega, by omega, ?_, rfl⟩
 have : ((n.toNat : Nat) : Int) < ((2 ^ (7 * ((fur n).toNat + 1)) : Nat) : Int) := by
  rw [Int.toNat_of_nonneg h0]; simpa using hb
 exact_mod_cast this
theorem Kit (k : Nat) : 2 ^ (7 - k) ≤ 128 := by
 have : 2 ^ (7 - k) ≤ 2 ^ 7 := Nat.pow_le_pow_right (by omega) (by omega)
 omega
theorem Kfg (dst : List UInt8) (n : Int) (h : Jmq dst n = true) : ∃ F, ∀ {X : Type} (fail : X) (ret : List UInt8 → X), Kly F dst n fail ret = ret (Jp7 dst n) := ⟨9, fun fail ret => by
 simp only [Jmq, decide_eq_true_eq] at h
 have hr := Kbf n
 obtain ⟨N, k, e1, e2, hk, hN, he⟩ := Qmy (Jfn n) hr.1 hr.2
 have hq := Qo6 N k hN hk
 have hq2 := Kit k
 unfold Kly Jp7
 simp only [Jcb, Jbo, e1] at *
 rw [e2]
 have hs : Jby 8 (k : Int) = 8 - (k : Int) := Jca (by omega) (by omega)
 rw [Jaa (by simp only [Jd5, decide_eq_true_eq]; exact hr), hs, Qc8 N k (by omega), Jaa (by simp; omega), Jaa (by rw [Jff (by omega) (by omega)]; simp; omega)]
 have hmod : N / 2 ^ (8 * k) % 256 = N / 2 ^ (8 * k) := Nat.mod_eq_of_lt (by omega)
 rw [hmod, Qc9 k hk _ (by omega) hq, Jaa (Jch (by simp; omega)), Jca (by omega) (by omega), K4l _ _ _ N k 9 _ (by omega) hk (by simp; omega), he]
 simp⟩
theorem J4n (dst : List UInt8) (n : Int) (h : Jhm dst n = true) : ∃ F, ∀ {X : Type} (fail : X) (ret : List UInt8 → X), Jzm F dst n fail ret = ret (Jl4 dst n) := ⟨0, fun fail ret => by
 have h' := h
 simp only [Jhm, decide_eq_true_eq] at h'
 unfold Jzm
 rw [Jaa (by simp only [Jbq, decide_eq_true_eq]; exact h'.1), Jaa (by exact h)]
 rfl⟩
theorem J7k (b : List UInt8) (h : Jer b = true) : ∃ F, ∀ {X : Type} (fail : X) (ret : List UInt8 → X), J4g F b fail ret = ret (Ji3 b) := ⟨0, fun fail ret => by
 simp only [Jer, decide_eq_true_eq] at h
 unfold J4g
 rw [Jaa (Jch (by omega))]; rfl⟩
theorem Qdb (b : UInt8) : ∃ i, i < 256 ∧ b = UInt8.ofNat i := ⟨b.toNat, b.toNat_lt, by simp⟩
theorem Qdc : ∀ i : Nat, i < 256 → J7e (UInt8.ofNat i) ≤ 8 := by decide +kernel
theorem Qiu : ∀ i : Nat, i < 256 → (8 : Int) - Kie (Qg1 (UInt8.ofNat i)).toNat = J7e (UInt8.ofNat i) := by decide +kernel
theorem K7b : ∀ i : Nat, i < 256 → J7e (UInt8.ofNat i) ≤ 7 → andB (UInt8.ofNat i) (shrB 127 (J7e (UInt8.ofNat i) : Int)) = UInt8.ofNat (i - (256 - 2 ^ (8 - J7e (UInt8.ofNat i)))) := by decide +kernel
theorem K4m : ∀ i : Nat, i < 256 → J7e (UInt8.ofNat i) ≤ 7 → i - (256 - 2 ^ (8 - J7e (UInt8.ofNat i))) < 2 ^ (7 - J7e (UInt8.ofNat i)) ∧ 256 - 2 ^ (8 - J7e (UInt8.ofNat i)) ≤ i := by decide +kernel
theorem Qiv : ∀ i : Nat, i < 256 → (J7e (UInt8.ofNat i) = 8 ↔ i = 255) := by decide +kernel
theorem Jzs : ∀ (l : List UInt8) (a s : Nat), a < 2 ^ s → Jeg a l < 2 ^ (s + 8 * l.length)
 | [], a, s, h => by simpa [Jeg] using h
 | c :: l, a, s, h => by
  have hc := c.toNat_lt
  have e : 2 ^ (s + 8) = 256 * 2 ^ s := by rw [Nat.pow_add]; omega
  have := Jzs l (256 * a + c.toNat) (s + 8) (by omega)
  simp only [Jeg, List.foldl_cons, List.length_cons] at this ⊢
  have e2 : s + 8 * (l.length + 1) = s + 8 + 8 * l.length := by omega
  rw [e2]; exact this
theorem J2h (a : Nat) (l : List UInt8) (c : UInt8) : Jeg a (l ++ [c]) = 256 * Jeg a l + c.toNat := by simp [Jeg]
theorem Qmz (n : Nat) (c : UInt8) (h : n < 2 ^ 48) : orI (Qln (n : Int) 8) (Ke2 c) = ((256 * n + c.toNat : Nat) : Int) := by
 have hc := c.toNat_lt
 have e : Qln (n : Int) 8 = ((256 * n : Nat) : Int) := by rw [Qbq (by omega) (by omega) (by simp; omega) (by simp; omega)]; simp; omega
 rw [e, Jt9, Qj9 (by omega) (by omega)]
 have := Nat.two_pow_add_eq_or_of_lt (i := 8) (b := c.toNat) (by omega) n
 rw [show 256 * n = 2 ^ 8 * n by omega, ← this]
theorem K4n {X : Type} (F : Nat) (fail : X) (ex0 : List UInt8 → Int → Int → List UInt8 → Int → Int → X) (src : List UInt8) (k : Int) (a : Nat) (t : List UInt8) (ht : t.length ≤ 7) (ha : a < 2 ^ (7 - t.length)) : ∀ (j m i : Nat), i + j = t.length → j < m →
  Jja F fail ex0 m src k (Jeg a (t.take i) : Nat) t (t.length : Nat) i = ex0 src k (Jeg a t : Nat) t (t.length : Nat) (t.length : Nat)
 | 0, m + 1, i, h1, h2 => by
  simp only [Jja, Jr6]
  have e : i = t.length := by omega
  subst e
  rw [Jab (ff (by omega)), List.take_length]
 | j + 1, m + 1, i, h1, h2 => by
  simp only [Jja, Jr6]
  have hb := Jzs (t.take i) a (7 - t.length) ha
  have hl : (t.take i).length = i := by simp; omega
  rw [hl] at hb
  have hp : 2 ^ (7 - t.length + 8 * i) ≤ 2 ^ 48 := Nat.pow_le_pow_right (by omega) (by omega)
  rw [Jaa (tt (by omega)), Jaa (tt2 (by omega) (by omega)), Int.toNat_natCast, Qmz _ _ (by omega), ← J2h, ← Jd9 t i 0 (by omega), Jai (by omega) (by omega)]
  exact K4n F fail ex0 src k a t ht ha j m (i + 1) (by omega) (by omega)
theorem Kfh (src : List UInt8) (h : Jfh src = true) : ∃ F, ∀ {X : Type} (fail : X) (ret : Int → List UInt8 → Int → X), Klz F src fail ret = ret (Jas src) (Jaq src) (Jbk src) := ⟨9, fun fail ret => by
 simp only [Jfh, decide_eq_true_eq] at h
 cases src with
 | nil => rfl
 | cons b r =>
  obtain ⟨i, hi, rfl⟩ := Qdb b
  have hle := Qdc i hi
  have hnot := Qiu i hi
  have hfst := K7b i hi
  have hflt := K4m i hi
  have hi2 : (UInt8.ofNat i).toNat = i := by simp; omega
  simp only [Jas, Jaq, Jbk, Ja9, hi2]
  unfold Klz
  simp only [List.length_cons, Ja4, show List.getD (UInt8.ofNat i :: r) 0 (0 : UInt8) = UInt8.ofNat i from rfl, hnot]
  generalize hk : J7e (UInt8.ofNat i) = k at *
  rw [Jab (Jl3 (by omega)), Jaa (tt (by omega))]
  by_cases h8 : k = 8
  ·rw [if_pos h8, Jaa (tt (by omega))]
  rw [if_neg h8, Jab (ff (by omega))]
  have hflt := hflt (by omega)
  by_cases hr : r.length < k
  ·rw [if_pos hr, Jaa (tt (by omega))]
  rw [if_neg hr, Jab (ff (by omega)), Jaa (tt (by omega)), Jaa (tt (by omega)), Jai (by omega) (by omega), Jaa (tt2 (by omega) (by omega)), hfst (by omega)]
  have et : List.drop 1 (List.take ((k : Int) + 1).toNat (UInt8.ofNat i :: r)) = r.take k := by
   rw [show ((k : Int) + 1).toNat = k + 1 by omega]; rfl
  have ht : (r.take k).length = k := by simp; omega
  have hc : Ke2 (UInt8.ofNat (i - (256 - 2 ^ (8 - k)))) = ((i - (256 - 2 ^ (8 - k)) : Nat) : Int) := by
   rw [Jt9]; simp; omega
  rw [et, hc]
  have hloop := K4n 9 fail (fun (src1 : List UInt8) (k : Int) (n : Int) (s33 : List UInt8) (s34 : Int) (s35 : Int) =>
   bif (decide (n > (9007199254740991 : Int))) then ret (0 : Int) ([] : List UInt8) (3 : Int)
   else bif (Jd5 n) then bif ((Jbo n) != k) then ret (0 : Int) ([] : List UInt8) (3 : Int)
   else bif ((decide ((0 : Int) ≤ (Jag k (1 : Int)))) && (decide ((Jag k (1 : Int)) ≤ ((src1.length : Nat) : Int)))) then
   bif (Jbq (List.drop ((Jag k (1 : Int))).toNat src1)) then ret n (Jcj (List.drop ((Jag k (1 : Int))).toNat src1)) (0 : Int)
   else fail else fail else fail) (UInt8.ofNat i :: r) k (i - (256 - 2 ^ (8 - k))) (r.take k) (by omega) (by rw [ht]; exact hflt.1) k 9 0 (by omega) (by omega)
  simp only [List.take_zero] at hloop
  have hb0 : Jeg (i - (256 - 2 ^ (8 - k))) [] = i - (256 - 2 ^ (8 - k)) := rfl
  rw [hb0] at hloop
  refine hloop.trans ?_
  clear hloop
  generalize hn : Jeg (i - (256 - 2 ^ (8 - k))) (r.take k) = n
  by_cases h1 : (n : Int) > 9007199254740991
  ·rw [Jaa (tt h1), if_pos (.inl h1)]
  rw [Jab (ff h1), Jaa (by simp only [Jd5, decide_eq_true_eq]; omega)]
  by_cases h2 : fur (n : Int) = k
  ·rw [if_neg (by unfold K30; omega)]
   simp only [Jbo]
   rw [h2, Jab (Jgm rfl), Jai (by omega) (by omega), Jaa (tt2 (by omega) (by simp; omega)), Jaa (c := Jbq _) (tt (by simp only [List.length_drop, List.length_cons] at h ⊢; omega))]
   rw [show ((k : Int) + 1).toNat = k + 1 by omega]
   rfl
  ·rw [if_pos (.inr h2)]
   simp only [Jbo]
   rw [Jaa (Jhl h2)]⟩
theorem pow7m (k : Nat) (hk : k ≤ 7) : Jc1 (Jby 7 (k : Int)) = true ∧ Jc2 (Jby 7 (k : Int)) = ((2 ^ (7 - k) : Nat) : Int) := by
 have e : Jby 7 (k : Int) = ((7 - k : Nat) : Int) := by rw [Jca (by omega) (by omega)]; omega
 rw [e]
 exact ⟨by simp only [Jc1, decide_eq_true_eq]; omega, by unfold Jc2; rw [Int.toNat_natCast]⟩
theorem Jli {X : Type} (F : Nat) (fail : X) (ex0 : List UInt8 → Int → Int → X) (m k : Nat) (hk : k ≤ 7) (src : List UInt8) (i : Nat) : Jf3 F fail ex0 (m + 1) src i k = if 256 - 2 ^ (7 - k) ≤ i then Jf3 F fail ex0 m src i ((k + 1 : Nat) : Int) else ex0 src i k := by
 obtain ⟨h1, h2⟩ := pow7m k hk
 have q : 2 ^ (7 - k) ≤ 128 := Kit k
 have q0 : 0 < 2 ^ (7 - k) := Nat.pow_pos (by omega)
 simp only [Jf3, Jul]
 rw [Jaa h1, h2]
 generalize 2 ^ (7 - k) = z at *
 rw [Jca (by omega) (by omega), Jai (by omega) (by omega)]
 by_cases h : 256 - z ≤ i
 ·rw [if_pos h, Jaa (tt (by omega))]; rfl
 ·rw [if_neg h, Jab (ff (by omega))]
theorem Qiw : ∀ i : Nat, i < 255 → J7e (UInt8.ofNat i) = if i < 128 then 0 else if i < 192 then 1 else if i < 224 then 2 else if i < 240 then 3 else if i < 248 then 4 else if i < 252 then 5 else if i < 254 then 6 else 7 := by decide +kernel
theorem Qdd {X : Type} (F : Nat) (fail : X) (ex0 : List UInt8 → Int → Int → X) (src : List UInt8) (i : Nat) (hi : i < 255) : Jf3 F fail ex0 9 src i 0 = ex0 src i (J7e (UInt8.ofNat i)) := by
 rw [Qiw i hi]
 have s0 := Jli F fail ex0 8 0 (by omega) src i
 have s1 := Jli F fail ex0 7 1 (by omega) src i
 have s2 := Jli F fail ex0 6 2 (by omega) src i
 have s3 := Jli F fail ex0 5 3 (by omega) src i
 have s4 := Jli F fail ex0 4 4 (by omega) src i
 have s5 := Jli F fail ex0 3 5 (by omega) src i
 have s6 := Jli F fail ex0 2 6 (by omega) src i
 have s7 := Jli F fail ex0 1 7 (by omega) src i
 simp only [Nat.reduceAdd, Nat.reduceSub, Nat.reducePow] at s0 s1 s2 s3 s4 s5 s6 s7
 generalize hz : (if i < 128 then 0 else if i < 192 then 1 else if i < 224 then 2 else if i < 240 then 3 else if i < 248 then 4 else if i < 252 then 5 else if i < 254 then 6 else 7) = z
 refine s0.trans ?_
 split
 rotate_left
 ·rw [show z = 0 by (subst hz; repeat' split) <;> omega]
 refine s1.trans ?_
 split
 rotate_left
 ·rw [show z = 1 by (subst hz; repeat' split) <;> omega]
 refine s2.trans ?_
 split
 rotate_left
 ·rw [show z = 2 by (subst hz; repeat' split) <;> omega]
 refine s3.trans ?_
 split
 rotate_left
 ·rw [show z = 3 by (subst hz; repeat' split) <;> omega]
 refine s4.trans ?_
 split
 rotate_left
 ·rw [show z = 4 by (subst hz; repeat' split) <;> omega]
 refine s5.trans ?_
 split
 rotate_left
 ·rw [show z = 5 by (subst hz; repeat' split) <;> omega]
 refine s6.trans ?_
 split
 rotate_left
 ·rw [show z = 6 by (subst hz; repeat' split) <;> omega]
 refine s7.trans ?_
 split
 rotate_left
 ·rw [show z = 7 by (subst hz; repeat' split) <;> omega]
 ·omega
theorem Kbi {X : Type} (F : Nat) (fail : X) (ex0 : List UInt8 → Int → Int → Int → X) (b : UInt8) (r : List UInt8) (a k : Nat) (hk : k ≤ 7) (hr : k ≤ r.length) (ha : a < 2 ^ (7 - k)) (hl : r.length ≤ 2000000000) : ∀ (j m i : Nat), i + j = k → j < m →
  Jhp F fail ex0 m (b :: r) k (Jeg a (r.take i) : Nat) ((i + 1 : Nat) : Int) = ex0 (b :: r) k (Jeg a (r.take k) : Nat) ((k + 1 : Nat) : Int)
 | 0, m + 1, i, h1, h2 => by
  simp only [Jhp, Jo5]
  have e : i = k := by omega
  subst e
  rw [Jab (ff (by omega))]
 | j + 1, m + 1, i, h1, h2 => by
  simp only [Jhp, Jo5]
  have hb := Jzs (r.take i) a (7 - k) ha
  have hl : (r.take i).length = i := by simp; omega
  rw [hl] at hb
  have hp : 2 ^ (7 - k + 8 * i) ≤ 2 ^ 48 := Nat.pow_le_pow_right (by omega) (by omega)
  have hg : List.getD (b :: r) (i + 1) (0 : UInt8) = List.getD r i 0 := rfl
  have hc := (List.getD r i (0 : UInt8)).toNat_lt
  have e : Jag (Je6 256 (Jeg a (r.take i) : Nat)) (Ke2 (List.getD (b :: r) ((i + 1 : Nat) : Int).toNat (0 : UInt8))) = (Jeg a (r.take (i + 1)) : Nat) := by
   rw [Int.toNat_natCast, hg, Jt9, Jff (by omega) (by omega), Jai (by omega) (by omega), Jd9 r i 0 (by omega), J2h]; omega
  rw [Jaa (tt (by omega)), Jaa (tt2 (by omega) (by simp only [List.length_cons]; omega)), e, Jai (by omega) (by omega)]
  exact Kbi F fail ex0 b r a k hk hr ha (by omega) j m (i + 1) (by omega) (by omega)
theorem Kbj (src : List UInt8) (h : Jec src = true) : ∃ F, ∀ {X : Type} (fail : X) (ret : Int → List UInt8 → Int → X), Ka9 F src fail ret = ret (Ja7 src) (Jay src) (Jbz src) := ⟨9, fun fail ret => by
 simp only [Jec, decide_eq_true_eq] at h
 cases src with
 | nil => rfl
 | cons b r =>
  obtain ⟨i, hi, rfl⟩ := Qdb b
  simp only [List.length_cons] at h
  have hle := Qdc i hi
  have hflt := K4m i hi
  have h255 := Qiv i hi
  have hi2 : (UInt8.ofNat i).toNat = i := by simp; omega
  simp only [Ja7, Jay, Jbz, Ja9, hi2]
  unfold Ka9
  simp only [List.length_cons, show List.getD (UInt8.ofNat i :: r) 0 (0 : UInt8) = UInt8.ofNat i from rfl, Jt9, hi2]
  rw [Jab (Jl3 (by omega)), Jaa (tt (by omega))]
  by_cases h8 : i = 255
  ·rw [if_pos (h255.2 h8), Jaa (Jk8 (by omega))]
  have h8' : ¬ J7e (UInt8.ofNat i) = 8 := fun e => h8 (h255.1 e)
  rw [if_neg h8', Jab (Jl3 (by omega))]
  refine (Qdd 9 fail _ (UInt8.ofNat i :: r) i (by omega)).trans ?_
  generalize hk : J7e (UInt8.ofNat i) = k at *
  have hflt := hflt (by omega)
  simp only [List.length_cons]
  rw [Jai (by omega) (by omega)]
  by_cases hr : r.length < k
  ·rw [if_pos hr, Jaa (tt (by omega))]
  rw [if_neg hr, Jab (ff (by omega))]
  have e8 : Jby 8 (k : Int) = ((8 - k : Nat) : Int) := by rw [Jca (by omega) (by omega)]; omega
  have q3 : 2 ^ (8 - k) ≤ 256 := by
   have : 2 ^ (8 - k) ≤ 2 ^ 8 := Nat.pow_le_pow_right (by omega) (by omega)
   omega
  have ep : Jc2 ((8 - k : Nat) : Int) = ((2 ^ (8 - k) : Nat) : Int) := by unfold Jc2; rw [Int.toNat_natCast]
  have ef : Jby (i : Int) (Jby 256 ((2 ^ (8 - k) : Nat) : Int)) = ((i - (256 - 2 ^ (8 - k)) : Nat) : Int) := by
   generalize 2 ^ (8 - k) = z at *
   rw [Jca (a := 256) (by omega) (by omega), Jca (by omega) (by omega)]; omega
  rw [e8, Jaa (by simp only [Jc1, decide_eq_true_eq]; omega), ep, ef]
  refine (Kbi 9 fail _ (UInt8.ofNat i) r (i - (256 - 2 ^ (8 - k))) k (by omega) (by omega) hflt.1 (by omega) k 9 0 (by omega) (by omega)).trans ?_
  generalize hn : Jeg (i - (256 - 2 ^ (8 - k))) (r.take k) = n
  by_cases h1 : (n : Int) > 9007199254740991
  ·rw [Jaa (tt h1), if_pos (.inl h1)]
  rw [Jab (ff h1)]
  have hid : Jfn (n : Int) = n := Qis (by omega) (by omega)
  simp only [Jlc, hid]
  by_cases h2 : fur (n : Int) = k
  ·rw [if_neg (by unfold K30; omega), h2, Jai (by omega) (by omega), Jab (Jgm rfl), Jaa (tt2 (by omega) (by simp only [List.length_cons]; omega)), Jaa (c := Jer _) (tt (by simp only [List.length_drop, List.length_cons]; omega))]
   rw [show ((k : Int) + 1).toNat = k + 1 by omega]
   rfl
  ·rw [if_pos (.inr h2), Jai (by omega) (by omega), Jaa (Jhl (by omega))]⟩
end Go.AI
