/- Texts of the proof, joined: WireP. Names of our own are shortened by program; the long ones stand in wip/. -/
import Derived.Test.YtcdajbmgoafnkaaGreatQwG
namespace Go.AI
open Go
theorem Ksb (n : Int) : 0 ≤ Jfk n ∧ Jfk n ≤ 9007199254740991 := by
 unfold Jfk
 by_cases h1 : n < 0 <;> by_cases h2 : n > 9007199254740991 <;> simp [h1, h2] <;> omega
theorem Juq {n : Int} (h0 : 0 ≤ n) (h1 : n ≤ 9007199254740991) : Jfk n = n := by
 unfold Jfk
 have a : ¬ n < 0 := by omega
 have b : ¬ n > 9007199254740991 := by omega
 simp [a, b]
theorem Klp (m : Int) : 0 ≤ fur m ∧ fur m ≤ 7 := by
 unfold fur; repeat' split
 all_goals omega
theorem Jif {n k : Nat} : Kcq n ≤ k ↔ n < 2 ^ k := by
 unfold Kcq
 split
 ·rename_i h; subst h; simp [Nat.pow_pos]
 ·rename_i h
  rw [← Nat.log2_lt h]; omega
theorem Kz1 (n s : Nat) (h : 2 ^ s ≤ n) : Kcq n = s + Kcq (n / 2 ^ s) := by
 have key : ∀ k, Kcq n ≤ s + k ↔ Kcq (n / 2 ^ s) ≤ k := by
  intro k
  rw [Jif, Jif, Nat.pow_add, Nat.div_lt_iff_lt_mul (Nat.pow_pos (by omega)), Nat.mul_comm]
 have h1 : s ≤ Kcq n := by
  rcases Nat.lt_or_ge (Kcq n) s with h2 | h2
  ·have : n < 2 ^ s := Jif.1 (by omega)
   omega
  ·exact h2
 have h2 := (key (Kcq n - s)).1 (by omega)
 have h3 := (key (Kcq (n / 2 ^ s))).2 (Nat.le_refl _)
 omega
theorem K5t : Jbn.length = 256 := by decide +kernel
theorem Qdj : ∀ i, i < 256 → (Jbn.getD i 0).toNat = Kcq i := by decide +kernel
theorem Jh1 {X : Type} (x y : Int) (s : Nat) (hy : y = x / 2 ^ s) (h0 : 0 ≤ x) (h : y < 256) (hs : s = 0 ∨ 1 ≤ y) (hs' : s ≤ 56) (fail : X) (ret : Int → X) :
  (bif ((decide ((0 : Int) ≤ (((Jru y).toNat : Nat) : Int))) && (decide ((((Jru y).toNat : Nat) : Int) < ((Jbn.length : Nat) : Int)))) then
   ret (Jag (s : Int) (Kkx (List.getD Jbn (Jru y).toNat (0 : UInt8)))) else fail) = ret (Kcq x.toNat : Int) := by
 have hy0 : 0 ≤ y := by rw [hy]; exact Int.ediv_nonneg h0 (Int.le_of_lt (Int.pow_pos (by omega)))
 have e1 : (Jru y).toNat = y.toNat := by
  rw [Kra, UInt8.toNat_ofNat']; omega
 rw [e1, K5t, Jaa (by simp; omega), J6k, Qdj _ (by omega)]
 have hl : Kcq y.toNat ≤ 8 := Jif.2 (by omega)
 rw [Jak (by omega) (by omega)]
 have e2 : y.toNat = x.toNat / 2 ^ s := by
  obtain ⟨n, rfl⟩ := Int.eq_ofNat_of_zero_le h0
  have : ((2 : Int) ^ s) = ((2 ^ s : Nat) : Int) := by simp
  rw [hy, this, ← Int.natCast_ediv]
  rw [Int.toNat_natCast, Int.toNat_natCast]
 rcases hs with hs | hs
 ·subst hs
  simp at e2
  rw [e2]; simp
 ·have : 2 ^ s ≤ x.toNat := by
   rcases Nat.lt_or_ge x.toNat (2 ^ s) with h2 | h2
   ·rw [Nat.div_eq_of_lt h2] at e2; omega
   ·exact h2
  rw [Kz1 _ s this, ← e2]; simp
theorem J3o (x : Int) (h : Jnc x = true) : ∃ F, ∀ {X : Type} (fail : X) (ret : Int → X), J0z F x fail ret = ret (Jr0 x) := ⟨0, fun fail ret => by
 simp only [Jnc, decide_eq_true_eq] at h
 have e32 : ∀ a : Int, Jj7 a 32 = a / 4294967296 := fun a => J6j (by omega) (by omega)
 have e16 : ∀ a : Int, Jj7 a 16 = a / 65536 := fun a => J6j (by omega) (by omega)
 have e8 : ∀ a : Int, Jj7 a 8 = a / 256 := fun a => J6j (by omega) (by omega)
 unfold J0z
 simp only [e32, e16, e8, Bool.cond_decide]
 repeat' split
 ·exact Jh1 x _ 56 (by omega) h.1 (by omega) (.inr (by omega)) (by omega) fail ret
 ·exact Jh1 x _ 48 (by omega) h.1 (by omega) (.inr (by omega)) (by omega) fail ret
 ·exact Jh1 x _ 40 (by omega) h.1 (by omega) (.inr (by omega)) (by omega) fail ret
 ·exact Jh1 x _ 32 (by omega) h.1 (by omega) (.inr (by omega)) (by omega) fail ret
 ·exact Jh1 x _ 24 (by omega) h.1 (by omega) (.inr (by omega)) (by omega) fail ret
 ·exact Jh1 x _ 16 (by omega) h.1 (by omega) (.inr (by omega)) (by omega) fail ret
 ·exact Jh1 x _ 8 (by omega) h.1 (by omega) (.inr (by omega)) (by omega) fail ret
 ·exact Jh1 x x 0 (by simp) h.1 (by omega) (.inl rfl) (by omega) fail ret⟩
theorem J60 (x : UInt8) : ∃ F, ∀ {X : Type} (fail : X) (ret : Int → X), J6v F x fail ret = ret (Jpk x) := ⟨0, fun fail ret => by
 have h := x.toNat_lt
 unfold J6v
 rw [K5t, Jaa (by simp; omega), J6k, Qdj _ h]; rfl⟩
theorem Kaj (x : Int) (_ : Jts x = true) : ∃ F, ∀ {X : Type} (fail : X) (ret : Int → X), Kfu F x fail ret = ret (Jtt x) := ⟨0, fun fail ret => by
 rename_i h _
 unfold Kfu
 rw [Jaa (by exact h)]; rfl⟩
theorem Jou (x : UInt8) : ∃ F, ∀ {X : Type} (fail : X) (ret : Int → X), Jid F x fail ret = ret (Jav x) := ⟨0, fun fail ret => by
 have h := x.toNat_lt
 have hl : Kcq x.toNat ≤ 8 := Jif.2 (by omega)
 unfold Jid Jav Jpk
 rw [Jcf (by omega) (by omega)]⟩
theorem K5u {X : Type} (n : Int) (ret : Int → X) : (bif decide (n < 0) then ret 0 else bif decide (n > 9007199254740991) then ret 0 else ret n) = ret (Jfk n) := by
 unfold Jfk
 cases decide (n < 0) <;> cases decide (n > 9007199254740991) <;> rfl
theorem J06 (n : Int) : ∃ F, ∀ {X : Type} (fail : X) (ret : Int → X), J6w F n fail ret = ret (Jbx n) := ⟨0, fun _ ret => K5u n ret⟩
theorem Qf0 (n : Int) (h0 : 0 ≤ n) (h1 : n ≤ 9007199254740991) : (max 0 ((Kcq n.toNat : Int) - 1)) / 7 = fur n := by
 have k1 := @Jif n.toNat 7
 have k2 := @Jif n.toNat 14
 have k3 := @Jif n.toNat 21
 have k4 := @Jif n.toNat 28
 have k5 := @Jif n.toNat 35
 have k6 := @Jif n.toNat 42
 have k7 := @Jif n.toNat 49
 have k8 := (@Jif n.toNat 56).2 (by omega)
 unfold fur
 repeat' split
 all_goals omega
theorem Jy2 (n : Int) (h : Jdi n = true) : ∃ F, ∀ {X : Type} (fail : X) (ret : Int → X), Jr7 F n fail ret = ret (Jbe n) := ⟨0, fun fail ret => by
 simp only [Jdi, decide_eq_true_eq] at h
 have k8 := (@Jif n.toNat 56).2 (by omega)
 have e : Kcm n = n := Krb h.1 (by omega)
 unfold Jr7 Jbe
 rw [e, Jaa (by simp only [Jts, decide_eq_true_eq]; omega)]
 unfold Jtt
 rw [Jcf (by omega) (by omega), Qez, J6i (by omega) (by omega) (by omega), Qf0 n h.1 h.2]⟩
theorem Qbi {α : Type} (s : List α) (h : s.length ≤ 2000000000) {X : Type} (fail : X) (Ju3 : X → X → X) (hb : ∀ x, Ju3 x x = x) (ret : List α → X) :
  (bif List.isEmpty s then Ju3 (ret []) (bif decide (s.length ≤ big) then ret s else fail) else bif decide (s.length ≤ big) then ret s else fail) = ret s := by
 rw [Jcg (by omega)]
 cases s with
 | nil => exact hb _
 | cons a s => rfl
theorem J3p (s : List UInt8) (h : Jbh s = true) : ∃ F, ∀ {X : Type} (fail : X) (Ju3 : X → X → X) (_ : ∀ x, Ju3 x x = x) (ret : List UInt8 → X), Kcz F s fail Ju3 ret = ret (Jb4 s) := ⟨0, fun fail Ju3 hb ret => by
 simp only [Jbh, decide_eq_true_eq] at h
 exact Qbi s h fail Ju3 hb ret⟩
theorem Jjb (m k : Nat) : (Kk3 m k).length = k := by induction k <;> simp_all [Kk3]
theorem Jfp (m : Int) : (J3m m).length ≤ 8 := by
 have := Klp m
 simp only [J3m, List.length_cons, Jjb]; omega
theorem K5v (N k : Nat) (hk : k ≤ 8) : Kjg (Kkw (N : Int) (Jfe 8 k)) = UInt8.ofNat (N / 2 ^ (8 * k) % 256) := by
 have e : Jfe 8 k = ((8 * k : Nat) : Int) := by rw [Jgv (by omega) (by omega)]; omega
 rw [e, Kff (by omega) (by omega), Kfh, Int.toNat_natCast]
 congr 1
theorem Kxl {X : Type} (F : Nat) (fail : X) (ex0 : Int → Int → List UInt8 → X) (N : Nat) : ∀ (k m : Nat) (dst : List UInt8), k < m → k ≤ 7 → dst.length + k ≤ 2147483648 →
  Jht F fail ex0 m N ((k : Int) - 1) dst = ex0 N (-1) (dst ++ Kk3 N k)
 | 0, m + 1, dst, _, _, _ => by
  simp only [Jht, Jpy]
  rw [Jab (by simp)]
  simp [Kk3]
 | k + 1, m + 1, dst, h1, h2, h3 => by
  simp only [Jht, Jpy]
  have e : (((k + 1 : Nat) : Int) - 1) = k := by omega
  rw [e, Jaa (by simp), K5v N k (by omega), Jaa (by rw [Jgv (by omega) (by omega)]; simp; omega), Jaa (Jcg (by simp; omega)), Jcf (by omega) (by omega)]
  rw [Kxl F fail ex0 N k m _ (by omega) (by omega) (by simp; omega)]
  simp [Kk3]
theorem K5w : ∀ k : Nat, k ≤ 7 → ∀ q : Nat, q < 128 → q < 2 ^ (7 - k) → orB (shlB 255 (8 - (k : Int))) (UInt8.ofNat q) = UInt8.ofNat (256 - 2 ^ (8 - k) + q) := by decide +kernel
theorem K5x (n : Int) (h0 : 0 ≤ n) (h1 : n ≤ 9007199254740991) : n < 2 ^ (7 * ((fur n).toNat + 1)) := by
 unfold fur
 repeat' split
 all_goals (simp; omega)
theorem Qdk (N k : Nat) (h : N < 2 ^ (7 * (k + 1))) (hk : k ≤ 7) : N / 2 ^ (8 * k) < 2 ^ (7 - k) := by
 rw [Nat.div_lt_iff_lt_mul (Nat.pow_pos (by omega)), ← Nat.pow_add]
 have e : 7 - k + 8 * k = 7 * (k + 1) := by omega
 rw [e]; exact h
theorem K5y (n : Int) (h0 : 0 ≤ n) (h1 : n ≤ 9007199254740991) : ∃ N k : Nat, n = N ∧ fur n = k ∧ k ≤ 7 ∧ N < 2 ^ (7 * (k + 1)) ∧ J3m n = UInt8.ofNat (256 - 2 ^ (8 - k) + N / 2 ^ (8 * k)) :: Kk3 N k := by
 have hf := Klp n
 have hb := K5x n h0 h1
 refine ⟨n.toNat, (fur n).toNat, by omega, by omega, by omega, ?_, rfl⟩
 have : ((n.toNat : Nat) : Int) < ((2 ^ (7 * ((fur n).toNat + 1)) : Nat) : Int) := by
  rw [Int.toNat_of_nonneg h0]; simpa using hb
 exact_mod_cast this
theorem Kc1 (k : Nat) : 2 ^ (7 - k) ≤ 128 := by
 have : 2 ^ (7 - k) ≤ 2 ^ 7 := Nat.pow_le_pow_right (by omega) (by omega)
 omega
theorem Kak (dst : List UInt8) (n : Int) (h : Jlc dst n = true) : ∃ F, ∀ {X : Type} (fail : X) (ret : List UInt8 → X), Kfv F dst n fail ret = ret (Job dst n) := ⟨9, fun fail ret => by
 simp only [Jlc, decide_eq_true_eq] at h
 have hr := Ksb n
 obtain ⟨N, k, e1, e2, hk, hN, he⟩ := K5y (Jfk n) hr.1 hr.2
 have hq := Qdk N k hN hk
 have hq2 := Kc1 k
 unfold Kfv Job
 simp only [Jbx, Jbe, e1] at *
 rw [e2]
 have hs : Jby 8 (k : Int) = 8 - (k : Int) := Jcf (by omega) (by omega)
 rw [Jaa (by simp only [Jdi, decide_eq_true_eq]; exact hr), hs, K5v N k (by omega), Jaa (by simp; omega), Jaa (by rw [Jgv (by omega) (by omega)]; simp; omega)]
 have hmod : N / 2 ^ (8 * k) % 256 = N / 2 ^ (8 * k) := Nat.mod_eq_of_lt (by omega)
 rw [hmod, K5w k hk _ (by omega) hq, Jaa (Jcg (by simp; omega)), Jcf (by omega) (by omega), Kxl _ _ _ N k 9 _ (by omega) hk (by simp; omega), he]
 simp⟩
theorem J07 (dst : List UInt8) (n : Int) (h : Jf9 dst n = true) : ∃ F, ∀ {X : Type} (fail : X) (ret : List UInt8 → X), Jwm F dst n fail ret = ret (Jkm dst n) := ⟨0, fun fail ret => by
 have h' := h
 simp only [Jf9, decide_eq_true_eq] at h'
 unfold Jwm
 rw [Jaa (by simp only [Jbh, decide_eq_true_eq]; exact h'.1), Jaa (by exact h)]
 rfl⟩
theorem K5z (b : UInt8) : ∃ i, i < 256 ∧ b = UInt8.ofNat i := ⟨b.toNat, b.toNat_lt, by simp⟩
theorem K50 : ∀ i : Nat, i < 256 → J95 (UInt8.ofNat i) ≤ 8 := by decide +kernel
theorem Qbj : ∀ i : Nat, i < 256 → (8 : Int) - Kcq (K9n (UInt8.ofNat i)).toNat = J95 (UInt8.ofNat i) := by decide +kernel
theorem Kz2 : ∀ i : Nat, i < 256 → J95 (UInt8.ofNat i) ≤ 7 → andB (UInt8.ofNat i) (shrB 127 (J95 (UInt8.ofNat i) : Int)) = UInt8.ofNat (i - (256 - 2 ^ (8 - J95 (UInt8.ofNat i)))) := by decide +kernel
theorem Kxm : ∀ i : Nat, i < 256 → J95 (UInt8.ofNat i) ≤ 7 → i - (256 - 2 ^ (8 - J95 (UInt8.ofNat i))) < 2 ^ (7 - J95 (UInt8.ofNat i)) ∧ 256 - 2 ^ (8 - J95 (UInt8.ofNat i)) ≤ i := by decide +kernel
theorem J61 : ∀ (l : List UInt8) (a s : Nat), a < 2 ^ s → Jcr a l < 2 ^ (s + 8 * l.length)
 | [], a, s, h => by simpa [Jcr] using h
 | c :: l, a, s, h => by
  have hc := c.toNat_lt
  have e : 2 ^ (s + 8) = 256 * 2 ^ s := by rw [Nat.pow_add]; omega
  have := J61 l (256 * a + c.toNat) (s + 8) (by omega)
  simp only [Jcr, List.foldl_cons, List.length_cons] at this ⊢
  have e2 : s + 8 * (l.length + 1) = s + 8 + 8 * l.length := by omega
  rw [e2]; exact this
theorem Kgr (a : Nat) (l : List UInt8) (c : UInt8) : Jcr a (l ++ [c]) = 256 * Jcr a l + c.toNat := by simp [Jcr]
theorem Qf1 (n : Nat) (c : UInt8) (h : n < 2 ^ 48) : orI (Qey (n : Int) 8) (Kkx c) = ((256 * n + c.toNat : Nat) : Int) := by
 have hc := c.toNat_lt
 have e : Qey (n : Int) 8 = ((256 * n : Nat) : Int) := by rw [K36 (by omega) (by omega) (by simp; omega) (by simp; omega)]; simp; omega
 rw [e, J6k, Qc7 (by omega) (by omega)]
 have := Nat.two_pow_add_eq_or_of_lt (i := 8) (b := c.toNat) (by omega) n
 rw [show 256 * n = 2 ^ 8 * n by omega, ← this]
theorem Kxn {X : Type} (F : Nat) (fail : X) (ex0 : List UInt8 → Int → Int → List UInt8 → Int → Int → X) (src : List UInt8) (k : Int) (a : Nat) (t : List UInt8) (ht : t.length ≤ 7) (ha : a < 2 ^ (7 - t.length)) : ∀ (j m i : Nat), i + j = t.length → j < m →
  Jhu F fail ex0 m src k (Jcr a (t.take i) : Nat) t (t.length : Nat) i = ex0 src k (Jcr a t : Nat) t (t.length : Nat) (t.length : Nat)
 | 0, m + 1, i, h1, h2 => by
  simp only [Jhu, Jpz]
  have e : i = t.length := by omega
  subst e
  rw [Jab (ff (by omega)), List.take_length]
 | j + 1, m + 1, i, h1, h2 => by
  simp only [Jhu, Jpz]
  have hb := J61 (t.take i) a (7 - t.length) ha
  have hl : (t.take i).length = i := by simp; omega
  rw [hl] at hb
  have hp : 2 ^ (7 - t.length + 8 * i) ≤ 2 ^ 48 := Nat.pow_le_pow_right (by omega) (by omega)
  rw [Jaa (tt (by omega)), Jaa (tt2 (by omega) (by omega)), Int.toNat_natCast, Qf1 _ _ (by omega), ← Kgr, ← Jdx t i 0 (by omega), Jak (by omega) (by omega)]
  exact Kxn F fail ex0 src k a t ht ha j m (i + 1) (by omega) (by omega)
theorem Kal (src : List UInt8) (h : Jef src = true) : ∃ F, ∀ {X : Type} (fail : X) (ret : Int → List UInt8 → Int → X), Kfw F src fail ret = ret (Jao src) (Jam src) (Jbb src) := ⟨9, fun fail ret => by
 simp only [Jef, decide_eq_true_eq] at h
 cases src with
 | nil => rfl
 | cons b r =>
  obtain ⟨i, hi, rfl⟩ := K5z b
  have hle := K50 i hi
  have hnot := Qbj i hi
  have hfst := Kz2 i hi
  have hflt := Kxm i hi
  have hi2 : (UInt8.ofNat i).toNat = i := by simp; omega
  simp only [Jao, Jam, Jbb, Jbc, hi2]
  unfold Kfw
  simp only [List.length_cons, Jav, show List.getD (UInt8.ofNat i :: r) 0 (0 : UInt8) = UInt8.ofNat i from rfl, hnot]
  generalize hk : J95 (UInt8.ofNat i) = k at *
  rw [Jab (Jkj (by omega)), Jaa (tt (by omega))]
  by_cases h8 : k = 8
  ·rw [if_pos h8, Jaa (tt (by omega))]
  rw [if_neg h8, Jab (ff (by omega))]
  have hflt := hflt (by omega)
  by_cases hr : r.length < k
  ·rw [if_pos hr, Jaa (tt (by omega))]
  rw [if_neg hr, Jab (ff (by omega)), Jaa (tt (by omega)), Jaa (tt (by omega)), Jak (by omega) (by omega), Jaa (tt2 (by omega) (by omega)), hfst (by omega)]
  have et : List.drop 1 (List.take ((k : Int) + 1).toNat (UInt8.ofNat i :: r)) = r.take k := by
   rw [show ((k : Int) + 1).toNat = k + 1 by omega]; rfl
  have ht : (r.take k).length = k := by simp; omega
  have hc : Kkx (UInt8.ofNat (i - (256 - 2 ^ (8 - k)))) = ((i - (256 - 2 ^ (8 - k)) : Nat) : Int) := by
   rw [J6k]; simp; omega
  rw [et, hc]
  have hloop := Kxn 9 fail (fun (src1 : List UInt8) (k : Int) (n : Int) (s33 : List UInt8) (s34 : Int) (s35 : Int) =>
   bif (decide (n > (9007199254740991 : Int))) then ret (0 : Int) ([] : List UInt8) (3 : Int)
   else bif (Jdi n) then bif ((Jbe n) != k) then ret (0 : Int) ([] : List UInt8) (3 : Int)
   else bif ((decide ((0 : Int) ≤ (Jag k (1 : Int)))) && (decide ((Jag k (1 : Int)) ≤ ((src1.length : Nat) : Int)))) then
   bif (Jbh (List.drop ((Jag k (1 : Int))).toNat src1)) then ret n (Jb4 (List.drop ((Jag k (1 : Int))).toNat src1)) (0 : Int)
   else fail else fail else fail) (UInt8.ofNat i :: r) k (i - (256 - 2 ^ (8 - k))) (r.take k) (by omega) (by rw [ht]; exact hflt.1) k 9 0 (by omega) (by omega)
  simp only [List.take_zero] at hloop
  have hb0 : Jcr (i - (256 - 2 ^ (8 - k))) [] = i - (256 - 2 ^ (8 - k)) := rfl
  rw [hb0] at hloop
  refine hloop.trans ?_
  clear hloop
  generalize hn : Jcr (i - (256 - 2 ^ (8 - k))) (r.take k) = n
  by_cases h1 : (n : Int) > 9007199254740991
  ·rw [Jaa (tt h1), if_pos (.inl h1)]
  rw [Jab (ff h1), Jaa (by simp only [Jdi, decide_eq_true_eq]; omega)]
  by_cases h2 : fur (n : Int) = k
  ·rw [if_neg (by unfold Kwy; omega)]
   simp only [Jbe]
   rw [h2, Jab (Jgh rfl), Jak (by omega) (by omega), Jaa (tt2 (by omega) (by simp; omega)), Jaa (c := Jbh _) (tt (by simp only [List.length_drop, List.length_cons] at h ⊢; omega))]
   rw [show ((k : Int) + 1).toNat = k + 1 by omega]
   rfl
  ·rw [if_pos (.inr h2)]
   simp only [Jbe]
   rw [Jaa (Jj8 h2)]⟩
end Go.AI
