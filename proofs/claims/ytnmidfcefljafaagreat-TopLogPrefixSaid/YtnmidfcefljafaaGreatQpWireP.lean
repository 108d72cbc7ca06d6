/- Texts of the proof, joined: WireP. Names of our own are shortened by program; the long ones stand in wip/. -/
import Derived.Test.YtnmidfcefljafaaGreatQpG
namespace Go.AI
open Go
theorem Kmz (n : Int) : 0 ≤ Jfy n ∧ Jfy n ≤ 9007199254740991 := by
 unfold Jfy
 by_cases h1 : n < 0 <;> by_cases h2 : n > 9007199254740991 <;> simp [h1, h2] <;> omega
theorem Kcr {n : Int} (h0 : 0 ≤ n) (h1 : n ≤ 9007199254740991) : Jfy n = n := by
 unfold Jfy
 have a : ¬ n < 0 := by omega
 have b : ¬ n > 9007199254740991 := by omega
 simp [a, b]
theorem Kg9 (m : Int) : 0 ≤ fur m ∧ fur m ≤ 7 := by
 unfold fur; repeat' split
 all_goals omega
theorem Jhu {n k : Nat} : J83 n ≤ k ↔ n < 2 ^ k := by
 unfold J83
 split
 ·rename_i h; subst h; simp [Nat.pow_pos]
 ·rename_i h
  rw [← Nat.log2_lt h]; omega
theorem Kt5 (n s : Nat) (h : 2 ^ s ≤ n) : J83 n = s + J83 (n / 2 ^ s) := by
 have key : ∀ k, J83 n ≤ s + k ↔ J83 (n / 2 ^ s) ≤ k := by
  intro k
  rw [Jhu, Jhu, Nat.pow_add, Nat.div_lt_iff_lt_mul (Nat.pow_pos (by omega)), Nat.mul_comm]
 have h1 : s ≤ J83 n := by
  rcases Nat.lt_or_ge (J83 n) s with h2 | h2
  ·have : n < 2 ^ s := Jhu.1 (by omega)
   omega
  ·exact h2
 have h2 := (key (J83 n - s)).1 (by omega)
 have h3 := (key (J83 (n / 2 ^ s))).2 (Nat.le_refl _)
 omega
theorem Kza : Jbn.length = 256 := by decide +kernel
theorem K5z : ∀ i, i < 256 → (Jbn.getD i 0).toNat = J83 i := by decide +kernel
theorem Jhe {X : Type} (x y : Int) (s : Nat) (hy : y = x / 2 ^ s) (h0 : 0 ≤ x) (h : y < 256) (hs : s = 0 ∨ 1 ≤ y) (hs' : s ≤ 56) (fail : X) (ret : Int → X) :
  (bif ((decide ((0 : Int) ≤ (((Jta y).toNat : Nat) : Int))) && (decide ((((Jta y).toNat : Nat) : Int) < ((Jbn.length : Nat) : Int)))) then
   ret (Jar (s : Int) (Jfv (List.getD Jbn (Jta y).toNat (0 : UInt8)))) else fail) = ret (J83 x.toNat : Int) := by
 have hy0 : 0 ≤ y := by rw [hy]; exact Int.ediv_nonneg h0 (Int.le_of_lt (Int.pow_pos (by omega)))
 have e1 : (Jta y).toNat = y.toNat := by
  rw [Kxy, UInt8.toNat_ofNat']; omega
 rw [e1, Kza, Jaa (by simp; omega), Jyd, K5z _ (by omega)]
 have hl : J83 y.toNat ≤ 8 := Jhu.2 (by omega)
 rw [Jao (by omega) (by omega)]
 have e2 : y.toNat = x.toNat / 2 ^ s := by
  obtain ⟨n, rfl⟩ := Int.eq_ofNat_of_zero_le h0
  have : ((2 : Int) ^ s) = ((2 ^ s : Nat) : Int) := by simp
  rw [hy, this, ← Int.natCast_ediv]
  rw [Int.toNat_natCast, Int.toNat_natCast]
 rcases hs with hs | hs
 ·subst hs
  simp at e2
  rw [e2]; simp
 ·have : 2 ^ s ≤ x.toNat := by
   rcases Nat.lt_or_ge x.toNat (2 ^ s) with h2 | h2
   ·rw [Nat.div_eq_of_lt h2] at e2; omega
   ·exact h2
  rw [Kt5 _ s this, ← e2]; simp
theorem J00 (x : Int) (h : Jl1 x = true) : ∃ F, ∀ {X : Type} (fail : X) (ret : Int → X), Jym F x fail ret = ret (Jqk x) := ⟨0, fun fail ret => by
 simp only [Jl1, decide_eq_true_eq] at h
 have e32 : ∀ a : Int, Jj9 a 32 = a / 4294967296 := fun a => Kbk (by omega) (by omega)
 have e16 : ∀ a : Int, Jj9 a 16 = a / 65536 := fun a => Kbk (by omega) (by omega)
 have e8 : ∀ a : Int, Jj9 a 8 = a / 256 := fun a => Kbk (by omega) (by omega)
 unfold Jym
 simp only [e32, e16, e8, Bool.cond_decide]
 repeat' split
 ·exact Jhe x _ 56 (by omega) h.1 (by omega) (.inr (by omega)) (by omega) fail ret
 ·exact Jhe x _ 48 (by omega) h.1 (by omega) (.inr (by omega)) (by omega) fail ret
 ·exact Jhe x _ 40 (by omega) h.1 (by omega) (.inr (by omega)) (by omega) fail ret
 ·exact Jhe x _ 32 (by omega) h.1 (by omega) (.inr (by omega)) (by omega) fail ret
 ·exact Jhe x _ 24 (by omega) h.1 (by omega) (.inr (by omega)) (by omega) fail ret
 ·exact Jhe x _ 16 (by omega) h.1 (by omega) (.inr (by omega)) (by omega) fail ret
 ·exact Jhe x _ 8 (by omega) h.1 (by omega) (.inr (by omega)) (by omega) fail ret
 ·exact Jhe x x 0 (by simp) h.1 (by omega) (.inl rfl) (by omega) fail ret⟩
theorem J36 (x : UInt8) : ∃ F, ∀ {X : Type} (fail : X) (ret : Int → X), J32 F x fail ret = ret (Jn7 x) := ⟨0, fun fail ret => by
 have h := x.toNat_lt
 unfold J32
 rw [Kza, Jaa (by simp; omega), Jyd, K5z _ h]; rfl⟩
theorem J67 (x : Int) (_ : Jr4 x = true) : ∃ F, ∀ {X : Type} (fail : X) (ret : Int → X), Kbz F x fail ret = ret (Jr5 x) := ⟨0, fun fail ret => by
 rename_i h _
 unfold Kbz
 rw [Jaa (by exact h)]; rfl⟩
theorem Jnc (x : UInt8) : ∃ F, ∀ {X : Type} (fail : X) (ret : Int → X), Jhs F x fail ret = ret (Jay x) := ⟨0, fun fail ret => by
 have h := x.toNat_lt
 have hl : J83 x.toNat ≤ 8 := Jhu.2 (by omega)
 unfold Jhs Jay Jn7
 rw [Jdk (by omega) (by omega)]⟩
theorem Kzb {X : Type} (n : Int) (ret : Int → X) : (bif decide (n < 0) then ret 0 else bif decide (n > 9007199254740991) then ret 0 else ret n) = ret (Jfy n) := by
 unfold Jfy
 cases decide (n < 0) <;> cases decide (n > 9007199254740991) <;> rfl
theorem Jyr (n : Int) : ∃ F, ∀ {X : Type} (fail : X) (ret : Int → X), J33 F n fail ret = ret (Jbz n) := ⟨0, fun _ ret => Kzb n ret⟩
theorem K79 (n : Int) (h0 : 0 ≤ n) (h1 : n ≤ 9007199254740991) : (max 0 ((J83 n.toNat : Int) - 1)) / 7 = fur n := by
 have k1 := @Jhu n.toNat 7
 have k2 := @Jhu n.toNat 14
 have k3 := @Jhu n.toNat 21
 have k4 := @Jhu n.toNat 28
 have k5 := @Jhu n.toNat 35
 have k6 := @Jhu n.toNat 42
 have k7 := @Jhu n.toNat 49
 have k8 := (@Jhu n.toNat 56).2 (by omega)
 unfold fur
 repeat' split
 all_goals omega
theorem Jwt (n : Int) (h : Jdm n = true) : ∃ F, ∀ {X : Type} (fail : X) (ret : Int → X), Jqp F n fail ret = ret (Jbf n) := ⟨0, fun fail ret => by
 simp only [Jdm, decide_eq_true_eq] at h
 have k8 := (@Jhu n.toNat 56).2 (by omega)
 have e : Ktq n = n := Kxz h.1 (by omega)
 unfold Jqp Jbf
 rw [e, Jaa (by simp only [Jr4, decide_eq_true_eq]; omega)]
 unfold Jr5
 rw [Jdk (by omega) (by omega), K7c, Kxv (by omega) (by omega) (by omega), K79 n h.1 h.2]⟩
theorem K36 {α : Type} (s : List α) (h : s.length ≤ 2000000000) {X : Type} (fail : X) (Jmm : X → X → X) (hb : ∀ x, Jmm x x = x) (ret : List α → X) :
  (bif List.isEmpty s then Jmm (ret []) (bif decide (s.length ≤ big) then ret s else fail) else bif decide (s.length ≤ big) then ret s else fail) = ret s := by
 rw [Jea (by omega)]
 cases s with
 | nil => exact hb _
 | cons a s => rfl
theorem J01 (s : List UInt8) (h : Jbh s = true) : ∃ F, ∀ {X : Type} (fail : X) (Jmm : X → X → X) (_ : ∀ x, Jmm x x = x) (ret : List UInt8 → X), J9a F s fail Jmm ret = ret (Jb7 s) := ⟨0, fun fail Jmm hb ret => by
 simp only [Jbh, decide_eq_true_eq] at h
 exact K36 s h fail Jmm hb ret⟩
theorem Jii (m k : Nat) : (Kq4 m k).length = k := by induction k <;> simp_all [Kq4]
theorem Jfm (m : Int) : (J6z m).length ≤ 8 := by
 have := Kg9 m
 simp only [J6z, List.length_cons, Jii]; omega
theorem Kzc (N k : Nat) (hk : k ≤ 8) : Klz (Kgm (N : Int) (Jlu 8 k)) = UInt8.ofNat (N / 2 ^ (8 * k) % 256) := by
 have e : Jlu 8 k = ((8 * k : Nat) : Int) := by rw [Jja (by omega) (by omega)]; omega
 rw [e, Kbj (by omega) (by omega), Kl1, Int.toNat_natCast]
 congr 1
theorem Krs {X : Type} (F : Nat) (fail : X) (ex0 : Int → Int → List UInt8 → X) (N : Nat) : ∀ (k m : Nat) (dst : List UInt8), k < m → k ≤ 7 → dst.length + k ≤ 2147483648 →
  Jg9 F fail ex0 m N ((k : Int) - 1) dst = ex0 N (-1) (dst ++ Kq4 N k)
 | 0, m + 1, dst, _, _, _ => by
  simp only [Jg9, Jol]
  rw [Jab (by simp)]
  simp [Kq4]
 | k + 1, m + 1, dst, h1, h2, h3 => by
  simp only [Jg9, Jol]
  have e : (((k + 1 : Nat) : Int) - 1) = k := by omega
  rw [e, Jaa (by simp), Kzc N k (by omega), Jaa (by rw [Jja (by omega) (by omega)]; simp; omega), Jaa (Jea (by simp; omega)), Jdk (by omega) (by omega)]
  rw [Krs F fail ex0 N k m _ (by omega) (by omega) (by simp; omega)]
  simp [Kq4]
theorem Kzd : ∀ k : Nat, k ≤ 7 → ∀ q : Nat, q < 128 → q < 2 ^ (7 - k) → orB (shlB 255 (8 - (k : Int))) (UInt8.ofNat q) = UInt8.ofNat (256 - 2 ^ (8 - k) + q) := by decide +kernel
theorem Kze (n : Int) (h0 : 0 ≤ n) (h1 : n ≤ 9007199254740991) : n < 2 ^ (7 * ((fur n).toNat + 1)) := by
 unfold fur
 repeat' split
 all_goals (simp; omega)
theorem K50 (N k : Nat) (h : N < 2 ^ (7 * (k + 1))) (hk : k ≤ 7) : N / 2 ^ (8 * k) < 2 ^ (7 - k) := by
 rw [Nat.div_lt_iff_lt_mul (Nat.pow_pos (by omega)), ← Nat.pow_add]
 have e : 7 - k + 8 * k = 7 * (k + 1) := by omega
 rw [e]; exact h
theorem Kzf (n : Int) (h0 : 0 ≤ n) (h1 : n ≤ 9007199254740991) : ∃ N k : Nat, n = N ∧ fur n = k ∧ k ≤ 7 ∧ N < 2 ^ (7 * (k + 1)) ∧ J6z n = UInt8.ofNat (256 - 2 ^ (8 - k) + N / 2 ^ (8 * k)) :: Kq4 N k := by
 have hf := Kg9 n
 have hb := Kze n h0 h1
 refine ⟨n.toNat, (fur n).toNat, by omega, by omega, by omega, ?_, rfl⟩
 have : ((n.toNat : Nat) : Int) < ((2 ^ (7 * ((fur n).toNat + 1)) : Nat) : Int) := by
  rw [Int.toNat_of_nonneg h0]; simpa using hb
 exact_mod_cast this
theorem J9d (k : Nat) : 2 ^ (7 - k) ≤ 128 := by
 have : 2 ^ (7 - k) ≤ 2 ^ 7 := Nat.pow_le_pow_right (by omega) (by omega)
 omega
theorem J68 (dst : List UInt8) (n : Int) (h : Jka dst n = true) : ∃ F, ∀ {X : Type} (fail : X) (ret : List UInt8 → X), Kb0 F dst n fail ret = ret (Jmv dst n) := ⟨9, fun fail ret => by
 simp only [Jka, decide_eq_true_eq] at h
 have hr := Kmz n
 obtain ⟨N, k, e1, e2, hk, hN, he⟩ := Kzf (Jfy n) hr.1 hr.2
 have hq := K50 N k hN hk
 have hq2 := J9d k
 unfold Kb0 Jmv
 simp only [Jbz, Jbf, e1] at *
 rw [e2]
 have hs : Jdo 8 (k : Int) = 8 - (k : Int) := Jdk (by omega) (by omega)
 rw [Jaa (by simp only [Jdm, decide_eq_true_eq]; exact hr), hs, Kzc N k (by omega), Jaa (by simp; omega), Jaa (by rw [Jja (by omega) (by omega)]; simp; omega)]
 have hmod : N / 2 ^ (8 * k) % 256 = N / 2 ^ (8 * k) := Nat.mod_eq_of_lt (by omega)
 rw [hmod, Kzd k hk _ (by omega) hq, Jaa (Jea (by simp; omega)), Jdk (by omega) (by omega), Krs _ _ _ N k 9 _ (by omega) hk (by simp; omega), he]
 simp⟩
theorem Jys (dst : List UInt8) (n : Int) (h : Jfz dst n = true) : ∃ F, ∀ {X : Type} (fail : X) (ret : List UInt8 → X), Jui F dst n fail ret = ret (Jjq dst n) := ⟨0, fun fail ret => by
 have h' := h
 simp only [Jfz, decide_eq_true_eq] at h'
 unfold Jui
 rw [Jaa (by simp only [Jbh, decide_eq_true_eq]; exact h'.1), Jaa (by exact h)]
 rfl⟩
theorem K8a (b : UInt8) : ∃ i, i < 256 ∧ b = UInt8.ofNat i := ⟨b.toNat, b.toNat_lt, by simp⟩
theorem K8b : ∀ i : Nat, i < 256 → J60 (UInt8.ofNat i) ≤ 8 := by decide +kernel
theorem K37 : ∀ i : Nat, i < 256 → (8 : Int) - J83 (K2g (UInt8.ofNat i)).toNat = J60 (UInt8.ofNat i) := by decide +kernel
theorem Kt6 : ∀ i : Nat, i < 256 → J60 (UInt8.ofNat i) ≤ 7 → andB (UInt8.ofNat i) (shrB 127 (J60 (UInt8.ofNat i) : Int)) = UInt8.ofNat (i - (256 - 2 ^ (8 - J60 (UInt8.ofNat i)))) := by decide +kernel
theorem K38 : ∀ i : Nat, i < 256 → J60 (UInt8.ofNat i) ≤ 7 → i - (256 - 2 ^ (8 - J60 (UInt8.ofNat i))) < 2 ^ (7 - J60 (UInt8.ofNat i)) ∧ 256 - 2 ^ (8 - J60 (UInt8.ofNat i)) ≤ i := by decide +kernel
theorem J37 : ∀ (l : List UInt8) (a s : Nat), a < 2 ^ s → Jec a l < 2 ^ (s + 8 * l.length)
 | [], a, s, h => by simpa [Jec] using h
 | c :: l, a, s, h => by
  have hc := c.toNat_lt
  have e : 2 ^ (s + 8) = 256 * 2 ^ s := by rw [Nat.pow_add]; omega
  have := J37 l (256 * a + c.toNat) (s + 8) (by omega)
  simp only [Jec, List.foldl_cons, List.length_cons] at this ⊢
  have e2 : s + 8 * (l.length + 1) = s + 8 + 8 * l.length := by omega
  rw [e2]; exact this
theorem Kcs (a : Nat) (l : List UInt8) (c : UInt8) : Jec a (l ++ [c]) = 256 * Jec a l + c.toNat := by simp [Jec]
theorem K8c (n : Nat) (c : UInt8) (h : n < 2 ^ 48) : orI (K7b (n : Int) 8) (Jfv c) = ((256 * n + c.toNat : Nat) : Int) := by
 have hc := c.toNat_lt
 have e : K7b (n : Int) 8 = ((256 * n : Nat) : Int) := by rw [Kxw (by omega) (by omega) (by simp; omega) (by simp; omega)]; simp; omega
 rw [e, Jyd, K5m (by omega) (by omega)]
 have := Nat.two_pow_add_eq_or_of_lt (i := 8) (b := c.toNat) (by omega) n
 rw [show 256 * n = 2 ^ 8 * n by omega, ← this]
theorem Krt {X : Type} (F : Nat) (fail : X) (ex0 : List UInt8 → Int → Int → List UInt8 → Int → Int → X) (src : List UInt8) (k : Int) (a : Nat) (t : List UInt8) (ht : t.length ≤ 7) (ha : a < 2 ^ (7 - t.length)) : ∀ (j m i : Nat), i + j = t.length → j < m →
  Jha F fail ex0 m src k (Jec a (t.take i) : Nat) t (t.length : Nat) i = ex0 src k (Jec a t : Nat) t (t.length : Nat) (t.length : Nat)
 | 0, m + 1, i, h1, h2 => by
  simp only [Jha, Jom]
  have e : i = t.length := by omega
  subst e
  rw [Jab (ff (by omega)), List.take_length]
 | j + 1, m + 1, i, h1, h2 => by
  simp only [Jha, Jom]
  have hb := J37 (t.take i) a (7 - t.length) ha
  have hl : (t.take i).length = i := by simp; omega
  rw [hl] at hb
  have hp : 2 ^ (7 - t.length + 8 * i) ≤ 2 ^ 48 := Nat.pow_le_pow_right (by omega) (by omega)
  rw [Jaa (tt (by omega)), Jaa (tt2 (by omega) (by omega)), Int.toNat_natCast, K8c _ _ (by omega), ← Kcs, ← Jhm t i 0 (by omega), Jao (by omega) (by omega)]
  exact Krt F fail ex0 src k a t ht ha j m (i + 1) (by omega) (by omega)
theorem J69 (src : List UInt8) (h : Jei src = true) : ∃ F, ∀ {X : Type} (fail : X) (ret : Int → List UInt8 → Int → X), Kb1 F src fail ret = ret (Jap src) (Jam src) (Ja9 src) := ⟨9, fun fail ret => by
 simp only [Jei, decide_eq_true_eq] at h
 cases src with
 | nil => rfl
 | cons b r =>
  obtain ⟨i, hi, rfl⟩ := K8a b
  have hle := K8b i hi
  have hnot := K37 i hi
  have hfst := Kt6 i hi
  have hflt := K38 i hi
  have hi2 : (UInt8.ofNat i).toNat = i := by simp; omega
  simp only [Jap, Jam, Ja9, Jbt, hi2]
  unfold Kb1
  simp only [List.length_cons, Jay, show List.getD (UInt8.ofNat i :: r) 0 (0 : UInt8) = UInt8.ofNat i from rfl, hnot]
  generalize hk : J60 (UInt8.ofNat i) = k at *
  rw [Jab (Jmt (by omega)), Jaa (tt (by omega))]
  by_cases h8 : k = 8
  ·rw [if_pos h8, Jaa (tt (by omega))]
  rw [if_neg h8, Jab (ff (by omega))]
  have hflt := hflt (by omega)
  by_cases hr : r.length < k
  ·rw [if_pos hr, Jaa (tt (by omega))]
  rw [if_neg hr, Jab (ff (by omega)), Jaa (tt (by omega)), Jaa (tt (by omega)), Jao (by omega) (by omega), Jaa (tt2 (by omega) (by omega)), hfst (by omega)]
  have et : List.drop 1 (List.take ((k : Int) + 1).toNat (UInt8.ofNat i :: r)) = r.take k := by
   rw [show ((k : Int) + 1).toNat = k + 1 by omega]; rfl
  have ht : (r.take k).length = k := by simp; omega
  have hc : Jfv (UInt8.ofNat (i - (256 - 2 ^ (8 - k)))) = ((i - (256 - 2 ^ (8 - k)) : Nat) : Int) := by
   rw [Jyd]; simp; omega
  rw [et, hc]
  have hloop := Krt 9 fail (fun (src1 : List UInt8) (k : Int) (n : Int) (s33 : List UInt8) (s34 : Int) (s35 : Int) =>
   bif (decide (n > (9007199254740991 : Int))) then ret (0 : Int) ([] : List UInt8) (3 : Int)
   else bif (Jdm n) then bif ((Jbf n) != k) then ret (0 : Int) ([] : List UInt8) (3 : Int)
   else bif ((decide ((0 : Int) ≤ (Jar k (1 : Int)))) && (decide ((Jar k (1 : Int)) ≤ ((src1.length : Nat) : Int)))) then
   bif (Jbh (List.drop ((Jar k (1 : Int))).toNat src1)) then ret n (Jb7 (List.drop ((Jar k (1 : Int))).toNat src1)) (0 : Int)
   else fail else fail else fail) (UInt8.ofNat i :: r) k (i - (256 - 2 ^ (8 - k))) (r.take k) (by omega) (by rw [ht]; exact hflt.1) k 9 0 (by omega) (by omega)
  simp only [List.take_zero] at hloop
  have hb0 : Jec (i - (256 - 2 ^ (8 - k))) [] = i - (256 - 2 ^ (8 - k)) := rfl
  rw [hb0] at hloop
  refine hloop.trans ?_
  clear hloop
  generalize hn : Jec (i - (256 - 2 ^ (8 - k))) (r.take k) = n
  by_cases h1 : (n : Int) > 9007199254740991
  ·rw [Jaa (tt h1), if_pos (.inl h1)]
  rw [Jab (ff h1), Jaa (by simp only [Jdm, decide_eq_true_eq]; omega)]
  by_cases h2 : fur (n : Int) = k
  ·rw [if_neg (by unfold Kq3; omega)]
   simp only [Jbf]
   rw [h2, Jab (Jgi rfl), Jao (by omega) (by omega), Jaa (tt2 (by omega) (by simp; omega)), Jaa (c := Jbh _) (tt (by simp only [List.length_drop, List.length_cons] at h ⊢; omega))]
   rw [show ((k : Int) + 1).toNat = k + 1 by omega]
   rfl
  ·rw [if_pos (.inr h2)]
   simp only [Jbf]
   rw [Jaa (Jh9 h2)]⟩
end Go.AI
