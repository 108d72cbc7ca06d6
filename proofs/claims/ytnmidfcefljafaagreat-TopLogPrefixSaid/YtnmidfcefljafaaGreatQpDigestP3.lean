/- Texts of the proof, joined: DigestP3. Names of our own are shortened by program; the long ones stand in wip/. -/
import Derived.Test.YtnmidfcefljafaaGreatQpDigestP2
namespace Go.AI
open Go
theorem Kt3 (_ : Jz2 = true) : ∃ F, ∀ {X : Type} (fail : X) (ret : HH → X), hNew F fail ret = ret Jf5 := ⟨1, fun _ _ => rfl⟩
theorem hw_l1 {X : Type} (F m : Nat) (fail : X) (ex : List UInt8 → List UInt32 → Int → HH → HH → List UInt32 → X) (b : List UInt8) (s : List UInt32) (h s4 : HH) (hs : s.length = 8) :
  Jsa F fail ex (m + 9) b s 0 h s4 [0, 0, 0, 0, 0, 0, 0, 0] = ex b s 8 h s4 s := by
 obtain ⟨s0, s1, s2, s3, s4', s5, s6, s7, rfl⟩ := Qaq hs
 kernel_rfl
theorem hw_l3 {X : Type} (F m : Nat) (fail : X) (ex : List UInt32 → Int → HH → List UInt32 → (Int × Unit) → List UInt8 → X) (s : List UInt32) (s4 : HH) (o : Int × Unit) (l : List UInt8) (hs : s.length = 8) :
  Jsb F fail ex (m + 9) s 0 s4 [0, 0, 0, 0, 0, 0, 0, 0] o l = ex s 8 s4 s o l := by
 obtain ⟨s0, s1, s2, s3, s4', s5, s6, s7, rfl⟩ := Qaq hs
 kernel_rfl
theorem J2c : ∀ (n : Nat) (s : List UInt32) (l : List UInt8), s.length = 8 → (Kx1 n s l).length = 8
 | 0, _, _, h => h
 | n + 1, s, l, _ => J2c n _ _ (K33 s (l.take 64))
theorem Qar {X : Type} (F : Nat) (fail : X) (ex : List UInt8 → List UInt8 → HH → HH → List UInt32 → X) (b : List UInt8) (h s4 : HH) : ∀ (n m : Nat) (l : List UInt8) (s : List UInt32), l.length / 64 = n → n ≤ m → s.length = 8 →
  Jkh F fail ex (m + 1) b l h s4 s = ex b (l.drop (64 * n)) h s4 (Kx1 n s l)
 | 0, m, l, s, hn, _, _ => by
  rw [Jkh, Jwj]
  rw [Jab (ff (by omega))]
  rfl
 | n + 1, 0, l, s, _, hm, _ => absurd hm (by omega)
 | n + 1, m + 1, l, s, hn, hm, hs => by
  have ih := Qar F fail ex b h s4 n m (l.drop 64) (K5o s (l.take 64)) (by rw [List.length_drop]; omega) (by omega) rfl
  rw [Jkh, Jwj]
  rw [Jaa (tt (by omega)), Jaa (c := Jv8 s l) (tt ⟨hs, by omega⟩), Jaa (tt (by omega))]
  refine ih.trans ?_
  rw [List.drop_drop, show 64 + 64 * n = 64 * (n + 1) by omega]; rfl
theorem Kmy {h : HH} (k : okH h = true) : h.1.length = 8 ∧ h.2.1.length ≤ 1000 ∧ 0 ≤ h.2.2.1 ∧ h.2.2.1 ≤ 1152921504606846976 := by
 simpa only [okH, decide_eq_true_eq] using k
theorem Kg8 (h : HH) (b : List UInt8) (k : Jd2 h b = true) : ∃ F, ∀ {X : Type} (fail : X) (ret : HH → X), Kya F h b fail ret = ret (Jcs h b) := ⟨(h.2.1 ++ b).length / 64 + 1 + 8, fun fail ret => by
 simp only [Jd2, Bool.and_eq_true, decide_eq_true_eq] at k
 obtain ⟨k1, k2, k3, k4⟩ := Kmy k.1
 have kb := k.2
 have hl : (h.2.1 ++ b).length ≤ 2000000000 := by rw [List.length_append]; omega
 unfold Kya
 refine (hw_l1 _ ((h.2.1 ++ b).length / 64) fail _ b h.1 h _ k1).trans ?_
 rw [List.take_length, Jaa (by simp), Jaa (Jea (by omega))]
 refine (Qar _ fail _ b h _ _ ((h.2.1 ++ b).length / 64 + 8) (h.2.1 ++ b) h.1 rfl (by omega) k1).trans ?_
 rw [Jaa (Jea (by rw [List.length_drop]; omega))]
 refine (hw_l3 _ ((h.2.1 ++ b).length / 64) fail _ _ _ _ _ (J2c _ _ _ k1)).trans ?_
 rw [Jao (by omega) (by omega)]
 rfl⟩
theorem Jhd {X : Type} (F : Nat) (fail : X) (ex : Int → HH → List UInt8 → List UInt8 → X) (h : HH) (s2 : List UInt8) (h0 : 0 ≤ h.2.2.1) (h1 : h.2.2.1 ≤ 1152921504606846976) (m i : Nat) (hi : i < 8) (c e : Int) (hc : c = ((56 - 8 * i : Nat) : Int)) (he : e = c - 8) (p : List UInt8) (hp : p.length ≤ 1000) :
  Jfk F fail ex (m + 1) c h s2 p = Jfk F fail ex m e h s2 (p ++ [UInt8.ofNat (8 * h.2.2.1.toNat / 2 ^ (56 - 8 * i) % 256)]) := by
 subst he
 have em : mulU (Ktq h.2.2.1) 8 = ((8 * h.2.2.1.toNat : Nat) : Int) := by
  rw [Kxz h0 (by omega)]
  show IntKind.u64.wrap (h.2.2.1 * 8) = _
  rw [K3n]; omega
 have eb : Jta (Jj9 (mulU (Ktq h.2.2.1) 8) c) = UInt8.ofNat (8 * h.2.2.1.toNat / 2 ^ (56 - 8 * i) % 256) := by
  rw [em, hc, Kbk (by omega) (by omega), Kxy, Int.toNat_natCast]
  congr 1
 rw [Jfk, Jsc]
 rw [Jaa (tt (by omega)), Jaa (tt (by omega)), eb, Jaa (Jea (by rw [List.length_append]; show p.length + 1 ≤ _; omega)), Jdk (by omega) (by omega)]
theorem hf_l1 {X : Type} (F : Nat) (fail : X) (ex : Int → HH → List UInt8 → List UInt8 → X) (h : HH) (s2 : List UInt8) (h0 : 0 ≤ h.2.2.1) (h1 : h.2.2.1 ≤ 1152921504606846976) (m : Nat) (p : List UInt8) (hp : p.length ≤ 100) :
  Jfk F fail ex (m + 9) 56 h s2 p = ex (-8) h s2 (p ++ be8 (8 * h.2.2.1.toNat)) := by
 rw [Jhd F fail ex h s2 h0 h1 _ 0 (by omega) 56 48 rfl rfl p (by omega), Jhd F fail ex h s2 h0 h1 _ 1 (by omega) 48 40 rfl rfl _ (by simp; omega), Jhd F fail ex h s2 h0 h1 _ 2 (by omega) 40 32 rfl rfl _ (by simp; omega), Jhd F fail ex h s2 h0 h1 _ 3 (by omega) 32 24 rfl rfl _ (by simp; omega), Jhd F fail ex h s2 h0 h1 _ 4 (by omega) 24 16 rfl rfl _ (by simp; omega), Jhd F fail ex h s2 h0 h1 _ 5 (by omega) 16 8 rfl rfl _ (by simp; omega), Jhd F fail ex h s2 h0 h1 _ 6 (by omega) 8 0 rfl rfl _ (by simp; omega), Jhd F fail ex h s2 h0 h1 _ 7 (by omega) 0 (-8) rfl rfl _ (by simp; omega)]
 rw [Jfk, Jsc]
 rw [Jab (ff (by omega))]
 simp only [List.append_assoc, List.cons_append, List.nil_append]
 rfl
theorem hf_l2 {X : Type} (fail : X) (ex : List UInt32 → Int → List UInt8 → List UInt8 → X) (s : List UInt32) (s2 : List UInt8) (hs : s.length = 8) :
  Jok 99 fail ex 99 s 0 s2 (List.replicate 32 0) = ex s 8 s2 (outH s) := by
 obtain ⟨s0, s1, s2, s3, s4', s5, s6, s7, rfl⟩ := Qaq hs
 kernel_rfl
theorem Kcp (n : Nat) : (List.replicate (n + 1) (0 : UInt8)).set 0 128 = 128 :: List.replicate n 0 := rfl
theorem Kcq (h : HH) (k : Jf8 h = true) : ∃ F, ∀ {X : Type} (fail : X) (ret : List UInt8 → X), Kmb F h fail ret = ret (Jiy h) := ⟨99, fun fail ret => by
 simp only [Jf8, Bool.and_eq_true, decide_eq_true_eq] at k
 obtain ⟨k1, k2, k3, k4⟩ := Kmy k.1
 have kb := k.2
 have e : Jar 1 (Jcz (Jdo 119 (h.2.1.length : Int)) 64) = (((119 - h.2.1.length) % 64 + 1 : Nat) : Int) := by
  rw [Jdk (by omega) (by omega), J3o (by omega), Jao (by omega) (by omega)]; omega
 unfold Kmb
 rw [e, Jaa (tt3 (by omega) (by omega) (by unfold big; omega)), Int.toNat_natCast, Jaa (tt (by rw [List.length_replicate]; omega)), Kcp]
 refine (hf_l1 99 fail _ h _ k3 k4 90 _ (by simp; omega)).trans ?_
 rw [Jaa (c := Jd2 h _) (by simp only [Jd2, k.1, Bool.true_and, decide_eq_true_eq]; simp [be8]; omega)]
 refine (hf_l2 fail _ _ _ (J2c _ _ _ k1)).trans ?_
 rfl⟩
theorem Ky8 : okH K3p = true := rfl
theorem Ky9 {h : HH} {b : List UInt8} (k : okH h = true) (hl : h.2.2.1 + b.length ≤ 1152921504606846976) : okH (wrH h b) = true ∧ (wrH h b).2.1.length < 64 := by
 obtain ⟨k1, k2, k3, k4⟩ := Kmy k
 have hd : (wrH h b).2.1.length < 64 := by
  show ((h.2.1 ++ b).drop _).length < 64
  rw [List.length_drop]; omega
 refine ⟨?_, hd⟩
 unfold okH
 rw [decide_eq_true_eq]
 refine ⟨J2c _ _ _ k1, by omega, ?_, ?_⟩
 ·show 0 ≤ h.2.2.1 + b.length; omega
 ·exact hl
theorem Kt4 (b : List UInt8) (h : Kgo b = true) : ∃ F, ∀ {X : Type} (fail : X) (ret : List UInt8 → X), dSum F b fail ret = ret (Jtd b) := ⟨1, fun fail ret => by
 simp only [Kgo, decide_eq_true_eq] at h
 have hw := Ky9 (b := b) Ky8 (by show (0 : Int) + _ ≤ _; omega)
 unfold dSum
 rw [Jaa (c := Jz2) rfl, Jaa (c := Jd2 Jf5 b) (by simp only [Jd2, show okH Jf5 = true from rfl, Bool.true_and, decide_eq_true_eq]; exact h), Jaa (c := Jf8 (Jcs Jf5 b)) (by simp only [Jf8, Jcs, Jf5, hw.1, Bool.true_and]; exact tt hw.2)]
 rfl⟩
end Go.AI
