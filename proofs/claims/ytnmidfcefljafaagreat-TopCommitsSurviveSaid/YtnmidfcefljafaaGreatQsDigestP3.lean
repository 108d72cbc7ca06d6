/- Texts of the proof, joined: DigestP3. Names of our own are shortened by program; the long ones stand in wip/. -/
import Derived.Test.YtnmidfcefljafaaGreatQsDigestP2
namespace Go.AI
open Go
theorem Kr7 (_ : Jzf = true) : ∃ F, ∀ {X : Type} (fail : X) (ret : HH → X), hNew F fail ret = ret Jf4 := ⟨1, fun _ _ => rfl⟩
theorem hw_l1 {X : Type} (F m : Nat) (fail : X) (ex : List UInt8 → List UInt32 → Int → HH → HH → List UInt32 → X) (b : List UInt8) (s : List UInt32) (h s4 : HH) (hs : s.length = 8) :
  Jrw F fail ex (m + 9) b s 0 h s4 [0, 0, 0, 0, 0, 0, 0, 0] = ex b s 8 h s4 s := by
 obtain ⟨s0, s1, s2, s3, s4', s5, s6, s7, rfl⟩ := K8s hs
 kernel_rfl
theorem hw_l3 {X : Type} (F m : Nat) (fail : X) (ex : List UInt32 → Int → HH → List UInt32 → (Int × Unit) → List UInt8 → X) (s : List UInt32) (s4 : HH) (o : Int × Unit) (l : List UInt8) (hs : s.length = 8) :
  Jrx F fail ex (m + 9) s 0 s4 [0, 0, 0, 0, 0, 0, 0, 0] o l = ex s 8 s4 s o l := by
 obtain ⟨s0, s1, s2, s3, s4', s5, s6, s7, rfl⟩ := K8s hs
 kernel_rfl
theorem J1j : ∀ (n : Nat) (s : List UInt32) (l : List UInt8), s.length = 8 → (Kv6 n s l).length = 8
 | 0, _, _, h => h
 | n + 1, s, l, _ => J1j n _ _ (K12 s (l.take 64))
theorem K8t {X : Type} (F : Nat) (fail : X) (ex : List UInt8 → List UInt8 → HH → HH → List UInt32 → X) (b : List UInt8) (h s4 : HH) : ∀ (n m : Nat) (l : List UInt8) (s : List UInt32), l.length / 64 = n → n ≤ m → s.length = 8 →
  Jj8 F fail ex (m + 1) b l h s4 s = ex b (l.drop (64 * n)) h s4 (Kv6 n s l)
 | 0, m, l, s, hn, _, _ => by
  rw [Jj8, Jv6]
  rw [Jab (ff (by omega))]
  rfl
 | n + 1, 0, l, s, _, hm, _ => absurd hm (by omega)
 | n + 1, m + 1, l, s, hn, hm, hs => by
  have ih := K8t F fail ex b h s4 n m (l.drop 64) (K3p s (l.take 64)) (by rw [List.length_drop]; omega) (by omega) rfl
  rw [Jj8, Jv6]
  rw [Jaa (tt (by omega)), Jaa (c := Jvt s l) (tt ⟨hs, by omega⟩), Jaa (tt (by omega))]
  refine ih.trans ?_
  rw [List.drop_drop, show 64 + 64 * n = 64 * (n + 1) by omega]; rfl
theorem Klm {h : HH} (k : okH h = true) : h.1.length = 8 ∧ h.2.1.length ≤ 1000 ∧ 0 ≤ h.2.2.1 ∧ h.2.2.1 ≤ 1152921504606846976 := by
 simpa only [okH, decide_eq_true_eq] using k
theorem Kf3 (h : HH) (b : List UInt8) (k : Jdy h b = true) : ∃ F, ∀ {X : Type} (fail : X) (ret : HH → X), Kwe F h b fail ret = ret (Jco h b) := ⟨(h.2.1 ++ b).length / 64 + 1 + 8, fun fail ret => by
 simp only [Jdy, Bool.and_eq_true, decide_eq_true_eq] at k
 obtain ⟨k1, k2, k3, k4⟩ := Klm k.1
 have kb := k.2
 have hl : (h.2.1 ++ b).length ≤ 2000000000 := by rw [List.length_append]; omega
 unfold Kwe
 refine (hw_l1 _ ((h.2.1 ++ b).length / 64) fail _ b h.1 h _ k1).trans ?_
 rw [List.take_length, Jaa (by simp), Jaa (Jds (by omega))]
 refine (K8t _ fail _ b h _ _ ((h.2.1 ++ b).length / 64 + 8) (h.2.1 ++ b) h.1 rfl (by omega) k1).trans ?_
 rw [Jaa (Jds (by rw [List.length_drop]; omega))]
 refine (hw_l3 _ ((h.2.1 ++ b).length / 64) fail _ _ _ _ _ (J1j _ _ _ k1)).trans ?_
 rw [Jar (by omega) (by omega)]
 rfl⟩
theorem Jhb {X : Type} (F : Nat) (fail : X) (ex : Int → HH → List UInt8 → List UInt8 → X) (h : HH) (s2 : List UInt8) (h0 : 0 ≤ h.2.2.1) (h1 : h.2.2.1 ≤ 1152921504606846976) (m i : Nat) (hi : i < 8) (c e : Int) (hc : c = ((56 - 8 * i : Nat) : Int)) (he : e = c - 8) (p : List UInt8) (hp : p.length ≤ 1000) :
  Jfj F fail ex (m + 1) c h s2 p = Jfj F fail ex m e h s2 (p ++ [UInt8.ofNat (8 * h.2.2.1.toNat / 2 ^ (56 - 8 * i) % 256)]) := by
 subst he
 have em : mulU (Krw h.2.2.1) 8 = ((8 * h.2.2.1.toNat : Nat) : Int) := by
  rw [Kv4 h0 (by omega)]
  show IntKind.u64.wrap (h.2.2.1 * 8) = _
  rw [K1m]; omega
 have eb : Jsu (Jj0 (mulU (Krw h.2.2.1) 8) c) = UInt8.ofNat (8 * h.2.2.1.toNat / 2 ^ (56 - 8 * i) % 256) := by
  rw [em, hc, Kaa (by omega) (by omega), Kv3, Int.toNat_natCast]
  congr 1
 rw [Jfj, Jry]
 rw [Jaa (tt (by omega)), Jaa (tt (by omega)), eb, Jaa (Jds (by rw [List.length_append]; show p.length + 1 ≤ _; omega)), Jde (by omega) (by omega)]
theorem hf_l1 {X : Type} (F : Nat) (fail : X) (ex : Int → HH → List UInt8 → List UInt8 → X) (h : HH) (s2 : List UInt8) (h0 : 0 ≤ h.2.2.1) (h1 : h.2.2.1 ≤ 1152921504606846976) (m : Nat) (p : List UInt8) (hp : p.length ≤ 100) :
  Jfj F fail ex (m + 9) 56 h s2 p = ex (-8) h s2 (p ++ be8 (8 * h.2.2.1.toNat)) := by
 rw [Jhb F fail ex h s2 h0 h1 _ 0 (by omega) 56 48 rfl rfl p (by omega), Jhb F fail ex h s2 h0 h1 _ 1 (by omega) 48 40 rfl rfl _ (by simp; omega), Jhb F fail ex h s2 h0 h1 _ 2 (by omega) 40 32 rfl rfl _ (by simp; omega), Jhb F fail ex h s2 h0 h1 _ 3 (by omega) 32 24 rfl rfl _ (by simp; omega), Jhb F fail ex h s2 h0 h1 _ 4 (by omega) 24 16 rfl rfl _ (by simp; omega), Jhb F fail ex h s2 h0 h1 _ 5 (by omega) 16 8 rfl rfl _ (by simp; omega), Jhb F fail ex h s2 h0 h1 _ 6 (by omega) 8 0 rfl rfl _ (by simp; omega), Jhb F fail ex h s2 h0 h1 _ 7 (by omega) 0 (-8) rfl rfl _ (by simp; omega)]
 rw [Jfj, Jry]
 rw [Jab (ff (by omega))]
 simp only [List.append_assoc, List.cons_append, List.nil_append]
 rfl
theorem hf_l2 {X : Type} (fail : X) (ex : List UInt32 → Int → List UInt8 → List UInt8 → X) (s : List UInt32) (s2 : List UInt8) (hs : s.length = 8) :
  Jn3 99 fail ex 99 s 0 s2 (List.replicate 32 0) = ex s 8 s2 (outH s) := by
 obtain ⟨s0, s1, s2, s3, s4', s5, s6, s7, rfl⟩ := K8s hs
 kernel_rfl
theorem Kbf (n : Nat) : (List.replicate (n + 1) (0 : UInt8)).set 0 128 = 128 :: List.replicate n 0 := rfl
theorem Kbg (h : HH) (k : Jf9 h = true) : ∃ F, ∀ {X : Type} (fail : X) (ret : List UInt8 → X), Kk1 F h fail ret = ret (Jiu h) := ⟨99, fun fail ret => by
 simp only [Jf9, Bool.and_eq_true, decide_eq_true_eq] at k
 obtain ⟨k1, k2, k3, k4⟩ := Klm k.1
 have kb := k.2
 have e : Jat 1 (Jhk (Jdj 119 (h.2.1.length : Int)) 64) = (((119 - h.2.1.length) % 64 + 1 : Nat) : Int) := by
  rw [Jde (by omega) (by omega), J98 (by omega), Jar (by omega) (by omega)]; omega
 unfold Kk1
 rw [e, Jaa (tt3 (by omega) (by omega) (by unfold big; omega)), Int.toNat_natCast, Jaa (tt (by rw [List.length_replicate]; omega)), Kbf]
 refine (hf_l1 99 fail _ h _ k3 k4 90 _ (by simp; omega)).trans ?_
 rw [Jaa (c := Jdy h _) (by simp only [Jdy, k.1, Bool.true_and, decide_eq_true_eq]; simp [be8]; omega)]
 refine (hf_l2 fail _ _ _ (J1j _ _ _ k1)).trans ?_
 rfl⟩
theorem Kw9 : okH K1o = true := rfl
theorem Kxa {h : HH} {b : List UInt8} (k : okH h = true) (hl : h.2.2.1 + b.length ≤ 1152921504606846976) : okH (wrH h b) = true ∧ (wrH h b).2.1.length < 64 := by
 obtain ⟨k1, k2, k3, k4⟩ := Klm k
 have hd : (wrH h b).2.1.length < 64 := by
  show ((h.2.1 ++ b).drop _).length < 64
  rw [List.length_drop]; omega
 refine ⟨?_, hd⟩
 unfold okH
 rw [decide_eq_true_eq]
 refine ⟨J1j _ _ _ k1, by omega, ?_, ?_⟩
 ·show 0 ≤ h.2.2.1 + b.length; omega
 ·exact hl
theorem Kr8 (b : List UInt8) (h : Kff b = true) : ∃ F, ∀ {X : Type} (fail : X) (ret : List UInt8 → X), dSum F b fail ret = ret (Jsx b) := ⟨1, fun fail ret => by
 simp only [Kff, decide_eq_true_eq] at h
 have hw := Kxa (b := b) Kw9 (by show (0 : Int) + _ ≤ _; omega)
 unfold dSum
 rw [Jaa (c := Jzf) rfl, Jaa (c := Jdy Jf4 b) (by simp only [Jdy, show okH Jf4 = true from rfl, Bool.true_and, decide_eq_true_eq]; exact h), Jaa (c := Jf9 (Jco Jf4 b)) (by simp only [Jf9, Jco, Jf4, hw.1, Bool.true_and]; exact tt hw.2)]
 rfl⟩
end Go.AI
