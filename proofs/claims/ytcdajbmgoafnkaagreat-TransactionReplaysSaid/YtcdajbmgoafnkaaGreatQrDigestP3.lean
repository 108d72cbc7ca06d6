/- Texts of the proof, joined: DigestP3. Names of our own are shortened by program; the long ones stand in wip/. -/
import Derived.Test.YtcdajbmgoafnkaaGreatQrDigestP2
namespace Go.AI
open Go
theorem K66 (_ : J6a = true) : ∃ F, ∀ {X : Type} (fail : X) (ret : HH → X), hNew F fail ret = ret Jhv := ⟨1, fun _ _ => rfl⟩
theorem K67 (_ : K3z = true) : ∃ F, ∀ {X : Type} (fail : X) (ret : HH → X), sNew F fail ret = ret J6c := ⟨1, fun _ _ => rfl⟩
theorem Krs (h : HH) : ∃ F, ∀ {X : Type} (fail : X) (ret : Int → X), Qb3 F h fail ret = ret (J1d h) := ⟨1, fun fail ret => by
 unfold Qb3 J1d K6x
 by_cases h1 : h.2.2.1 < 0
 ·rw [Jaa (tt h1), if_pos (.inl h1)]
 rw [Jab (ff h1)]
 by_cases h2 : 9007199254740991 < h.2.2.1
 ·rw [Jaa (tt h2), if_pos (.inr (.inl h2))]
 rw [Jab (ff h2), Jj6 (by omega)]
 by_cases h3 : (h.2.1.length : Int) = h.2.2.1 % 64
 ·rw [Jab (Jgm h3), if_neg (by omega)]
 ·rw [Jaa (Jhl h3), if_pos (by omega)]⟩
theorem hw_l1 {X : Type} (F m : Nat) (fail : X) (ex : List UInt8 → List UInt32 → Int → HH → HH → List UInt32 → X) (b : List UInt8) (s : List UInt32) (h s4 : HH) (hs : s.length = 8) :
  Jwv F fail ex (m + 9) b s 0 h s4 [0, 0, 0, 0, 0, 0, 0, 0] = ex b s 8 h s4 s := by
 obtain ⟨s0, s1, s2, s3, s4', s5, s6, s7, rfl⟩ := Qn1 hs
 kernel_rfl
theorem hw_l3 {X : Type} (F m : Nat) (fail : X) (ex : List UInt32 → Int → HH → List UInt32 → (Int × Unit) → List UInt8 → X) (s : List UInt32) (s4 : HH) (o : Int × Unit) (l : List UInt8) (hs : s.length = 8) :
  Jww F fail ex (m + 9) s 0 s4 [0, 0, 0, 0, 0, 0, 0, 0] o l = ex s 8 s4 s o l := by
 obtain ⟨s0, s1, s2, s3, s4', s5, s6, s7, rfl⟩ := Qn1 hs
 kernel_rfl
theorem Jxp : ∀ (n : Nat) (s : List UInt32) (l : List UInt8), s.length = 8 → (K9n n s l).length = 8
 | 0, _, _, h => h
 | n + 1, s, l, _ => Jxp n _ _ (Qil s (l.take 64))
theorem Qo4 {X : Type} (F : Nat) (fail : X) (ex : List UInt8 → List UInt8 → HH → HH → List UInt32 → X) (b : List UInt8) (h s4 : HH) : ∀ (n m : Nat) (l : List UInt8) (s : List UInt32), l.length / 64 = n → n ≤ m → s.length = 8 →
  Jmu F fail ex (m + 1) b l h s4 s = ex b (l.drop (64 * n)) h s4 (K9n n s l)
 | 0, m, l, s, hn, _, _ => by
  rw [Jmu, J1y]
  rw [Jab (ff (by omega))]
  rfl
 | n + 1, 0, l, s, _, hm, _ => absurd hm (by omega)
 | n + 1, m + 1, l, s, hn, hm, hs => by
  have ih := Qo4 F fail ex b h s4 n m (l.drop 64) (Qbs s (l.take 64)) (by rw [List.length_drop]; omega) (by omega) rfl
  rw [Jmu, J1y]
  rw [Jaa (tt (by omega)), Jaa (c := J09 s l) (tt ⟨hs, by omega⟩), Jaa (tt (by omega))]
  refine ih.trans ?_
  rw [List.drop_drop, show 64 + 64 * n = 64 * (n + 1) by omega]; rfl
theorem Kbe {h : HH} (k : okH h = true) : h.1.length = 8 ∧ h.2.1.length ≤ 1000 ∧ 0 ≤ h.2.2.1 ∧ h.2.2.1 ≤ 1152921504606846976 := by
 simpa only [okH, decide_eq_true_eq] using k
theorem Krt (h : HH) (b : List UInt8) (k : Jeq h b = true) : ∃ F, ∀ {X : Type} (fail : X) (ret : HH → X), Qb0 F h b fail ret = ret (Jdb h b) := ⟨(h.2.1 ++ b).length / 64 + 1 + 8, fun fail ret => by
 simp only [Jeq, Bool.and_eq_true, decide_eq_true_eq] at k
 obtain ⟨k1, k2, k3, k4⟩ := Kbe k.1
 have kb := k.2
 have hl : (h.2.1 ++ b).length ≤ 2000000000 := by rw [List.length_append]; omega
 unfold Qb0
 refine (hw_l1 _ ((h.2.1 ++ b).length / 64) fail _ b h.1 h _ k1).trans ?_
 rw [List.take_length, Jaa (by simp), Jaa (Jch (by omega))]
 refine (Qo4 _ fail _ b h _ _ ((h.2.1 ++ b).length / 64 + 8) (h.2.1 ++ b) h.1 rfl (by omega) k1).trans ?_
 rw [Jaa (Jch (by rw [List.length_drop]; omega))]
 refine (hw_l3 _ ((h.2.1 ++ b).length / 64) fail _ _ _ _ _ (Jxp _ _ _ k1)).trans ?_
 rw [Jai (by omega) (by omega)]
 rfl⟩
theorem ra_l {X : Type} (F : Nat) (fail : X) (ex : List UInt8 → HH → HH → X) (s4 : HH) (r : List UInt8 × Int × Unit) : ∀ (n m : Nat) (l : List UInt8) (s : List UInt32), l.length / 64 = n → n ≤ m → s.length = 8 →
  Jkc F fail ex (m + 1) l (s, r) s4 = ex (l.drop (64 * n)) (K9n n s l, r) s4
 | 0, m, l, s, hn, _, _ => by
  rw [Jkc, Jwz]
  rw [Jab (ff (by omega))]
  rfl
 | n + 1, 0, l, s, _, hm, _ => absurd hm (by omega)
 | n + 1, m + 1, l, s, hn, hm, hs => by
  have ih := ra_l F fail ex s4 r n m (l.drop 64) (Qbs s (l.take 64)) (by rw [List.length_drop]; omega) (by omega) rfl
  rw [Jkc, Jwz]
  rw [Jaa (tt (by omega)), Jaa (tt (by omega)), Jaa (c := Jub (s, r).1 (l.take 64)) (tt ⟨hs, by rw [List.length_take]; omega⟩), Jaa (tt (by omega)), show Jp4 (s, r).1 (l.take 64) = Qbs s (l.take 64) by unfold Jp4; rw [List.take_take]; rfl]
  refine ih.trans ?_
  rw [List.drop_drop, show 64 + 64 * n = 64 * (n + 1) by omega]; rfl
theorem Kmn (h : HH) (b : List UInt8) (k : Jjl h b = true) : ∃ F, ∀ {X : Type} (fail : X) (ret : HH → X), Kyh F h b fail ret = ret (Jp5 h b) := ⟨(h.2.1 ++ b).length / 64 + 1, fun fail ret => by
 simp only [Jjl, Bool.and_eq_true, decide_eq_true_eq] at k
 obtain ⟨k1, k2, k3, k4⟩ := Kbe k.1
 have kb := k.2
 have hl : (h.2.1 ++ b).length ≤ 2000000000 := by rw [List.length_append]; omega
 unfold Kyh
 rw [Jaa (Jch (by omega)), Jaa (Jch (by omega))]
 refine (ra_l _ fail _ _ _ _ _ (h.2.1 ++ b) h.1 rfl (Nat.le_refl _) k1).trans ?_
 rw [Jai (by omega) (by omega)]
 rfl⟩
theorem Jjf {X : Type} (F : Nat) (fail : X) (ex : Int → HH → List UInt8 → List UInt8 → X) (h : HH) (s2 : List UInt8) (h0 : 0 ≤ h.2.2.1) (h1 : h.2.2.1 ≤ 1152921504606846976) (m i : Nat) (hi : i < 8) (c e : Int) (hc : c = ((56 - 8 * i : Nat) : Int)) (he : e = c - 8) (p : List UInt8) (hp : p.length ≤ 1000) :
  Jgy F fail ex (m + 1) c h s2 p = Jgy F fail ex m e h s2 (p ++ [UInt8.ofNat (8 * h.2.2.1.toNat / 2 ^ (56 - 8 * i) % 256)]) := by
 subst he
 have em : Qbo (Kib h.2.2.1) 8 = ((8 * h.2.2.1.toNat : Nat) : Int) := by
  rw [Kx7 h0 (by omega)]
  show IntKind.u64.wrap (h.2.2.1 * 8) = _
  rw [K3w]; omega
 have eb : Jt8 (Jls (Qbo (Kib h.2.2.1) 8) c) = UInt8.ofNat (8 * h.2.2.1.toNat / 2 ^ (56 - 8 * i) % 256) := by
  rw [em, hc, Kat (by omega) (by omega), Kx6, Int.toNat_natCast]
  congr 1
 rw [Jgy, Jwx]
 rw [Jaa (tt (by omega)), Jaa (tt (by omega)), eb, Jaa (Jch (by rw [List.length_append]; show p.length + 1 ≤ _; omega)), Jca (by omega) (by omega)]
theorem hf_l1 {X : Type} (F : Nat) (fail : X) (ex : Int → HH → List UInt8 → List UInt8 → X) (h : HH) (s2 : List UInt8) (h0 : 0 ≤ h.2.2.1) (h1 : h.2.2.1 ≤ 1152921504606846976) (m : Nat) (p : List UInt8) (hp : p.length ≤ 100) :
  Jgy F fail ex (m + 9) 56 h s2 p = ex (-8) h s2 (p ++ be8 (8 * h.2.2.1.toNat)) := by
 rw [Jjf F fail ex h s2 h0 h1 _ 0 (by omega) 56 48 rfl rfl p (by omega), Jjf F fail ex h s2 h0 h1 _ 1 (by omega) 48 40 rfl rfl _ (by simp; omega), Jjf F fail ex h s2 h0 h1 _ 2 (by omega) 40 32 rfl rfl _ (by simp; omega), Jjf F fail ex h s2 h0 h1 _ 3 (by omega) 32 24 rfl rfl _ (by simp; omega), Jjf F fail ex h s2 h0 h1 _ 4 (by omega) 24 16 rfl rfl _ (by simp; omega), Jjf F fail ex h s2 h0 h1 _ 5 (by omega) 16 8 rfl rfl _ (by simp; omega), Jjf F fail ex h s2 h0 h1 _ 6 (by omega) 8 0 rfl rfl _ (by simp; omega), Jjf F fail ex h s2 h0 h1 _ 7 (by omega) 0 (-8) rfl rfl _ (by simp; omega)]
 rw [Jgy, Jwx]
 rw [Jab (ff (by omega))]
 simp only [List.append_assoc, List.cons_append, List.nil_append]
 rfl
theorem hf_l2 {X : Type} (fail : X) (ex : List UInt32 → Int → List UInt8 → List UInt8 → X) (s : List UInt32) (s2 : List UInt8) (hs : s.length = 8) :
  Jr3 99 fail ex 99 s 0 s2 (List.replicate 32 0) = ex s 8 s2 (Qoo s) := by
 obtain ⟨s0, s1, s2, s3, s4', s5, s6, s7, rfl⟩ := Qn1 hs
 kernel_rfl
theorem Kmo (n : Nat) : (List.replicate (n + 1) (0 : UInt8)).set 0 128 = 128 :: List.replicate n 0 := rfl
theorem Kmp (h : HH) (k : Jh0 h = true) : ∃ F, ∀ {X : Type} (fail : X) (ret : List UInt8 → X), Kyf F h fail ret = ret (Jlb h) := ⟨99, fun fail ret => by
 simp only [Jh0, Bool.and_eq_true, decide_eq_true_eq] at k
 obtain ⟨k1, k2, k3, k4⟩ := Kbe k.1
 have kb := k.2
 have e : Jag 1 (Jcg (Jby 119 (h.2.1.length : Int)) 64) = (((119 - h.2.1.length) % 64 + 1 : Nat) : Int) := by
  rw [Jca (by omega) (by omega), Jj6 (by omega), Jai (by omega) (by omega)]; omega
 unfold Kyf
 rw [e, Jaa (tt3 (by omega) (by omega) (by unfold big; omega)), Int.toNat_natCast, Jaa (tt (by rw [List.length_replicate]; omega)), Kmo]
 refine (hf_l1 99 fail _ h _ k3 k4 90 _ (by simp; omega)).trans ?_
 rw [Jaa (c := Jeq h _) (by simp only [Jeq, k.1, Bool.true_and, decide_eq_true_eq]; simp [be8]; omega)]
 refine (hf_l2 fail _ _ _ (Jxp _ _ _ k1)).trans ?_
 rfl⟩
theorem Qc4 : okH K3y = true := rfl
theorem Qc5 {h : HH} {b : List UInt8} (k : okH h = true) (hl : h.2.2.1 + b.length ≤ 1152921504606846976) : okH (wrH h b) = true ∧ (wrH h b).2.1.length < 64 := by
 obtain ⟨k1, k2, k3, k4⟩ := Kbe k
 have hd : (wrH h b).2.1.length < 64 := by
  show ((h.2.1 ++ b).drop _).length < 64
  rw [List.length_drop]; omega
 refine ⟨?_, hd⟩
 unfold okH
 rw [decide_eq_true_eq]
 refine ⟨Jxp _ _ _ k1, by omega, ?_, ?_⟩
 ·show 0 ≤ h.2.2.1 + b.length; omega
 ·exact hl
theorem K68 (b : List UInt8) (h : Kq5 b = true) : ∃ F, ∀ {X : Type} (fail : X) (ret : List UInt8 → X), dSum F b fail ret = ret (Jyc b) := ⟨1, fun fail ret => by
 simp only [Kq5, decide_eq_true_eq] at h
 have hw := Qc5 (b := b) Qc4 (by show (0 : Int) + _ ≤ _; omega)
 unfold dSum
 rw [Jaa (c := J6a) rfl, Jaa (c := Jeq Jhv b) (by simp only [Jeq, show okH Jhv = true from rfl, Bool.true_and, decide_eq_true_eq]; exact h), Jaa (c := Jh0 (Jdb Jhv b)) (by simp only [Jh0, Jdb, Jhv, hw.1, Bool.true_and]; exact tt hw.2)]
 rfl⟩
theorem Qo5 {X : Type} (F : Nat) (fail : X) (ex : Int → HH → List UInt8 → List UInt8 → X) (bits : Int) (h : HH) (s2 : List UInt8) (hb : h.2.1.length < 64) : ∀ (j m i : Nat), i + j = (119 - h.2.1.length) % 64 → j ≤ m →
  Jkd F fail ex (m + 1) bits h s2 (128 :: List.replicate i 0) = ex bits h s2 (128 :: List.replicate ((119 - h.2.1.length) % 64) 0)
 | 0, m, i, hi, _ => by
  have e : i = (119 - h.2.1.length) % 64 := by omega
  subst e
  rw [Jkd, Jw0]
  simp only [List.length_cons, List.length_replicate]
  rw [Jai (by omega) (by omega), Jj6 (by omega), Jab (Jgm (by omega))]
 | j + 1, 0, i, _, hm => absurd hm (by omega)
 | j + 1, m + 1, i, hi, hm => by
  have ih := Qo5 F fail ex bits h s2 hb j m (i + 1) (by omega) (by omega)
  rw [Jkd, Jw0]
  have hl : (128 :: List.replicate i (0 : UInt8)).length = i + 1 := by simp
  rw [hl, Jai (by omega) (by omega), Jj6 (by omega), Jaa (Jhl (by omega)), Jaa (Jch (by rw [List.length_append, hl]; show i + 1 + 1 ≤ _; omega))]
  rw [show 128 :: List.replicate i (0 : UInt8) ++ [0] = 128 :: List.replicate (i + 1) 0 by rw [List.replicate_succ', List.cons_append]]
  exact ih
theorem Jjg {X : Type} (F : Nat) (fail : X) (ex : Int → Int → HH → List UInt8 → List UInt8 → X) (h : HH) (s2 : List UInt8) (h0 : 0 ≤ h.2.2.1) (h1 : h.2.2.1 ≤ 1152921504606846976) (m i : Nat) (hi : i < 8) (c e : Int) (hc : c = ((7 - i : Nat) : Int)) (he : e = c - 1) (p : List UInt8) (hp : p.length ≤ 1000) :
  Jgz F fail ex (m + 1) (Qbo (Kib h.2.2.1) 8) c h s2 p = Jgz F fail ex m (Qbo (Kib h.2.2.1) 8) e h s2 (p ++ [UInt8.ofNat (8 * h.2.2.1.toNat / 2 ^ (56 - 8 * i) % 256)]) := by
 subst he
 have em : Qbo (Kib h.2.2.1) 8 = ((8 * h.2.2.1.toNat : Nat) : Int) := by
  rw [Kx7 h0 (by omega)]
  show IntKind.u64.wrap (h.2.2.1 * 8) = _
  rw [K3w]; omega
 have ec : Je6 8 c = ((56 - 8 * i : Nat) : Int) := by rw [hc, Jff (by omega) (by omega)]; omega
 have eb : Jt8 (Jls (Qbo (Kib h.2.2.1) 8) (Je6 8 c)) = UInt8.ofNat (8 * h.2.2.1.toNat / 2 ^ (56 - 8 * i) % 256) := by
  rw [em, ec, Kat (by omega) (by omega), Kx6, Int.toNat_natCast]
  congr 1
 rw [Jgz, Jw1]
 rw [Jaa (tt (by omega)), eb, Jaa (tt (by omega)), Jaa (Jch (by rw [List.length_append]; show p.length + 1 ≤ _; omega)), Jca (by omega) (by omega)]
theorem rf_l2 {X : Type} (F : Nat) (fail : X) (ex : Int → Int → HH → List UInt8 → List UInt8 → X) (h : HH) (s2 : List UInt8) (h0 : 0 ≤ h.2.2.1) (h1 : h.2.2.1 ≤ 1152921504606846976) (m : Nat) (p : List UInt8) (hp : p.length ≤ 100) :
  Jgz F fail ex (m + 9) (Qbo (Kib h.2.2.1) 8) 7 h s2 p = ex (Qbo (Kib h.2.2.1) 8) (-1) h s2 (p ++ be8 (8 * h.2.2.1.toNat)) := by
 rw [Jjg F fail ex h s2 h0 h1 _ 0 (by omega) 7 6 rfl rfl p (by omega), Jjg F fail ex h s2 h0 h1 _ 1 (by omega) 6 5 rfl rfl _ (by simp; omega), Jjg F fail ex h s2 h0 h1 _ 2 (by omega) 5 4 rfl rfl _ (by simp; omega), Jjg F fail ex h s2 h0 h1 _ 3 (by omega) 4 3 rfl rfl _ (by simp; omega), Jjg F fail ex h s2 h0 h1 _ 4 (by omega) 3 2 rfl rfl _ (by simp; omega), Jjg F fail ex h s2 h0 h1 _ 5 (by omega) 2 1 rfl rfl _ (by simp; omega), Jjg F fail ex h s2 h0 h1 _ 6 (by omega) 1 0 rfl rfl _ (by simp; omega), Jjg F fail ex h s2 h0 h1 _ 7 (by omega) 0 (-1) rfl rfl _ (by simp; omega)]
 rw [Jgz, Jw1]
 rw [Jab (ff (by omega))]
 simp only [List.append_assoc, List.cons_append, List.nil_append]
 rfl
theorem rf_l3 {X : Type} (fail : X) (ex : Int → HH → List UInt8 → List UInt8 → X) (h : HH) (s2 : List UInt8) (hs : h.1.length = 8) :
  Jr4 99 fail ex 99 0 h s2 (List.replicate 32 0) = ex 32 h s2 (Qoo h.1) := by
 obtain ⟨s, r⟩ := h
 obtain ⟨s0, s1, s2, s3, s4', s5, s6, s7, rfl⟩ := Qn1 (l := s) hs
 kernel_rfl
theorem Qmu {h : HH} (k : K6x h = 0) : 0 ≤ h.2.2.1 ∧ h.2.2.1 ≤ 9007199254740991 ∧ (h.2.1.length : Int) = h.2.2.1 % 64 := by
 unfold K6x at k
 by_cases c : h.2.2.1 < 0 ∨ 9007199254740991 < h.2.2.1 ∨ (h.2.1.length : Int) ≠ h.2.2.1 % 64
 ·rw [if_pos c] at k; exact absurd k (by omega)
 ·omega
theorem Qmv (h : HH) : K6x h = 0 ∨ K6x h = 3 := by
 unfold K6x; split
 ·exact .inr rfl
 ·exact .inl rfl
theorem Qmw {h : HH} (k : K6x h = 0) (hs : h.1.length = 8) : okH h = true ∧ h.2.1.length < 64 := by
 obtain ⟨c1, c2, c3⟩ := Qmu k
 refine ⟨?_, by omega⟩
 unfold okH
 rw [decide_eq_true_eq]
 exact ⟨hs, by omega, c1, by omega⟩
theorem Kmq (h : HH) (k : Juc h = true) : ∃ F, ∀ {X : Type} (fail : X) (ret : List UInt8 → Int → X), Kyi F h fail ret = ret (Jwi h) (J38 h) := ⟨99, fun fail ret => by
 simp only [Juc, decide_eq_true_eq] at k
 unfold Kyi Jwi J38 J1d
 rcases Qmv h with c | c
 ·obtain ⟨o1, o2⟩ := Qmw c k
  obtain ⟨k1, k2, k3, k4⟩ := Kbe o1
  rw [c, Jab (Jgm rfl), if_pos rfl]
  refine (Qo5 99 fail _ _ h _ o2 _ 98 0 (by rw [Nat.zero_add]) (by omega)).trans ?_
  refine (rf_l2 99 fail _ h _ k3 k4 90 _ (by simp; omega)).trans ?_
  rw [Jaa (c := Jjl h _) (by simp only [Jjl, o1, Bool.true_and, decide_eq_true_eq]; simp [be8]; omega)]
  refine (rf_l3 fail _ _ _ (Jxp _ _ _ k1)).trans ?_
  rfl
 ·rw [c, Jaa (Jhl (by omega)), if_neg (by omega)]⟩
theorem K69 (b : List UInt8) (h : Jp6 b = true) : ∃ F, ∀ {X : Type} (fail : X) (ret : List UInt8 → X), rSum F b fail ret = ret (Jh1 b) := ⟨1, fun fail ret => by
 simp only [Jp6, decide_eq_true_eq] at h
 have hc : K6x (wrH K3y b) = 0 := by
  unfold K6x
  rw [if_neg]
  have e1 : (wrH K3y b).2.2.1 = (b.length : Int) := by show (0 : Int) + _ = _; omega
  have e2 : (wrH K3y b).2.1.length = b.length % 64 := by
   show (b.drop (64 * (b.length / 64))).length = _
   rw [List.length_drop]; omega
  rw [e1, e2]; omega
 unfold rSum
 rw [Jaa (c := K3z) rfl, Jaa (c := Jjl J6c b) (by simp only [Jjl, show okH J6c = true from rfl, Bool.true_and, decide_eq_true_eq]; exact h), Jaa (c := Juc (Jp5 J6c b)) (tt (Jxp _ _ _ rfl))]
 congr 1
 show (if K6x (wrH K3y b) = 0 then _ else _) = _
 rw [if_pos hc]
 rfl⟩
end Go.AI
