/- Texts of the proof, joined: DigestP3. Names of our own are shortened by program; the long ones stand in wip/. -/
import Derived.Test.YtcdajbmgoafnkaaGreatQwDigestP2
namespace Go.AI
open Go
theorem Kzx (_ : J2l = true) : ∃ F, ∀ {X : Type} (fail : X) (ret : HH → X), hNew F fail ret = ret Jgf := ⟨1, fun _ _ => rfl⟩
theorem Kzy (_ : Kwx = true) : ∃ F, ∀ {X : Type} (fail : X) (ret : HH → X), sNew F fail ret = ret J2n := ⟨1, fun _ _ => rfl⟩
theorem Kln (h : HH) : ∃ F, ∀ {X : Type} (fail : X) (ret : Int → X), K4o F h fail ret = ret (Jyb h) := ⟨1, fun fail ret => by
 unfold K4o Jyb Kzn
 by_cases h1 : h.2.2.1 < 0
 ·rw [Jaa (tt h1), if_pos (.inl h1)]
 rw [Jab (ff h1)]
 by_cases h2 : 9007199254740991 < h.2.2.1
 ·rw [Jaa (tt h2), if_pos (.inr (.inl h2))]
 rw [Jab (ff h2), Jnu (by omega)]
 by_cases h3 : (h.2.1.length : Int) = h.2.2.1 % 64
 ·rw [Jab (Jgh h3), if_neg (by omega)]
 ·rw [Jaa (Jj8 h3), if_pos (by omega)]⟩
theorem hw_l1 {X : Type} (F m : Nat) (fail : X) (ex : List UInt8 → List UInt32 → Int → HH → HH → List UInt32 → X) (b : List UInt8) (s : List UInt32) (h s4 : HH) (hs : s.length = 8) :
  Jt0 F fail ex (m + 9) b s 0 h s4 [0, 0, 0, 0, 0, 0, 0, 0] = ex b s 8 h s4 s := by
 obtain ⟨s0, s1, s2, s3, s4', s5, s6, s7, rfl⟩ := Qg9 hs
 kernel_rfl
theorem hw_l3 {X : Type} (F m : Nat) (fail : X) (ex : List UInt32 → Int → HH → List UInt32 → (Int × Unit) → List UInt8 → X) (s : List UInt32) (s4 : HH) (o : Int × Unit) (l : List UInt8) (hs : s.length = 8) :
  Jt1 F fail ex (m + 9) s 0 s4 [0, 0, 0, 0, 0, 0, 0, 0] o l = ex s 8 s4 s o l := by
 obtain ⟨s0, s1, s2, s3, s4', s5, s6, s7, rfl⟩ := Qg9 hs
 kernel_rfl
theorem Jup : ∀ (n : Nat) (s : List UInt32) (l : List UInt8), s.length = 8 → (K15 n s l).length = 8
 | 0, _, _, h => h
 | n + 1, s, l, _ => Jup n _ _ (Qbb s (l.take 64))
theorem Qif {X : Type} (F : Nat) (fail : X) (ex : List UInt8 → List UInt8 → HH → HH → List UInt32 → X) (b : List UInt8) (h s4 : HH) : ∀ (n m : Nat) (l : List UInt8) (s : List UInt32), l.length / 64 = n → n ≤ m → s.length = 8 →
  Jli F fail ex (m + 1) b l h s4 s = ex b (l.drop (64 * n)) h s4 (K15 n s l)
 | 0, m, l, s, hn, _, _ => by
  rw [Jli, Jym]
  rw [Jab (ff (by omega))]
  rfl
 | n + 1, 0, l, s, _, hm, _ => absurd hm (by omega)
 | n + 1, m + 1, l, s, hn, hm, hs => by
  have ih := Qif F fail ex b h s4 n m (l.drop 64) (K39 s (l.take 64)) (by rw [List.length_drop]; omega) (by omega) rfl
  rw [Jli, Jym]
  rw [Jaa (tt (by omega)), Jaa (c := Jx7 s l) (tt ⟨hs, by omega⟩), Jaa (tt (by omega))]
  refine ih.trans ?_
  rw [List.drop_drop, show 64 + 64 * n = 64 * (n + 1) by omega]; rfl
theorem J6z {h : HH} (k : okH h = true) : h.1.length = 8 ∧ h.2.1.length ≤ 1000 ∧ 0 ≤ h.2.2.1 ∧ h.2.2.1 ≤ 1152921504606846976 := by
 simpa only [okH, decide_eq_true_eq] using k
theorem Klo (h : HH) (b : List UInt8) (k : Jdz h b = true) : ∃ F, ∀ {X : Type} (fail : X) (ret : HH → X), K4l F h b fail ret = ret (Jcq h b) := ⟨(h.2.1 ++ b).length / 64 + 1 + 8, fun fail ret => by
 simp only [Jdz, Bool.and_eq_true, decide_eq_true_eq] at k
 obtain ⟨k1, k2, k3, k4⟩ := J6z k.1
 have kb := k.2
 have hl : (h.2.1 ++ b).length ≤ 2000000000 := by rw [List.length_append]; omega
 unfold K4l
 refine (hw_l1 _ ((h.2.1 ++ b).length / 64) fail _ b h.1 h _ k1).trans ?_
 rw [List.take_length, Jaa (by simp), Jaa (Jcg (by omega))]
 refine (Qif _ fail _ b h _ _ ((h.2.1 ++ b).length / 64 + 8) (h.2.1 ++ b) h.1 rfl (by omega) k1).trans ?_
 rw [Jaa (Jcg (by rw [List.length_drop]; omega))]
 refine (hw_l3 _ ((h.2.1 ++ b).length / 64) fail _ _ _ _ _ (Jup _ _ _ k1)).trans ?_
 rw [Jak (by omega) (by omega)]
 rfl⟩
theorem ra_l {X : Type} (F : Nat) (fail : X) (ex : List UInt8 → HH → HH → X) (s4 : HH) (r : List UInt8 × Int × Unit) : ∀ (n m : Nat) (l : List UInt8) (s : List UInt32), l.length / 64 = n → n ≤ m → s.length = 8 →
  Ji4 F fail ex (m + 1) l (s, r) s4 = ex (l.drop (64 * n)) (K15 n s l, r) s4
 | 0, m, l, s, hn, _, _ => by
  rw [Ji4, Jt4]
  rw [Jab (ff (by omega))]
  rfl
 | n + 1, 0, l, s, _, hm, _ => absurd hm (by omega)
 | n + 1, m + 1, l, s, hn, hm, hs => by
  have ih := ra_l F fail ex s4 r n m (l.drop 64) (K39 s (l.take 64)) (by rw [List.length_drop]; omega) (by omega) rfl
  rw [Ji4, Jt4]
  rw [Jaa (tt (by omega)), Jaa (tt (by omega)), Jaa (c := Jry (s, r).1 (l.take 64)) (tt ⟨hs, by rw [List.length_take]; omega⟩), Jaa (tt (by omega)), show Jn8 (s, r).1 (l.take 64) = K39 s (l.take 64) by unfold Jn8; rw [List.take_take]; rfl]
  refine ih.trans ?_
  rw [List.drop_drop, show 64 + 64 * n = 64 * (n + 1) by omega]; rfl
theorem Kgn (h : HH) (b : List UInt8) (k : Jh7 h b = true) : ∃ F, ∀ {X : Type} (fail : X) (ret : HH → X), Krm F h b fail ret = ret (Jn9 h b) := ⟨(h.2.1 ++ b).length / 64 + 1, fun fail ret => by
 simp only [Jh7, Bool.and_eq_true, decide_eq_true_eq] at k
 obtain ⟨k1, k2, k3, k4⟩ := J6z k.1
 have kb := k.2
 have hl : (h.2.1 ++ b).length ≤ 2000000000 := by rw [List.length_append]; omega
 unfold Krm
 rw [Jaa (Jcg (by omega)), Jaa (Jcg (by omega))]
 refine (ra_l _ fail _ _ _ _ _ (h.2.1 ++ b) h.1 rfl (Nat.le_refl _) k1).trans ?_
 rw [Jak (by omega) (by omega)]
 rfl⟩
theorem Jhz {X : Type} (F : Nat) (fail : X) (ex : Int → HH → List UInt8 → List UInt8 → X) (h : HH) (s2 : List UInt8) (h0 : 0 ≤ h.2.2.1) (h1 : h.2.2.1 ≤ 1152921504606846976) (m i : Nat) (hi : i < 8) (c e : Int) (hc : c = ((56 - 8 * i : Nat) : Int)) (he : e = c - 8) (p : List UInt8) (hp : p.length ≤ 1000) :
  Jfm F fail ex (m + 1) c h s2 p = Jfm F fail ex m e h s2 (p ++ [UInt8.ofNat (8 * h.2.2.1.toNat / 2 ^ (56 - 8 * i) % 256)]) := by
 subst he
 have em : K35 (Kcm h.2.2.1) 8 = ((8 * h.2.2.1.toNat : Nat) : Int) := by
  rw [Krb h0 (by omega)]
  show IntKind.u64.wrap (h.2.2.1 * 8) = _
  rw [Kws]; omega
 have eb : Jru (Jj7 (K35 (Kcm h.2.2.1) 8) c) = UInt8.ofNat (8 * h.2.2.1.toNat / 2 ^ (56 - 8 * i) % 256) := by
  rw [em, hc, J6j (by omega) (by omega), Kra, Int.toNat_natCast]
  congr 1
 rw [Jfm, Jt2]
 rw [Jaa (tt (by omega)), Jaa (tt (by omega)), eb, Jaa (Jcg (by rw [List.length_append]; show p.length + 1 ≤ _; omega)), Jcf (by omega) (by omega)]
theorem hf_l1 {X : Type} (F : Nat) (fail : X) (ex : Int → HH → List UInt8 → List UInt8 → X) (h : HH) (s2 : List UInt8) (h0 : 0 ≤ h.2.2.1) (h1 : h.2.2.1 ≤ 1152921504606846976) (m : Nat) (p : List UInt8) (hp : p.length ≤ 100) :
  Jfm F fail ex (m + 9) 56 h s2 p = ex (-8) h s2 (p ++ be8 (8 * h.2.2.1.toNat)) := by
 rw [Jhz F fail ex h s2 h0 h1 _ 0 (by omega) 56 48 rfl rfl p (by omega), Jhz F fail ex h s2 h0 h1 _ 1 (by omega) 48 40 rfl rfl _ (by simp; omega), Jhz F fail ex h s2 h0 h1 _ 2 (by omega) 40 32 rfl rfl _ (by simp; omega), Jhz F fail ex h s2 h0 h1 _ 3 (by omega) 32 24 rfl rfl _ (by simp; omega), Jhz F fail ex h s2 h0 h1 _ 4 (by omega) 24 16 rfl rfl _ (by simp; omega), Jhz F fail ex h s2 h0 h1 _ 5 (by omega) 16 8 rfl rfl _ (by simp; omega), Jhz F fail ex h s2 h0 h1 _ 6 (by omega) 8 0 rfl rfl _ (by simp; omega), Jhz F fail ex h s2 h0 h1 _ 7 (by omega) 0 (-8) rfl rfl _ (by simp; omega)]
 rw [Jfm, Jt2]
 rw [Jab (ff (by omega))]
 simp only [List.append_assoc, List.cons_append, List.nil_append]
 rfl
theorem hf_l2 {X : Type} (fail : X) (ex : List UInt32 → Int → List UInt8 → List UInt8 → X) (s : List UInt32) (s2 : List UInt8) (hs : s.length = 8) :
  Jpw 99 fail ex 99 s 0 s2 (List.replicate 32 0) = ex s 8 s2 (Qhx s) := by
 obtain ⟨s0, s1, s2, s3, s4', s5, s6, s7, rfl⟩ := Qg9 hs
 kernel_rfl
theorem Kgo (n : Nat) : (List.replicate (n + 1) (0 : UInt8)).set 0 128 = 128 :: List.replicate n 0 := rfl
theorem Kgp (h : HH) (k : Jgl h = true) : ∃ F, ∀ {X : Type} (fail : X) (ret : List UInt8 → X), Krk F h fail ret = ret (Jjs h) := ⟨99, fun fail ret => by
 simp only [Jgl, Bool.and_eq_true, decide_eq_true_eq] at k
 obtain ⟨k1, k2, k3, k4⟩ := J6z k.1
 have kb := k.2
 have e : Jag 1 (Jb8 (Jby 119 (h.2.1.length : Int)) 64) = (((119 - h.2.1.length) % 64 + 1 : Nat) : Int) := by
  rw [Jcf (by omega) (by omega), Jnu (by omega), Jak (by omega) (by omega)]; omega
 unfold Krk
 rw [e, Jaa (tt3 (by omega) (by omega) (by unfold big; omega)), Int.toNat_natCast, Jaa (tt (by rw [List.length_replicate]; omega)), Kgo]
 refine (hf_l1 99 fail _ h _ k3 k4 90 _ (by simp; omega)).trans ?_
 rw [Jaa (c := Jdz h _) (by simp only [Jdz, k.1, Bool.true_and, decide_eq_true_eq]; simp [be8]; omega)]
 refine (hf_l2 fail _ _ _ (Jup _ _ _ k1)).trans ?_
 rfl⟩
theorem K5r : okH Kww = true := rfl
theorem K5s {h : HH} {b : List UInt8} (k : okH h = true) (hl : h.2.2.1 + b.length ≤ 1152921504606846976) : okH (wrH h b) = true ∧ (wrH h b).2.1.length < 64 := by
 obtain ⟨k1, k2, k3, k4⟩ := J6z k
 have hd : (wrH h b).2.1.length < 64 := by
  show ((h.2.1 ++ b).drop _).length < 64
  rw [List.length_drop]; omega
 refine ⟨?_, hd⟩
 unfold okH
 rw [decide_eq_true_eq]
 refine ⟨Jup _ _ _ k1, by omega, ?_, ?_⟩
 ·show 0 ≤ h.2.2.1 + b.length; omega
 ·exact hl
theorem Kzz (b : List UInt8) (h : Kk2 b = true) : ∃ F, ∀ {X : Type} (fail : X) (ret : List UInt8 → X), dSum F b fail ret = ret (Jvf b) := ⟨1, fun fail ret => by
 simp only [Kk2, decide_eq_true_eq] at h
 have hw := K5s (b := b) K5r (by show (0 : Int) + _ ≤ _; omega)
 unfold dSum
 rw [Jaa (c := J2l) rfl, Jaa (c := Jdz Jgf b) (by simp only [Jdz, show okH Jgf = true from rfl, Bool.true_and, decide_eq_true_eq]; exact h), Jaa (c := Jgl (Jcq Jgf b)) (by simp only [Jgl, Jcq, Jgf, hw.1, Bool.true_and]; exact tt hw.2)]
 rfl⟩
theorem Qig {X : Type} (F : Nat) (fail : X) (ex : Int → HH → List UInt8 → List UInt8 → X) (bits : Int) (h : HH) (s2 : List UInt8) (hb : h.2.1.length < 64) : ∀ (j m i : Nat), i + j = (119 - h.2.1.length) % 64 → j ≤ m →
  Ji5 F fail ex (m + 1) bits h s2 (128 :: List.replicate i 0) = ex bits h s2 (128 :: List.replicate ((119 - h.2.1.length) % 64) 0)
 | 0, m, i, hi, _ => by
  have e : i = (119 - h.2.1.length) % 64 := by omega
  subst e
  rw [Ji5, Jt5]
  simp only [List.length_cons, List.length_replicate]
  rw [Jak (by omega) (by omega), Jnu (by omega), Jab (Jgh (by omega))]
 | j + 1, 0, i, _, hm => absurd hm (by omega)
 | j + 1, m + 1, i, hi, hm => by
  have ih := Qig F fail ex bits h s2 hb j m (i + 1) (by omega) (by omega)
  rw [Ji5, Jt5]
  have hl : (128 :: List.replicate i (0 : UInt8)).length = i + 1 := by simp
  rw [hl, Jak (by omega) (by omega), Jnu (by omega), Jaa (Jj8 (by omega)), Jaa (Jcg (by rw [List.length_append, hl]; show i + 1 + 1 ≤ _; omega))]
  rw [show 128 :: List.replicate i (0 : UInt8) ++ [0] = 128 :: List.replicate (i + 1) 0 by rw [List.replicate_succ', List.cons_append]]
  exact ih
theorem Jh0 {X : Type} (F : Nat) (fail : X) (ex : Int → Int → HH → List UInt8 → List UInt8 → X) (h : HH) (s2 : List UInt8) (h0 : 0 ≤ h.2.2.1) (h1 : h.2.2.1 ≤ 1152921504606846976) (m i : Nat) (hi : i < 8) (c e : Int) (hc : c = ((7 - i : Nat) : Int)) (he : e = c - 1) (p : List UInt8) (hp : p.length ≤ 1000) :
  Jfn F fail ex (m + 1) (K35 (Kcm h.2.2.1) 8) c h s2 p = Jfn F fail ex m (K35 (Kcm h.2.2.1) 8) e h s2 (p ++ [UInt8.ofNat (8 * h.2.2.1.toNat / 2 ^ (56 - 8 * i) % 256)]) := by
 subst he
 have em : K35 (Kcm h.2.2.1) 8 = ((8 * h.2.2.1.toNat : Nat) : Int) := by
  rw [Krb h0 (by omega)]
  show IntKind.u64.wrap (h.2.2.1 * 8) = _
  rw [Kws]; omega
 have ec : Jfe 8 c = ((56 - 8 * i : Nat) : Int) := by rw [hc, Jgv (by omega) (by omega)]; omega
 have eb : Jru (Jj7 (K35 (Kcm h.2.2.1) 8) (Jfe 8 c)) = UInt8.ofNat (8 * h.2.2.1.toNat / 2 ^ (56 - 8 * i) % 256) := by
  rw [em, ec, J6j (by omega) (by omega), Kra, Int.toNat_natCast]
  congr 1
 rw [Jfn, Jt6]
 rw [Jaa (tt (by omega)), eb, Jaa (tt (by omega)), Jaa (Jcg (by rw [List.length_append]; show p.length + 1 ≤ _; omega)), Jcf (by omega) (by omega)]
theorem rf_l2 {X : Type} (F : Nat) (fail : X) (ex : Int → Int → HH → List UInt8 → List UInt8 → X) (h : HH) (s2 : List UInt8) (h0 : 0 ≤ h.2.2.1) (h1 : h.2.2.1 ≤ 1152921504606846976) (m : Nat) (p : List UInt8) (hp : p.length ≤ 100) :
  Jfn F fail ex (m + 9) (K35 (Kcm h.2.2.1) 8) 7 h s2 p = ex (K35 (Kcm h.2.2.1) 8) (-1) h s2 (p ++ be8 (8 * h.2.2.1.toNat)) := by
 rw [Jh0 F fail ex h s2 h0 h1 _ 0 (by omega) 7 6 rfl rfl p (by omega), Jh0 F fail ex h s2 h0 h1 _ 1 (by omega) 6 5 rfl rfl _ (by simp; omega), Jh0 F fail ex h s2 h0 h1 _ 2 (by omega) 5 4 rfl rfl _ (by simp; omega), Jh0 F fail ex h s2 h0 h1 _ 3 (by omega) 4 3 rfl rfl _ (by simp; omega), Jh0 F fail ex h s2 h0 h1 _ 4 (by omega) 3 2 rfl rfl _ (by simp; omega), Jh0 F fail ex h s2 h0 h1 _ 5 (by omega) 2 1 rfl rfl _ (by simp; omega), Jh0 F fail ex h s2 h0 h1 _ 6 (by omega) 1 0 rfl rfl _ (by simp; omega), Jh0 F fail ex h s2 h0 h1 _ 7 (by omega) 0 (-1) rfl rfl _ (by simp; omega)]
 rw [Jfn, Jt6]
 rw [Jab (ff (by omega))]
 simp only [List.append_assoc, List.cons_append, List.nil_append]
 rfl
theorem rf_l3 {X : Type} (fail : X) (ex : Int → HH → List UInt8 → List UInt8 → X) (h : HH) (s2 : List UInt8) (hs : h.1.length = 8) :
  Jpx 99 fail ex 99 0 h s2 (List.replicate 32 0) = ex 32 h s2 (Qhx h.1) := by
 obtain ⟨s, r⟩ := h
 obtain ⟨s0, s1, s2, s3, s4', s5, s6, s7, rfl⟩ := Qg9 (l := s) hs
 kernel_rfl
theorem Qfx {h : HH} (k : Kzn h = 0) : 0 ≤ h.2.2.1 ∧ h.2.2.1 ≤ 9007199254740991 ∧ (h.2.1.length : Int) = h.2.2.1 % 64 := by
 unfold Kzn at k
 by_cases c : h.2.2.1 < 0 ∨ 9007199254740991 < h.2.2.1 ∨ (h.2.1.length : Int) ≠ h.2.2.1 % 64
 ·rw [if_pos c] at k; exact absurd k (by omega)
 ·omega
theorem Qfy (h : HH) : Kzn h = 0 ∨ Kzn h = 3 := by
 unfold Kzn; split
 ·exact .inr rfl
 ·exact .inl rfl
theorem Qfz {h : HH} (k : Kzn h = 0) (hs : h.1.length = 8) : okH h = true ∧ h.2.1.length < 64 := by
 obtain ⟨c1, c2, c3⟩ := Qfx k
 refine ⟨?_, by omega⟩
 unfold okH
 rw [decide_eq_true_eq]
 exact ⟨hs, by omega, c1, by omega⟩
theorem Kgq (h : HH) (k : Jrz h = true) : ∃ F, ∀ {X : Type} (fail : X) (ret : List UInt8 → Int → X), Krn F h fail ret = ret (Jtr h) (J0s h) := ⟨99, fun fail ret => by
 simp only [Jrz, decide_eq_true_eq] at k
 unfold Krn Jtr J0s Jyb
 rcases Qfy h with c | c
 ·obtain ⟨o1, o2⟩ := Qfz c k
  obtain ⟨k1, k2, k3, k4⟩ := J6z o1
  rw [c, Jab (Jgh rfl), if_pos rfl]
  refine (Qig 99 fail _ _ h _ o2 _ 98 0 (by rw [Nat.zero_add]) (by omega)).trans ?_
  refine (rf_l2 99 fail _ h _ k3 k4 90 _ (by simp; omega)).trans ?_
  rw [Jaa (c := Jh7 h _) (by simp only [Jh7, o1, Bool.true_and, decide_eq_true_eq]; simp [be8]; omega)]
  refine (rf_l3 fail _ _ _ (Jup _ _ _ k1)).trans ?_
  rfl
 ·rw [c, Jaa (Jj8 (by omega)), if_neg (by omega)]⟩
theorem Kz0 (b : List UInt8) (h : Joa b = true) : ∃ F, ∀ {X : Type} (fail : X) (ret : List UInt8 → X), rSum F b fail ret = ret (Jgm b) := ⟨1, fun fail ret => by
 simp only [Joa, decide_eq_true_eq] at h
 have hc : Kzn (wrH Kww b) = 0 := by
  unfold Kzn
  rw [if_neg]
  have e1 : (wrH Kww b).2.2.1 = (b.length : Int) := by show (0 : Int) + _ = _; omega
  have e2 : (wrH Kww b).2.1.length = b.length % 64 := by
   show (b.drop (64 * (b.length / 64))).length = _
   rw [List.length_drop]; omega
  rw [e1, e2]; omega
 unfold rSum
 rw [Jaa (c := Kwx) rfl, Jaa (c := Jh7 J2n b) (by simp only [Jh7, show okH J2n = true from rfl, Bool.true_and, decide_eq_true_eq]; exact h), Jaa (c := Jrz (Jn9 J2n b)) (tt (Jup _ _ _ rfl))]
 congr 1
 show (if Kzn (wrH Kww b) = 0 then _ else _) = _
 rw [if_pos hc]
 rfl⟩
end Go.AI
