/- Hashers: what the printed functions answer. -/
import Derived.Test.YtlilfooddecabaaDigestP2
namespace Go.AI
open Go

theorem hNew_plain (_ : hNew_P = true) : ∃ F, ∀ {X : Type} (fail : X) (ret : HH → X), hNew F fail ret = ret hNew_r := ⟨1, fun _ _ => rfl⟩
theorem rNew_plain (_ : rNew_P = true) : ∃ F, ∀ {X : Type} (fail : X) (ret : HH → X), rNew F fail ret = ret rNew_r := ⟨1, fun _ _ => rfl⟩
theorem rCheck_plain (h : HH) : ∃ F, ∀ {X : Type} (fail : X) (ret : Int → X), rCheck F h fail ret = ret (rCheck_r h) := ⟨1, fun fail ret => by
  unfold rCheck rCheck_r chkH
  by_cases h1 : h.2.2.1 < 0
  · rw [bif_true (tt h1), if_pos (.inl h1)]
  rw [bif_false (ff h1)]
  by_cases h2 : 9007199254740991 < h.2.2.1
  · rw [bif_true (tt h2), if_pos (.inr (.inl h2))]
  rw [bif_false (ff h2), remI_eq (by omega)]
  by_cases h3 : (h.2.1.length : Int) = h.2.2.1 % 64
  · rw [bif_false (bne_f h3), if_neg (by omega)]
  · rw [bif_true (bne_t h3), if_pos (by omega)]⟩

theorem hw_l1 {X : Type} (F m : Nat) (fail : X) (ex : List UInt8 → List UInt32 → Int → HH → HH → List UInt32 → X) (b : List UInt8) (s : List UInt32) (h s4 : HH) (hs : s.length = 8) :
    hwrite_l1F F fail ex (m + 9) b s 0 h s4 [0, 0, 0, 0, 0, 0, 0, 0] = ex b s 8 h s4 s := by
  obtain ⟨s0, s1, s2, s3, s4', s5, s6, s7, rfl⟩ := len8 hs
  kernel_rfl
theorem hw_l3 {X : Type} (F m : Nat) (fail : X) (ex : List UInt32 → Int → HH → List UInt32 → (Int × Unit) → List UInt8 → X) (s : List UInt32) (s4 : HH) (o : Int × Unit) (l : List UInt8) (hs : s.length = 8) :
    hwrite_l3F F fail ex (m + 9) s 0 s4 [0, 0, 0, 0, 0, 0, 0, 0] o l = ex s 8 s4 s o l := by
  obtain ⟨s0, s1, s2, s3, s4', s5, s6, s7, rfl⟩ := len8 hs
  kernel_rfl
theorem absN_len : ∀ (n : Nat) (s : List UInt32) (l : List UInt8), s.length = 8 → (absN n s l).length = 8
  | 0, _, _, h => h
  | n + 1, s, l, _ => absN_len n _ _ (absS_len s (l.take 64))
theorem hw_l2 {X : Type} (F : Nat) (fail : X) (ex : List UInt8 → List UInt8 → HH → HH → List UInt32 → X) (b : List UInt8) (h s4 : HH) : ∀ (n m : Nat) (l : List UInt8) (s : List UInt32), l.length / 64 = n → n ≤ m → s.length = 8 →
    hwrite_l2F F fail ex (m + 1) b l h s4 s = ex b (l.drop (64 * n)) h s4 (absN n s l)
  | 0, m, l, s, hn, _, _ => by
    rw [hwrite_l2F, hwrite_l2]
    rw [bif_false (ff (by omega))]
    rfl
  | n + 1, 0, l, s, _, hm, _ => absurd hm (by omega)
  | n + 1, m + 1, l, s, hn, hm, hs => by
    have ih := hw_l2 F fail ex b h s4 n m (l.drop 64) (absS s (l.take 64)) (by rw [List.length_drop]; omega) (by omega) rfl
    rw [hwrite_l2F, hwrite_l2]
    rw [bif_true (tt (by omega)), bif_true (c := absorb_P s l) (tt ⟨hs, by omega⟩), bif_true (tt (by omega))]
    refine ih.trans ?_
    rw [List.drop_drop, show 64 + 64 * n = 64 * (n + 1) by omega]; rfl
theorem okH_len {h : HH} (k : okH h = true) : h.1.length = 8 ∧ h.2.1.length ≤ 1000 ∧ 0 ≤ h.2.2.1 ∧ h.2.2.1 ≤ 1152921504606846976 := by
  simpa only [okH, decide_eq_true_eq] using k
theorem hwrite_plain (h : HH) (b : List UInt8) (k : hwrite_P h b = true) : ∃ F, ∀ {X : Type} (fail : X) (ret : HH → X), hwrite F h b fail ret = ret (hwrite_r h b) := ⟨(h.2.1 ++ b).length / 64 + 1 + 8, fun fail ret => by
  simp only [hwrite_P, Bool.and_eq_true, decide_eq_true_eq] at k
  obtain ⟨k1, k2, k3, k4⟩ := okH_len k.1
  have kb := k.2
  have hl : (h.2.1 ++ b).length ≤ 2000000000 := by rw [List.length_append]; omega
  unfold hwrite
  refine (hw_l1 _ ((h.2.1 ++ b).length / 64) fail _ b h.1 h _ k1).trans ?_
  rw [List.take_length, bif_true (by simp), bif_true (le_big (by omega))]
  refine (hw_l2 _ fail _ b h _ _ ((h.2.1 ++ b).length / 64 + 8) (h.2.1 ++ b) h.1 rfl (by omega) k1).trans ?_
  rw [bif_true (le_big (by rw [List.length_drop]; omega))]
  refine (hw_l3 _ ((h.2.1 ++ b).length / 64) fail _ _ _ _ _ (absN_len _ _ _ k1)).trans ?_
  rw [addI_eq (by omega) (by omega)]
  rfl⟩
theorem ra_l {X : Type} (F : Nat) (fail : X) (ex : List UInt8 → HH → HH → X) (s4 : HH) (r : List UInt8 × Int × Unit) : ∀ (n m : Nat) (l : List UInt8) (s : List UInt32), l.length / 64 = n → n ≤ m → s.length = 8 →
    rabsorb_l1F F fail ex (m + 1) l (s, r) s4 = ex (l.drop (64 * n)) (absN n s l, r) s4
  | 0, m, l, s, hn, _, _ => by
    rw [rabsorb_l1F, rabsorb_l1]
    rw [bif_false (ff (by omega))]
    rfl
  | n + 1, 0, l, s, _, hm, _ => absurd hm (by omega)
  | n + 1, m + 1, l, s, hn, hm, hs => by
    have ih := ra_l F fail ex s4 r n m (l.drop 64) (absS s (l.take 64)) (by rw [List.length_drop]; omega) (by omega) rfl
    rw [rabsorb_l1F, rabsorb_l1]
    rw [bif_true (tt (by omega)), bif_true (tt (by omega)), bif_true (c := rAbsorb_P (s, r).1 (l.take 64)) (tt ⟨hs, by rw [List.length_take]; omega⟩), bif_true (tt (by omega)), show rAbsorb_r (s, r).1 (l.take 64) = absS s (l.take 64) by unfold rAbsorb_r; rw [List.take_take]; rfl]
    refine ih.trans ?_
    rw [List.drop_drop, show 64 + 64 * n = 64 * (n + 1) by omega]; rfl
theorem rabsorb_plain (h : HH) (b : List UInt8) (k : rabsorb_P h b = true) : ∃ F, ∀ {X : Type} (fail : X) (ret : HH → X), rabsorb F h b fail ret = ret (rabsorb_r h b) := ⟨(h.2.1 ++ b).length / 64 + 1, fun fail ret => by
  simp only [rabsorb_P, Bool.and_eq_true, decide_eq_true_eq] at k
  obtain ⟨k1, k2, k3, k4⟩ := okH_len k.1
  have kb := k.2
  have hl : (h.2.1 ++ b).length ≤ 2000000000 := by rw [List.length_append]; omega
  unfold rabsorb
  rw [bif_true (le_big (by omega)), bif_true (le_big (by omega))]
  refine (ra_l _ fail _ _ _ _ _ (h.2.1 ++ b) h.1 rfl (Nat.le_refl _) k1).trans ?_
  rw [addI_eq (by omega) (by omega)]
  rfl⟩

/- The end of a digest. -/
theorem hf_l1_step {X : Type} (F : Nat) (fail : X) (ex : Int → HH → List UInt8 → List UInt8 → X) (h : HH) (s2 : List UInt8) (h0 : 0 ≤ h.2.2.1) (h1 : h.2.2.1 ≤ 1152921504606846976) (m i : Nat) (hi : i < 8) (c e : Int) (hc : c = ((56 - 8 * i : Nat) : Int)) (he : e = c - 8) (p : List UInt8) (hp : p.length ≤ 1000) :
    hfinish_l1F F fail ex (m + 1) c h s2 p = hfinish_l1F F fail ex m e h s2 (p ++ [UInt8.ofNat (8 * h.2.2.1.toNat / 2 ^ (56 - 8 * i) % 256)]) := by
  subst he
  have em : mulU (cvIU h.2.2.1) 8 = ((8 * h.2.2.1.toNat : Nat) : Int) := by
    rw [cvIU_eq h0 (by omega)]
    show IntKind.u64.wrap (h.2.2.1 * 8) = _
    rw [wrap_u64]; omega
  have eb : cvUB (shrU (mulU (cvIU h.2.2.1) 8) c) = UInt8.ofNat (8 * h.2.2.1.toNat / 2 ^ (56 - 8 * i) % 256) := by
    rw [em, hc, shrU_eq (by omega) (by omega), cvUB_eq, Int.toNat_natCast]
    congr 1
  rw [hfinish_l1F, hfinish_l1]
  rw [bif_true (tt (by omega)), bif_true (tt (by omega)), eb, bif_true (le_big (by rw [List.length_append]; show p.length + 1 ≤ _; omega)), subI_eq (by omega) (by omega)]
theorem hf_l1 {X : Type} (F : Nat) (fail : X) (ex : Int → HH → List UInt8 → List UInt8 → X) (h : HH) (s2 : List UInt8) (h0 : 0 ≤ h.2.2.1) (h1 : h.2.2.1 ≤ 1152921504606846976) (m : Nat) (p : List UInt8) (hp : p.length ≤ 100) :
    hfinish_l1F F fail ex (m + 9) 56 h s2 p = ex (-8) h s2 (p ++ be8 (8 * h.2.2.1.toNat)) := by
  rw [hf_l1_step F fail ex h s2 h0 h1 _ 0 (by omega) 56 48 rfl rfl p (by omega), hf_l1_step F fail ex h s2 h0 h1 _ 1 (by omega) 48 40 rfl rfl _ (by simp; omega), hf_l1_step F fail ex h s2 h0 h1 _ 2 (by omega) 40 32 rfl rfl _ (by simp; omega), hf_l1_step F fail ex h s2 h0 h1 _ 3 (by omega) 32 24 rfl rfl _ (by simp; omega), hf_l1_step F fail ex h s2 h0 h1 _ 4 (by omega) 24 16 rfl rfl _ (by simp; omega), hf_l1_step F fail ex h s2 h0 h1 _ 5 (by omega) 16 8 rfl rfl _ (by simp; omega), hf_l1_step F fail ex h s2 h0 h1 _ 6 (by omega) 8 0 rfl rfl _ (by simp; omega), hf_l1_step F fail ex h s2 h0 h1 _ 7 (by omega) 0 (-8) rfl rfl _ (by simp; omega)]
  rw [hfinish_l1F, hfinish_l1]
  rw [bif_false (ff (by omega))]
  simp only [List.append_assoc, List.cons_append, List.nil_append]
  rfl
theorem hf_l2 {X : Type} (fail : X) (ex : List UInt32 → Int → List UInt8 → List UInt8 → X) (s : List UInt32) (s2 : List UInt8) (hs : s.length = 8) :
    hfinish_l2F 99 fail ex 99 s 0 s2 (List.replicate 32 0) = ex s 8 s2 (outH s) := by
  obtain ⟨s0, s1, s2, s3, s4', s5, s6, s7, rfl⟩ := len8 hs
  kernel_rfl
theorem replicate_set (n : Nat) : (List.replicate (n + 1) (0 : UInt8)).set 0 128 = 128 :: List.replicate n 0 := rfl
theorem hfinish_plain (h : HH) (k : hfinish_P h = true) : ∃ F, ∀ {X : Type} (fail : X) (ret : List UInt8 → X), hfinish F h fail ret = ret (hfinish_r h) := ⟨99, fun fail ret => by
  simp only [hfinish_P, Bool.and_eq_true, decide_eq_true_eq] at k
  obtain ⟨k1, k2, k3, k4⟩ := okH_len k.1
  have kb := k.2
  have e : addI 1 (remI (subI 119 (h.2.1.length : Int)) 64) = (((119 - h.2.1.length) % 64 + 1 : Nat) : Int) := by
    rw [subI_eq (by omega) (by omega), remI_eq (by omega), addI_eq (by omega) (by omega)]; omega
  unfold hfinish
  rw [e, bif_true (tt3 (by omega) (by omega) (by unfold big; omega)), Int.toNat_natCast, bif_true (tt (by rw [List.length_replicate]; omega)), replicate_set]
  refine (hf_l1 99 fail _ h _ k3 k4 90 _ (by simp; omega)).trans ?_
  rw [bif_true (c := hwrite_P h _) (by simp only [hwrite_P, k.1, Bool.true_and, decide_eq_true_eq]; simp [be8]; omega)]
  refine (hf_l2 fail _ _ _ (absN_len _ _ _ k1)).trans ?_
  rfl⟩
theorem newH_ok : okH newH = true := rfl
theorem wrH_ok {h : HH} {b : List UInt8} (k : okH h = true) (hl : h.2.2.1 + b.length ≤ 1152921504606846976) : okH (wrH h b) = true ∧ (wrH h b).2.1.length < 64 := by
  obtain ⟨k1, k2, k3, k4⟩ := okH_len k
  have hd : (wrH h b).2.1.length < 64 := by
    show ((h.2.1 ++ b).drop _).length < 64
    rw [List.length_drop]; omega
  refine ⟨?_, hd⟩
  unfold okH
  rw [decide_eq_true_eq]
  refine ⟨absN_len _ _ _ k1, by omega, ?_, ?_⟩
  · show 0 ≤ h.2.2.1 + b.length; omega
  · exact hl
theorem dSum_plain (b : List UInt8) (h : dSum_P b = true) : ∃ F, ∀ {X : Type} (fail : X) (ret : List UInt8 → X), dSum F b fail ret = ret (dSum_r b) := ⟨1, fun fail ret => by
  simp only [dSum_P, decide_eq_true_eq] at h
  have hw := wrH_ok (b := b) newH_ok (by show (0 : Int) + _ ≤ _; omega)
  unfold dSum
  rw [bif_true (c := hNew_P) rfl, bif_true (c := hwrite_P hNew_r b) (by simp only [hwrite_P, show okH hNew_r = true from rfl, Bool.true_and, decide_eq_true_eq]; exact h), bif_true (c := hfinish_P (hwrite_r hNew_r b)) (by simp only [hfinish_P, hwrite_r, hNew_r, hw.1, Bool.true_and]; exact tt hw.2)]
  rfl⟩

/- The reference's end of a digest. -/
theorem rf_l1 {X : Type} (F : Nat) (fail : X) (ex : Int → HH → List UInt8 → List UInt8 → X) (bits : Int) (h : HH) (s2 : List UInt8) (hb : h.2.1.length < 64) : ∀ (j m i : Nat), i + j = (119 - h.2.1.length) % 64 → j ≤ m →
    rFinish_l1F F fail ex (m + 1) bits h s2 (128 :: List.replicate i 0) = ex bits h s2 (128 :: List.replicate ((119 - h.2.1.length) % 64) 0)
  | 0, m, i, hi, _ => by
    have e : i = (119 - h.2.1.length) % 64 := by omega
    subst e
    rw [rFinish_l1F, rFinish_l1]
    simp only [List.length_cons, List.length_replicate]
    rw [addI_eq (by omega) (by omega), remI_eq (by omega), bif_false (bne_f (by omega))]
  | j + 1, 0, i, _, hm => absurd hm (by omega)
  | j + 1, m + 1, i, hi, hm => by
    have ih := rf_l1 F fail ex bits h s2 hb j m (i + 1) (by omega) (by omega)
    rw [rFinish_l1F, rFinish_l1]
    have hl : (128 :: List.replicate i (0 : UInt8)).length = i + 1 := by simp
    rw [hl, addI_eq (by omega) (by omega), remI_eq (by omega), bif_true (bne_t (by omega)), bif_true (le_big (by rw [List.length_append, hl]; show i + 1 + 1 ≤ _; omega))]
    rw [show 128 :: List.replicate i (0 : UInt8) ++ [0] = 128 :: List.replicate (i + 1) 0 by rw [List.replicate_succ', List.cons_append]]
    exact ih
theorem rf_l2_step {X : Type} (F : Nat) (fail : X) (ex : Int → Int → HH → List UInt8 → List UInt8 → X) (h : HH) (s2 : List UInt8) (h0 : 0 ≤ h.2.2.1) (h1 : h.2.2.1 ≤ 1152921504606846976) (m i : Nat) (hi : i < 8) (c e : Int) (hc : c = ((7 - i : Nat) : Int)) (he : e = c - 1) (p : List UInt8) (hp : p.length ≤ 1000) :
    rFinish_l2F F fail ex (m + 1) (mulU (cvIU h.2.2.1) 8) c h s2 p = rFinish_l2F F fail ex m (mulU (cvIU h.2.2.1) 8) e h s2 (p ++ [UInt8.ofNat (8 * h.2.2.1.toNat / 2 ^ (56 - 8 * i) % 256)]) := by
  subst he
  have em : mulU (cvIU h.2.2.1) 8 = ((8 * h.2.2.1.toNat : Nat) : Int) := by
    rw [cvIU_eq h0 (by omega)]
    show IntKind.u64.wrap (h.2.2.1 * 8) = _
    rw [wrap_u64]; omega
  have ec : mulI 8 c = ((56 - 8 * i : Nat) : Int) := by rw [hc, mulI_eq (by omega) (by omega)]; omega
  have eb : cvUB (shrU (mulU (cvIU h.2.2.1) 8) (mulI 8 c)) = UInt8.ofNat (8 * h.2.2.1.toNat / 2 ^ (56 - 8 * i) % 256) := by
    rw [em, ec, shrU_eq (by omega) (by omega), cvUB_eq, Int.toNat_natCast]
    congr 1
  rw [rFinish_l2F, rFinish_l2]
  rw [bif_true (tt (by omega)), eb, bif_true (tt (by omega)), bif_true (le_big (by rw [List.length_append]; show p.length + 1 ≤ _; omega)), subI_eq (by omega) (by omega)]
theorem rf_l2 {X : Type} (F : Nat) (fail : X) (ex : Int → Int → HH → List UInt8 → List UInt8 → X) (h : HH) (s2 : List UInt8) (h0 : 0 ≤ h.2.2.1) (h1 : h.2.2.1 ≤ 1152921504606846976) (m : Nat) (p : List UInt8) (hp : p.length ≤ 100) :
    rFinish_l2F F fail ex (m + 9) (mulU (cvIU h.2.2.1) 8) 7 h s2 p = ex (mulU (cvIU h.2.2.1) 8) (-1) h s2 (p ++ be8 (8 * h.2.2.1.toNat)) := by
  rw [rf_l2_step F fail ex h s2 h0 h1 _ 0 (by omega) 7 6 rfl rfl p (by omega), rf_l2_step F fail ex h s2 h0 h1 _ 1 (by omega) 6 5 rfl rfl _ (by simp; omega), rf_l2_step F fail ex h s2 h0 h1 _ 2 (by omega) 5 4 rfl rfl _ (by simp; omega), rf_l2_step F fail ex h s2 h0 h1 _ 3 (by omega) 4 3 rfl rfl _ (by simp; omega), rf_l2_step F fail ex h s2 h0 h1 _ 4 (by omega) 3 2 rfl rfl _ (by simp; omega), rf_l2_step F fail ex h s2 h0 h1 _ 5 (by omega) 2 1 rfl rfl _ (by simp; omega), rf_l2_step F fail ex h s2 h0 h1 _ 6 (by omega) 1 0 rfl rfl _ (by simp; omega), rf_l2_step F fail ex h s2 h0 h1 _ 7 (by omega) 0 (-1) rfl rfl _ (by simp; omega)]
  rw [rFinish_l2F, rFinish_l2]
  rw [bif_false (ff (by omega))]
  simp only [List.append_assoc, List.cons_append, List.nil_append]
  rfl
theorem rf_l3 {X : Type} (fail : X) (ex : Int → HH → List UInt8 → List UInt8 → X) (h : HH) (s2 : List UInt8) (hs : h.1.length = 8) :
    rFinish_l3F 99 fail ex 99 0 h s2 (List.replicate 32 0) = ex 32 h s2 (outH h.1) := by
  obtain ⟨s, r⟩ := h
  obtain ⟨s0, s1, s2, s3, s4', s5, s6, s7, rfl⟩ := len8 (l := s) hs
  kernel_rfl
theorem chkH_ok {h : HH} (k : chkH h = 0) : 0 ≤ h.2.2.1 ∧ h.2.2.1 ≤ 9007199254740991 ∧ (h.2.1.length : Int) = h.2.2.1 % 64 := by
  unfold chkH at k
  by_cases c : h.2.2.1 < 0 ∨ 9007199254740991 < h.2.2.1 ∨ (h.2.1.length : Int) ≠ h.2.2.1 % 64
  · rw [if_pos c] at k; exact absurd k (by omega)
  · omega
theorem chkH_or (h : HH) : chkH h = 0 ∨ chkH h = 3 := by
  unfold chkH; split
  · exact .inr rfl
  · exact .inl rfl
theorem chk_okH {h : HH} (k : chkH h = 0) (hs : h.1.length = 8) : okH h = true ∧ h.2.1.length < 64 := by
  obtain ⟨c1, c2, c3⟩ := chkH_ok k
  refine ⟨?_, by omega⟩
  unfold okH
  rw [decide_eq_true_eq]
  exact ⟨hs, by omega, c1, by omega⟩
theorem rFinish_plain (h : HH) (k : rFinish_P h = true) : ∃ F, ∀ {X : Type} (fail : X) (ret : List UInt8 → Int → X), rFinish F h fail ret = ret (rFinish_r0 h) (rFinish_r1 h) := ⟨99, fun fail ret => by
  simp only [rFinish_P, decide_eq_true_eq] at k
  unfold rFinish rFinish_r0 rFinish_r1 rCheck_r
  rcases chkH_or h with c | c
  · obtain ⟨o1, o2⟩ := chk_okH c k
    obtain ⟨k1, k2, k3, k4⟩ := okH_len o1
    rw [c, bif_false (bne_f rfl), if_pos rfl]
    refine (rf_l1 99 fail _ _ h _ o2 _ 98 0 (by rw [Nat.zero_add]) (by omega)).trans ?_
    refine (rf_l2 99 fail _ h _ k3 k4 90 _ (by simp; omega)).trans ?_
    rw [bif_true (c := rabsorb_P h _) (by simp only [rabsorb_P, o1, Bool.true_and, decide_eq_true_eq]; simp [be8]; omega)]
    refine (rf_l3 fail _ _ _ (absN_len _ _ _ k1)).trans ?_
    rfl
  · rw [c, bif_true (bne_t (by omega)), if_neg (by omega)]⟩
theorem rSum_plain (b : List UInt8) (h : rSum_P b = true) : ∃ F, ∀ {X : Type} (fail : X) (ret : List UInt8 → X), rSum F b fail ret = ret (rSum_r b) := ⟨1, fun fail ret => by
  simp only [rSum_P, decide_eq_true_eq] at h
  have hc : chkH (wrH newH b) = 0 := by
    unfold chkH
    rw [if_neg]
    have e1 : (wrH newH b).2.2.1 = (b.length : Int) := by show (0 : Int) + _ = _; omega
    have e2 : (wrH newH b).2.1.length = b.length % 64 := by
      show (b.drop (64 * (b.length / 64))).length = _
      rw [List.length_drop]; omega
    rw [e1, e2]; omega
  unfold rSum
  rw [bif_true (c := rNew_P) rfl, bif_true (c := rabsorb_P rNew_r b) (by simp only [rabsorb_P, show okH rNew_r = true from rfl, Bool.true_and, decide_eq_true_eq]; exact h), bif_true (c := rFinish_P (rabsorb_r rNew_r b)) (tt (absN_len _ _ _ rfl))]
  congr 1
  show (if chkH (wrH newH b) = 0 then _ else _) = _
  rw [if_pos hc]
  rfl⟩
theorem wrE_cases (h : HH) (b : List UInt8) : (chkH h = 3 ∧ wrE h b = 3) ∨ (chkH h = 0 ∧ (b.length : Int) > 65536 ∧ wrE h b = 5) ∨ (chkH h = 0 ∧ ¬ (b.length : Int) > 65536 ∧ h.2.2.1 > 9007199254740991 - b.length ∧ wrE h b = 2) ∨ (chkH h = 0 ∧ ¬ (b.length : Int) > 65536 ∧ ¬ h.2.2.1 > 9007199254740991 - b.length ∧ wrE h b = 0) := by
  unfold wrE
  rcases chkH_or h with c | c <;> rw [c]
  · by_cases h1 : (b.length : Int) > 65536
    · exact .inr (.inl ⟨rfl, h1, by rw [if_neg (by omega), if_pos h1]⟩)
    · by_cases h2 : h.2.2.1 > 9007199254740991 - b.length
      · exact .inr (.inr (.inl ⟨rfl, h1, h2, by rw [if_neg (by omega), if_neg h1, if_pos h2]⟩))
      · exact .inr (.inr (.inr ⟨rfl, h1, h2, by rw [if_neg (by omega), if_neg h1, if_neg h2]⟩))
  · exact .inl ⟨rfl, by rw [if_pos (by omega)]⟩
end Go.AI
