/- Texts of the proof, joined: DigestP4. -/
import Derived.Test.YtnmidfcefljafaaGreatQtG
import Derived.Test.YtnmidfcefljafaaGreatQtDigestP3
import Derived.Test.YtnmidfcefljafaaGreatQtLists
namespace Go.AI
open Go
theorem outH_len (s : List UInt32) : (outH s).length = 32 := by simp [outH]
theorem sumH_len (b : List UInt8) : (sumH b).length = 32 := outH_len _
theorem macH_len (k b : List UInt8) : (macH k b).length = 32 := outH_len _
theorem pad_l1 {X : Type} (F : Nat) (fail : X) (ex : UInt8 → Int → Int → List UInt8 → X) (x : UInt8) (l : List UInt8) (hl : l.length = 64) : ∀ (j m i : Nat), i + j = 64 → j ≤ m →
  padded_l1F F fail ex (m + 1) x (64 : Nat) i (mapTo (fun b => xorB b x) i l) = ex x (64 : Nat) (64 : Nat) (l.map fun b => xorB b x)
 | 0, m, i, hi, _ => by
  have e : i = 64 := by omega
  subst e
  rw [padded_l1F, padded_l1]
  rw [bif_false (ff (by omega)), mapTo_all _ _ _ (by omega)]
 | j + 1, 0, i, _, hm => absurd hm (by omega)
 | j + 1, m + 1, i, hi, hm => by
  have ih := pad_l1 F fail ex x l hl j m (i + 1) (by omega) (by omega)
  have hn := mapTo_len (fun b => xorB b x) i l
  rw [padded_l1F, padded_l1]
  rw [bif_true (tt (by omega)), bif_true (tt2 (by omega) (by omega)), bif_true (tt2 (by omega) (by omega)), addI_eq (by omega) (by omega), Int.toNat_natCast, mapTo_get]
  rw [mapTo_set (fun b => xorB b x) 0 i l (by omega)]
  exact ih
theorem fit64 (k : List UInt8) (h : k.length ≤ 64) : ((List.take 0 (List.replicate 64 (0 : UInt8)) ++ List.take (min k.length (List.replicate 64 (0 : UInt8)).length) k) ++ List.drop (0 + min k.length (List.replicate 64 (0 : UInt8)).length) (List.replicate 64 (0 : UInt8))) = k ++ List.replicate (64 - k.length) 0 := by
 rw [List.length_replicate, Nat.min_eq_left h, List.take_zero, List.nil_append, List.take_length, Nat.zero_add, List.drop_replicate]
theorem fit64_len (k : List UInt8) (h : k.length ≤ 64) : (k ++ List.replicate (64 - k.length) 0).length = 64 := by
 rw [List.length_append, List.length_replicate]; omega
theorem padded_plain (k : List UInt8) (x : UInt8) (h : padded_P k x = true) : ∃ F, ∀ {X : Type} (fail : X) (ret : List UInt8 → X), padded F k x fail ret = ret (padded_r k x) := ⟨99, fun fail ret => by
 simp only [padded_P, decide_eq_true_eq] at h
 unfold padded padded_r keyH
 by_cases c : k.length > 64
 ·have h32 : List.take 32 (dSum_r k) = sumH k := List.take_of_length_le (by rw [show (dSum_r k).length = 32 from sumH_len k]; omega)
  rw [bif_true (tt (by omega)), bif_true (c := dSum_P k) (tt h), bif_true (tt (by unfold big; omega)), if_pos c, h32, fit64 _ (by rw [sumH_len]; omega), fit64_len _ (by rw [sumH_len]; omega)]
  exact pad_l1 99 fail _ x _ (fit64_len _ (by rw [sumH_len]; omega)) 64 98 0 rfl (by omega)
 ·rw [bif_false (ff (by omega)), bif_true (tt (by unfold big; omega)), if_neg c, fit64 _ (by omega), fit64_len _ (by omega)]
  exact pad_l1 99 fail _ x _ (fit64_len _ (by omega)) 64 98 0 rfl (by omega)⟩
theorem keyH_len (k : List UInt8) (x : UInt8) : (keyH k x).length = 64 := by
 unfold keyH
 rw [List.length_map]
 by_cases c : k.length > 64
 ·rw [if_pos c]; exact fit64_len _ (by rw [sumH_len]; omega)
 ·rw [if_neg c]; exact fit64_len _ (by omega)
theorem absN_app : ∀ (n : Nat) (s : List UInt32) (a b : List UInt8), 64 * n ≤ a.length → absN n s (a ++ b) = absN n s a
 | 0, _, _, _, _ => rfl
 | n + 1, s, a, b, h => by
  simp only [absN]
  rw [List.take_append_of_le_length (by omega), List.drop_append_of_le_length (by omega)]
  exact absN_app n _ _ _ (by rw [List.length_drop]; omega)
theorem absN_add : ∀ (n m : Nat) (s : List UInt32) (l : List UInt8), absN (n + m) s l = absN m (absN n s l) (l.drop (64 * n))
 | 0, m, s, l => by rw [Nat.zero_add]; rfl
 | n + 1, m, s, l => by
  rw [show n + 1 + m = (n + m) + 1 by omega]
  simp only [absN]
  rw [absN_add n m, List.drop_drop, show 64 + 64 * n = 64 * (n + 1) by omega]
theorem wrH_app (h : HH) (a b : List UInt8) : wrH (wrH h a) b = wrH h (a ++ b) := by
 obtain ⟨s, l, n, u⟩ := h
 unfold wrH
 have hl : ((l ++ a).drop (64 * ((l ++ a).length / 64)) ++ b).length = (l ++ a).length % 64 + b.length := by
  rw [List.length_append, List.length_drop]; omega
 have hd : (l ++ a).drop (64 * ((l ++ a).length / 64)) ++ b = (l ++ (a ++ b)).drop (64 * ((l ++ a).length / 64)) := by
  rw [← List.append_assoc]
  exact (List.drop_append_of_le_length (l₁ := l ++ a) (by omega)).symm
 have ht : (l ++ (a ++ b)).length / 64 = (l ++ a).length / 64 + ((l ++ a).length % 64 + b.length) / 64 := by
  rw [← List.append_assoc, List.length_append]; omega
 simp only [hl, ht]
 rw [hd, List.drop_drop, absN_add]
 rw [← List.append_assoc, absN_app _ s (l ++ a) b (by omega)]
 refine Prod.ext rfl (Prod.ext ?_ (Prod.ext ?_ rfl))
 ·show ((l ++ a) ++ b).drop _ = ((l ++ a) ++ b).drop _
  congr 1; omega
 ·show n + a.length + b.length = n + ((a ++ b).length : Nat)
  rw [List.length_append]; omega
theorem sum_app (a b : List UInt8) : finH (wrH (wrH newH a) b) = sumH (a ++ b) := by
 unfold sumH; rw [wrH_app]
theorem dMac_plain (k b : List UInt8) (h : dMac_P k b = true) : ∃ F, ∀ {X : Type} (fail : X) (ret : List UInt8 → X), dMac F k b fail ret = ret (dMac_r k b) := ⟨1, fun fail ret => by
 simp only [dMac_P, decide_eq_true_eq] at h
 have hp : ∀ x, padded_P k x = true := fun x => tt h.1
 have hw1 : ∀ x, hwrite_P hNew_r (padded_r k x) = true := fun x => by
  simp only [hwrite_P, show okH hNew_r = true from rfl, Bool.true_and, decide_eq_true_eq]
  rw [show (padded_r k x).length = 64 from keyH_len k x]; omega
 have o1 : ∀ x, okH (wrH newH (keyH k x)) = true ∧ (wrH newH (keyH k x)).2.1.length < 64 := fun x => wrH_ok newH_ok (by rw [keyH_len]; show (0 : Int) + 64 ≤ _; omega)
 have n1 : ∀ x, (wrH newH (keyH k x)).2.2.1 = 64 := fun x => by show (0 : Int) + ((keyH k x).length : Nat) = _; rw [keyH_len]; rfl
 have hw2 : ∀ x c, c.length ≤ 1000000000 → hwrite_P (wrH newH (keyH k x)) c = true := fun x c hc => by
  simp only [hwrite_P, (o1 x).1, Bool.true_and, decide_eq_true_eq]; exact hc
 have hf : ∀ x c, c.length ≤ 1000000000 → hfinish_P (wrH (wrH newH (keyH k x)) c) = true := fun x c hc => by
  have o2 := wrH_ok (b := c) (o1 x).1 (by rw [n1]; omega)
  simp only [hfinish_P, o2.1, Bool.true_and, decide_eq_true_eq]; exact o2.2
 unfold dMac
 simp only [hwrite_r, hfinish_r, hNew_r, padded_r] at *
 rw [bif_true (c := hNew_P) rfl, bif_true (hp _), bif_true (hw1 _), bif_true (hw2 _ b (by omega)), bif_true (hf _ b (by omega)), bif_true (c := hNew_P) rfl, bif_true (hp _), bif_true (hw1 _), bif_true (hw2 _ _ (by rw [List.length_take]; omega)), bif_true (hf _ _ (by rw [List.length_take]; omega))]
 rw [sum_app, sum_app, List.take_of_length_le (by rw [sumH_len]; omega)]
 rfl⟩
end Go.AI
