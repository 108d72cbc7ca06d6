/- Texts of the proof, joined: DigestP4. Names of our own are shortened by program; the long ones stand in wip/. -/
import Derived.Test.YtnmidfcefljafaaGreatQpG
import Derived.Test.YtnmidfcefljafaaGreatQpDigestP3
import Derived.Test.YtnmidfcefljafaaGreatQpLists
namespace Go.AI
open Go
theorem Kru (s : List UInt32) : (outH s).length = 32 := by simp [outH]
theorem Jss (b : List UInt8) : (K5p b).length = 32 := Kru _
theorem Krv (k b : List UInt8) : (K99 k b).length = 32 := Kru _
theorem Kzg {X : Type} (F : Nat) (fail : X) (ex : UInt8 → Int → Int → List UInt8 → X) (x : UInt8) (l : List UInt8) (hl : l.length = 64) : ∀ (j m i : Nat), i + j = 64 → j ≤ m →
  Jif F fail ex (m + 1) x (64 : Nat) i (Kha (fun b => J6p b x) i l) = ex x (64 : Nat) (64 : Nat) (l.map fun b => J6p b x)
 | 0, m, i, hi, _ => by
  have e : i = 64 := by omega
  subst e
  rw [Jif, Jwk]
  rw [Jab (ff (by omega)), Khe _ _ _ (by omega)]
 | j + 1, 0, i, _, hm => absurd hm (by omega)
 | j + 1, m + 1, i, hi, hm => by
  have ih := Kzg F fail ex x l hl j m (i + 1) (by omega) (by omega)
  have hn := Khb (fun b => J6p b x) i l
  rw [Jif, Jwk]
  rw [Jaa (tt (by omega)), Jaa (tt2 (by omega) (by omega)), Jaa (tt2 (by omega) (by omega)), Jao (by omega) (by omega), Int.toNat_natCast, Khc]
  rw [Khd (fun b => J6p b x) 0 i l (by omega)]
  exact ih
theorem Qas (k : List UInt8) (h : k.length ≤ 64) : ((List.take 0 (List.replicate 64 (0 : UInt8)) ++ List.take (min k.length (List.replicate 64 (0 : UInt8)).length) k) ++ List.drop (0 + min k.length (List.replicate 64 (0 : UInt8)).length) (List.replicate 64 (0 : UInt8))) = k ++ List.replicate (64 - k.length) 0 := by
 rw [List.length_replicate, Nat.min_eq_left h, List.take_zero, List.nil_append, List.take_length, Nat.zero_add, List.drop_replicate]
theorem Jnd (k : List UInt8) (h : k.length ≤ 64) : (k ++ List.replicate (64 - k.length) 0).length = 64 := by
 rw [List.length_append, List.length_replicate]; omega
theorem Khf (k : List UInt8) (x : UInt8) (h : Jr3 k x = true) : ∃ F, ∀ {X : Type} (fail : X) (ret : List UInt8 → X), Kyb F k x fail ret = ret (Jeb k x) := ⟨99, fun fail ret => by
 simp only [Jr3, decide_eq_true_eq] at h
 unfold Kyb Jeb Kvy
 by_cases c : k.length > 64
 ·have h32 : List.take 32 (Jtd k) = K5p k := List.take_of_length_le (by rw [show (Jtd k).length = 32 from Jss k]; omega)
  rw [Jaa (tt (by omega)), Jaa (c := Kgo k) (tt h), Jaa (tt (by unfold big; omega)), if_pos c, h32, Qas _ (by rw [Jss]; omega), Jnd _ (by rw [Jss]; omega)]
  exact Kzg 99 fail _ x _ (Jnd _ (by rw [Jss]; omega)) 64 98 0 rfl (by omega)
 ·rw [Jab (ff (by omega)), Jaa (tt (by unfold big; omega)), if_neg c, Qas _ (by omega), Jnd _ (by omega)]
  exact Kzg 99 fail _ x _ (Jnd _ (by omega)) 64 98 0 rfl (by omega)⟩
theorem Kcu (k : List UInt8) (x : UInt8) : (Kvy k x).length = 64 := by
 unfold Kvy
 rw [List.length_map]
 by_cases c : k.length > 64
 ·rw [if_pos c]; exact Jnd _ (by rw [Jss]; omega)
 ·rw [if_neg c]; exact Jnd _ (by omega)
theorem Krw : ∀ (n : Nat) (s : List UInt32) (a b : List UInt8), 64 * n ≤ a.length → Kx1 n s (a ++ b) = Kx1 n s a
 | 0, _, _, _, _ => rfl
 | n + 1, s, a, b, h => by
  simp only [Kx1]
  rw [List.take_append_of_le_length (by omega), List.drop_append_of_le_length (by omega)]
  exact Krw n _ _ _ (by rw [List.length_drop]; omega)
theorem Krx : ∀ (n m : Nat) (s : List UInt32) (l : List UInt8), Kx1 (n + m) s l = Kx1 m (Kx1 n s l) (l.drop (64 * n))
 | 0, m, s, l => by rw [Nat.zero_add]; rfl
 | n + 1, m, s, l => by
  rw [show n + 1 + m = (n + m) + 1 by omega]
  simp only [Kx1]
  rw [Krx n m, List.drop_drop, show 64 + 64 * n = 64 * (n + 1) by omega]
theorem K8d (h : HH) (a b : List UInt8) : wrH (wrH h a) b = wrH h (a ++ b) := by
 obtain ⟨s, l, n, u⟩ := h
 unfold wrH
 have hl : ((l ++ a).drop (64 * ((l ++ a).length / 64)) ++ b).length = (l ++ a).length % 64 + b.length := by
  rw [List.length_append, List.length_drop]; omega
 have hd : (l ++ a).drop (64 * ((l ++ a).length / 64)) ++ b = (l ++ (a ++ b)).drop (64 * ((l ++ a).length / 64)) := by
  rw [← List.append_assoc]
  exact (List.drop_append_of_le_length (l₁ := l ++ a) (by omega)).symm
 have ht : (l ++ (a ++ b)).length / 64 = (l ++ a).length / 64 + ((l ++ a).length % 64 + b.length) / 64 := by
  rw [← List.append_assoc, List.length_append]; omega
 simp only [hl, ht]
 rw [hd, List.drop_drop, Krx]
 rw [← List.append_assoc, Krw _ s (l ++ a) b (by omega)]
 refine Prod.ext rfl (Prod.ext ?_ (Prod.ext ?_ rfl))
 ·show ((l ++ a) ++ b).drop _ = ((l ++ a) ++ b).drop _
  congr 1; omega
 ·show n + a.length + b.length = n + ((a ++ b).length : Nat)
  rw [List.length_append]; omega
theorem Kzh (a b : List UInt8) : finH (wrH (wrH K3p a) b) = K5p (a ++ b) := by
 unfold K5p; rw [K8d]
theorem Kt7 (k b : List UInt8) (h : Jqj k b = true) : ∃ F, ∀ {X : Type} (fail : X) (ret : List UInt8 → X), dMac F k b fail ret = ret (Jz3 k b) := ⟨1, fun fail ret => by
 simp only [Jqj, decide_eq_true_eq] at h
 have hp : ∀ x, Jr3 k x = true := fun x => tt h.1
 have hw1 : ∀ x, Jd2 Jf5 (Jeb k x) = true := fun x => by
  simp only [Jd2, show okH Jf5 = true from rfl, Bool.true_and, decide_eq_true_eq]
  rw [show (Jeb k x).length = 64 from Kcu k x]; omega
 have o1 : ∀ x, okH (wrH K3p (Kvy k x)) = true ∧ (wrH K3p (Kvy k x)).2.1.length < 64 := fun x => Ky9 Ky8 (by rw [Kcu]; show (0 : Int) + 64 ≤ _; omega)
 have n1 : ∀ x, (wrH K3p (Kvy k x)).2.2.1 = 64 := fun x => by show (0 : Int) + ((Kvy k x).length : Nat) = _; rw [Kcu]; rfl
 have hw2 : ∀ x c, c.length ≤ 1000000000 → Jd2 (wrH K3p (Kvy k x)) c = true := fun x c hc => by
  simp only [Jd2, (o1 x).1, Bool.true_and, decide_eq_true_eq]; exact hc
 have hf : ∀ x c, c.length ≤ 1000000000 → Jf8 (wrH (wrH K3p (Kvy k x)) c) = true := fun x c hc => by
  have o2 := Ky9 (b := c) (o1 x).1 (by rw [n1]; omega)
  simp only [Jf8, o2.1, Bool.true_and, decide_eq_true_eq]; exact o2.2
 unfold dMac
 simp only [Jcs, Jiy, Jf5, Jeb] at *
 rw [Jaa (c := Jz2) rfl, Jaa (hp _), Jaa (hw1 _), Jaa (hw2 _ b (by omega)), Jaa (hf _ b (by omega)), Jaa (c := Jz2) rfl, Jaa (hp _), Jaa (hw1 _), Jaa (hw2 _ _ (by rw [List.length_take]; omega)), Jaa (hf _ _ (by rw [List.length_take]; omega))]
 rw [Kzh, Kzh, List.take_of_length_le (by rw [Jss]; omega)]
 rfl⟩
end Go.AI
