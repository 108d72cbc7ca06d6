/- Texts of the proof, joined: DigestP4. Names of our own are shortened by program; the long ones stand in wip/. -/
import Derived.Test.YtnmidfcefljafaaGreatQsG
import Derived.Test.YtnmidfcefljafaaGreatQsDigestP3
import Derived.Test.YtnmidfcefljafaaGreatQsLists
namespace Go.AI
open Go
theorem Kp6 (s : List UInt32) : (outH s).length = 32 := by simp [outH]
theorem Jse (b : List UInt8) : (K3q b).length = 32 := Kp6 _
theorem Kp7 (k b : List UInt8) : (K8a k b).length = 32 := Kp6 _
theorem Kxh {X : Type} (F : Nat) (fail : X) (ex : UInt8 → Int → Int → List UInt8 → X) (x : UInt8) (l : List UInt8) (hl : l.length = 64) : ∀ (j m i : Nat), i + j = 64 → j ≤ m →
  Jid F fail ex (m + 1) x (64 : Nat) i (Kf5 (fun b => J5k b x) i l) = ex x (64 : Nat) (64 : Nat) (l.map fun b => J5k b x)
 | 0, m, i, hi, _ => by
  have e : i = 64 := by omega
  subst e
  rw [Jid, Jv7]
  rw [Jab (ff (by omega)), Kf9 _ _ _ (by omega)]
 | j + 1, 0, i, _, hm => absurd hm (by omega)
 | j + 1, m + 1, i, hi, hm => by
  have ih := Kxh F fail ex x l hl j m (i + 1) (by omega) (by omega)
  have hn := Kf6 (fun b => J5k b x) i l
  rw [Jid, Jv7]
  rw [Jaa (tt (by omega)), Jaa (tt2 (by omega) (by omega)), Jaa (tt2 (by omega) (by omega)), Jar (by omega) (by omega), Int.toNat_natCast, Kf7]
  rw [Kf8 (fun b => J5k b x) 0 i l (by omega)]
  exact ih
theorem K8u (k : List UInt8) (h : k.length ≤ 64) : ((List.take 0 (List.replicate 64 (0 : UInt8)) ++ List.take (min k.length (List.replicate 64 (0 : UInt8)).length) k) ++ List.drop (0 + min k.length (List.replicate 64 (0 : UInt8)).length) (List.replicate 64 (0 : UInt8))) = k ++ List.replicate (64 - k.length) 0 := by
 rw [List.length_replicate, Nat.min_eq_left h, List.take_zero, List.nil_append, List.take_length, Nat.zero_add, List.drop_replicate]
theorem Jm0 (k : List UInt8) (h : k.length ≤ 64) : (k ++ List.replicate (64 - k.length) 0).length = 64 := by
 rw [List.length_append, List.length_replicate]; omega
theorem Kga (k : List UInt8) (x : UInt8) (h : Jrp k x = true) : ∃ F, ∀ {X : Type} (fail : X) (ret : List UInt8 → X), Kwf F k x fail ret = ret (Jd7 k x) := ⟨99, fun fail ret => by
 simp only [Jrp, decide_eq_true_eq] at h
 unfold Kwf Jd7 Kt1
 by_cases c : k.length > 64
 ·have h32 : List.take 32 (Jsx k) = K3q k := List.take_of_length_le (by rw [show (Jsx k).length = 32 from Jse k]; omega)
  rw [Jaa (tt (by omega)), Jaa (c := Kff k) (tt h), Jaa (tt (by unfold big; omega)), if_pos c, h32, K8u _ (by rw [Jse]; omega), Jm0 _ (by rw [Jse]; omega)]
  exact Kxh 99 fail _ x _ (Jm0 _ (by rw [Jse]; omega)) 64 98 0 rfl (by omega)
 ·rw [Jab (ff (by omega)), Jaa (tt (by unfold big; omega)), if_neg c, K8u _ (by omega), Jm0 _ (by omega)]
  exact Kxh 99 fail _ x _ (Jm0 _ (by omega)) 64 98 0 rfl (by omega)⟩
theorem Kbk (k : List UInt8) (x : UInt8) : (Kt1 k x).length = 64 := by
 unfold Kt1
 rw [List.length_map]
 by_cases c : k.length > 64
 ·rw [if_pos c]; exact Jm0 _ (by rw [Jse]; omega)
 ·rw [if_neg c]; exact Jm0 _ (by omega)
theorem Kp8 : ∀ (n : Nat) (s : List UInt32) (a b : List UInt8), 64 * n ≤ a.length → Kv6 n s (a ++ b) = Kv6 n s a
 | 0, _, _, _, _ => rfl
 | n + 1, s, a, b, h => by
  simp only [Kv6]
  rw [List.take_append_of_le_length (by omega), List.drop_append_of_le_length (by omega)]
  exact Kp8 n _ _ _ (by rw [List.length_drop]; omega)
theorem Kp9 : ∀ (n m : Nat) (s : List UInt32) (l : List UInt8), Kv6 (n + m) s l = Kv6 m (Kv6 n s l) (l.drop (64 * n))
 | 0, m, s, l => by rw [Nat.zero_add]; rfl
 | n + 1, m, s, l => by
  rw [show n + 1 + m = (n + m) + 1 by omega]
  simp only [Kv6]
  rw [Kp9 n m, List.drop_drop, show 64 + 64 * n = 64 * (n + 1) by omega]
theorem K6e (h : HH) (a b : List UInt8) : wrH (wrH h a) b = wrH h (a ++ b) := by
 obtain ⟨s, l, n, u⟩ := h
 unfold wrH
 have hl : ((l ++ a).drop (64 * ((l ++ a).length / 64)) ++ b).length = (l ++ a).length % 64 + b.length := by
  rw [List.length_append, List.length_drop]; omega
 have hd : (l ++ a).drop (64 * ((l ++ a).length / 64)) ++ b = (l ++ (a ++ b)).drop (64 * ((l ++ a).length / 64)) := by
  rw [← List.append_assoc]
  exact (List.drop_append_of_le_length (l₁ := l ++ a) (by omega)).symm
 have ht : (l ++ (a ++ b)).length / 64 = (l ++ a).length / 64 + ((l ++ a).length % 64 + b.length) / 64 := by
  rw [← List.append_assoc, List.length_append]; omega
 simp only [hl, ht]
 rw [hd, List.drop_drop, Kp9]
 rw [← List.append_assoc, Kp8 _ s (l ++ a) b (by omega)]
 refine Prod.ext rfl (Prod.ext ?_ (Prod.ext ?_ rfl))
 ·show ((l ++ a) ++ b).drop _ = ((l ++ a) ++ b).drop _
  congr 1; omega
 ·show n + a.length + b.length = n + ((a ++ b).length : Nat)
  rw [List.length_append]; omega
theorem Kxi (a b : List UInt8) : finH (wrH (wrH K1o a) b) = K3q (a ++ b) := by
 unfold K3q; rw [K6e]
theorem Ksb (k b : List UInt8) (h : Jp5 k b = true) : ∃ F, ∀ {X : Type} (fail : X) (ret : List UInt8 → X), dMac F k b fail ret = ret (Jzg k b) := ⟨1, fun fail ret => by
 simp only [Jp5, decide_eq_true_eq] at h
 have hp : ∀ x, Jrp k x = true := fun x => tt h.1
 have hw1 : ∀ x, Jdy Jf4 (Jd7 k x) = true := fun x => by
  simp only [Jdy, show okH Jf4 = true from rfl, Bool.true_and, decide_eq_true_eq]
  rw [show (Jd7 k x).length = 64 from Kbk k x]; omega
 have o1 : ∀ x, okH (wrH K1o (Kt1 k x)) = true ∧ (wrH K1o (Kt1 k x)).2.1.length < 64 := fun x => Kxa Kw9 (by rw [Kbk]; show (0 : Int) + 64 ≤ _; omega)
 have n1 : ∀ x, (wrH K1o (Kt1 k x)).2.2.1 = 64 := fun x => by show (0 : Int) + ((Kt1 k x).length : Nat) = _; rw [Kbk]; rfl
 have hw2 : ∀ x c, c.length ≤ 1000000000 → Jdy (wrH K1o (Kt1 k x)) c = true := fun x c hc => by
  simp only [Jdy, (o1 x).1, Bool.true_and, decide_eq_true_eq]; exact hc
 have hf : ∀ x c, c.length ≤ 1000000000 → Jf9 (wrH (wrH K1o (Kt1 k x)) c) = true := fun x c hc => by
  have o2 := Kxa (b := c) (o1 x).1 (by rw [n1]; omega)
  simp only [Jf9, o2.1, Bool.true_and, decide_eq_true_eq]; exact o2.2
 unfold dMac
 simp only [Jco, Jiu, Jf4, Jd7] at *
 rw [Jaa (c := Jzf) rfl, Jaa (hp _), Jaa (hw1 _), Jaa (hw2 _ b (by omega)), Jaa (hf _ b (by omega)), Jaa (c := Jzf) rfl, Jaa (hp _), Jaa (hw1 _), Jaa (hw2 _ _ (by rw [List.length_take]; omega)), Jaa (hf _ _ (by rw [List.length_take]; omega))]
 rw [Kxi, Kxi, List.take_of_length_le (by rw [Jse]; omega)]
 rfl⟩
end Go.AI
