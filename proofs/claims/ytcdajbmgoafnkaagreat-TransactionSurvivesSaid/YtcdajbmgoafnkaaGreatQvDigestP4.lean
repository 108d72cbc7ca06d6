/- Texts of the proof, joined: DigestP4. Names of our own are shortened by program; the long ones stand in wip/. -/
import Derived.Test.YtcdajbmgoafnkaaGreatQvG
import Derived.Test.YtcdajbmgoafnkaaGreatQvDigestP3
import Derived.Test.YtcdajbmgoafnkaaGreatQvLists
namespace Go.AI
open Go
theorem Kqz (s : List UInt32) : (outH s).length = 32 := by simp [outH]
theorem Jsy (b : List UInt8) : (K45 b).length = 32 := Kqz _
theorem Kq0 (k b : List UInt8) : (K9n k b).length = 32 := Kqz _
theorem Kyj {X : Type} (F : Nat) (fail : X) (ex : UInt8 → Int → Int → List UInt8 → X) (x : UInt8) (l : List UInt8) (hl : l.length = 64) : ∀ (j m i : Nat), i + j = 64 → j ≤ m →
  Jio F fail ex (m + 1) x (64 : Nat) i (Kgu (fun b => J6f b x) i l) = ex x (64 : Nat) (64 : Nat) (l.map fun b => J6f b x)
 | 0, m, i, hi, _ => by
  have e : i = 64 := by omega
  subst e
  rw [Jio, Jwr]
  rw [Jab (ff (by omega)), Kgy _ _ _ (by omega)]
 | j + 1, 0, i, _, hm => absurd hm (by omega)
 | j + 1, m + 1, i, hi, hm => by
  have ih := Kyj F fail ex x l hl j m (i + 1) (by omega) (by omega)
  have hn := Kgv (fun b => J6f b x) i l
  rw [Jio, Jwr]
  rw [Jaa (tt (by omega)), Jaa (tt2 (by omega) (by omega)), Jaa (tt2 (by omega) (by omega)), Jam (by omega) (by omega), Int.toNat_natCast, Kgw]
  rw [Kgx (fun b => J6f b x) 0 i l (by omega)]
  exact ih
theorem K97 (k : List UInt8) (h : k.length ≤ 64) : ((List.take 0 (List.replicate 64 (0 : UInt8)) ++ List.take (min k.length (List.replicate 64 (0 : UInt8)).length) k) ++ List.drop (0 + min k.length (List.replicate 64 (0 : UInt8)).length) (List.replicate 64 (0 : UInt8))) = k ++ List.replicate (64 - k.length) 0 := by
 rw [List.length_replicate, Nat.min_eq_left h, List.take_zero, List.nil_append, List.take_length, Nat.zero_add, List.drop_replicate]
theorem Jnj (k : List UInt8) (h : k.length ≤ 64) : (k ++ List.replicate (64 - k.length) 0).length = 64 := by
 rw [List.length_append, List.length_replicate]; omega
theorem Kgz (k : List UInt8) (x : UInt8) (h : Jr9 k x = true) : ∃ F, ∀ {X : Type} (fail : X) (ret : List UInt8 → X), Kxh F k x fail ret = ret (Jen k x) := ⟨99, fun fail ret => by
 simp only [Jr9, decide_eq_true_eq] at h
 unfold Kxh Jen Kuz
 by_cases c : k.length > 64
 ·have h32 : List.take 32 (Jtk k) = K45 k := List.take_of_length_le (by rw [show (Jtk k).length = 32 from Jsy k]; omega)
  rw [Jaa (tt (by omega)), Jaa (c := Kf7 k) (tt h), Jaa (tt (by unfold big; omega)), if_pos c, h32, K97 _ (by rw [Jsy]; omega), Jnj _ (by rw [Jsy]; omega)]
  exact Kyj 99 fail _ x _ (Jnj _ (by rw [Jsy]; omega)) 64 98 0 rfl (by omega)
 ·rw [Jab (ff (by omega)), Jaa (tt (by unfold big; omega)), if_neg c, K97 _ (by omega), Jnj _ (by omega)]
  exact Kyj 99 fail _ x _ (Jnj _ (by omega)) 64 98 0 rfl (by omega)⟩
theorem Kcg (k : List UInt8) (x : UInt8) : (Kuz k x).length = 64 := by
 unfold Kuz
 rw [List.length_map]
 by_cases c : k.length > 64
 ·rw [if_pos c]; exact Jnj _ (by rw [Jsy]; omega)
 ·rw [if_neg c]; exact Jnj _ (by omega)
theorem Kq1 : ∀ (n : Nat) (s : List UInt32) (a b : List UInt8), 64 * n ≤ a.length → Kw6 n s (a ++ b) = Kw6 n s a
 | 0, _, _, _, _ => rfl
 | n + 1, s, a, b, h => by
  simp only [Kw6]
  rw [List.take_append_of_le_length (by omega), List.drop_append_of_le_length (by omega)]
  exact Kq1 n _ _ _ (by rw [List.length_drop]; omega)
theorem Kq2 : ∀ (n m : Nat) (s : List UInt32) (l : List UInt8), Kw6 (n + m) s l = Kw6 m (Kw6 n s l) (l.drop (64 * n))
 | 0, m, s, l => by rw [Nat.zero_add]; rfl
 | n + 1, m, s, l => by
  rw [show n + 1 + m = (n + m) + 1 by omega]
  simp only [Kw6]
  rw [Kq2 n m, List.drop_drop, show 64 + 64 * n = 64 * (n + 1) by omega]
theorem K7u (h : HH) (a b : List UInt8) : wrH (wrH h a) b = wrH h (a ++ b) := by
 obtain ⟨s, l, n, u⟩ := h
 unfold wrH
 have hl : ((l ++ a).drop (64 * ((l ++ a).length / 64)) ++ b).length = (l ++ a).length % 64 + b.length := by
  rw [List.length_append, List.length_drop]; omega
 have hd : (l ++ a).drop (64 * ((l ++ a).length / 64)) ++ b = (l ++ (a ++ b)).drop (64 * ((l ++ a).length / 64)) := by
  rw [← List.append_assoc]
  exact (List.drop_append_of_le_length (l₁ := l ++ a) (by omega)).symm
 have ht : (l ++ (a ++ b)).length / 64 = (l ++ a).length / 64 + ((l ++ a).length % 64 + b.length) / 64 := by
  rw [← List.append_assoc, List.length_append]; omega
 simp only [hl, ht]
 rw [hd, List.drop_drop, Kq2]
 rw [← List.append_assoc, Kq1 _ s (l ++ a) b (by omega)]
 refine Prod.ext rfl (Prod.ext ?_ (Prod.ext ?_ rfl))
 ·show ((l ++ a) ++ b).drop _ = ((l ++ a) ++ b).drop _
  congr 1; omega
 ·show n + a.length + b.length = n + ((a ++ b).length : Nat)
  rw [List.length_append]; omega
theorem Kyk (a b : List UInt8) : finH (wrH (wrH K23 a) b) = K45 (a ++ b) := by
 unfold K45; rw [K7u]
theorem Ks8 (k b : List UInt8) (h : Jqp k b = true) : ∃ F, ∀ {X : Type} (fail : X) (ret : List UInt8 → X), dMac F k b fail ret = ret (Jz2 k b) := ⟨1, fun fail ret => by
 simp only [Jqp, decide_eq_true_eq] at h
 have hp : ∀ x, Jr9 k x = true := fun x => tt h.1
 have hw1 : ∀ x, Jee Jgh (Jen k x) = true := fun x => by
  simp only [Jee, show okH Jgh = true from rfl, Bool.true_and, decide_eq_true_eq]
  rw [show (Jen k x).length = 64 from Kcg k x]; omega
 have o1 : ∀ x, okH (wrH K23 (Kuz k x)) = true ∧ (wrH K23 (Kuz k x)).2.1.length < 64 := fun x => Kyc Kyb (by rw [Kcg]; show (0 : Int) + 64 ≤ _; omega)
 have n1 : ∀ x, (wrH K23 (Kuz k x)).2.2.1 = 64 := fun x => by show (0 : Int) + ((Kuz k x).length : Nat) = _; rw [Kcg]; rfl
 have hw2 : ∀ x c, c.length ≤ 1000000000 → Jee (wrH K23 (Kuz k x)) c = true := fun x c hc => by
  simp only [Jee, (o1 x).1, Bool.true_and, decide_eq_true_eq]; exact hc
 have hf : ∀ x c, c.length ≤ 1000000000 → Jgl (wrH (wrH K23 (Kuz k x)) c) = true := fun x c hc => by
  have o2 := Kyc (b := c) (o1 x).1 (by rw [n1]; omega)
  simp only [Jgl, o2.1, Bool.true_and, decide_eq_true_eq]; exact o2.2
 unfold dMac
 simp only [Jc5, Ji6, Jgh, Jen] at *
 rw [Jaa (c := Jz1) rfl, Jaa (hp _), Jaa (hw1 _), Jaa (hw2 _ b (by omega)), Jaa (hf _ b (by omega)), Jaa (c := Jz1) rfl, Jaa (hp _), Jaa (hw1 _), Jaa (hw2 _ _ (by rw [List.length_take]; omega)), Jaa (hf _ _ (by rw [List.length_take]; omega))]
 rw [Kyk, Kyk, List.take_of_length_le (by rw [Jsy]; omega)]
 rfl⟩
end Go.AI
