/- Texts of the proof, joined: DigestP4. Names of our own are shortened by program; the long ones stand in wip/. -/
import Derived.Test.YtcdajbmgoafnkaaGreatQrG
import Derived.Test.YtcdajbmgoafnkaaGreatQrDigestP3
import Derived.Test.YtcdajbmgoafnkaaGreatQrLists
namespace Go.AI
open Go
theorem K4o (s : List UInt32) : (Qoo s).length = 32 := by simp [Qoo]
theorem Jjw (b : List UInt8) : (Kq4 b).length = 32 := K4o _
theorem Kmr (k b : List UInt8) : (Qls k b).length = 32 := K4o _
theorem Qde {X : Type} (F : Nat) (fail : X) (ex : UInt8 → Int → Int → List UInt8 → X) (x : UInt8) (l : List UInt8) (hl : l.length = 64) : ∀ (j m i : Nat), i + j = 64 → j ≤ m →
  Jke F fail ex (m + 1) x (64 : Nat) i (Krv (fun b => Jtq b x) i l) = ex x (64 : Nat) (64 : Nat) (l.map fun b => Jtq b x)
 | 0, m, i, hi, _ => by
  have e : i = 64 := by omega
  subst e
  rw [Jke, J12]
  rw [Jab (ff (by omega)), Krz _ _ _ (by omega)]
 | j + 1, 0, i, _, hm => absurd hm (by omega)
 | j + 1, m + 1, i, hi, hm => by
  have ih := Qde F fail ex x l hl j m (i + 1) (by omega) (by omega)
  have hn := Krw (fun b => Jtq b x) i l
  rw [Jke, J12]
  rw [Jaa (tt (by omega)), Jaa (tt2 (by omega) (by omega)), Jaa (tt2 (by omega) (by omega)), Jai (by omega) (by omega), Int.toNat_natCast, Krx]
  rw [Kry (fun b => Jtq b x) 0 i l (by omega)]
  exact ih
theorem Qm0 (k : List UInt8) (h : k.length ≤ 64) : ((List.take 0 (List.replicate 64 (0 : UInt8)) ++ List.take (min k.length (List.replicate 64 (0 : UInt8)).length) k) ++ List.drop (0 + min k.length (List.replicate 64 (0 : UInt8)).length) (List.replicate 64 (0 : UInt8))) = k ++ List.replicate (64 - k.length) 0 := by
 rw [List.length_replicate, Nat.min_eq_left h, List.take_zero, List.nil_append, List.take_length, Nat.zero_add, List.drop_replicate]
theorem Jlj (k : List UInt8) (h : k.length ≤ 64) : (k ++ List.replicate (64 - k.length) 0).length = 64 := by
 rw [List.length_append, List.length_replicate]; omega
theorem Kr0 (k : List UInt8) (x : UInt8) (h : Jwh k x = true) : ∃ F, ∀ {X : Type} (fail : X) (ret : List UInt8 → X), Qb4 F k x fail ret = ret (Je7 k x) := ⟨99, fun fail ret => by
 simp only [Jwh, decide_eq_true_eq] at h
 unfold Qb4 Je7 K6y
 by_cases c : k.length > 64
 ·have h32 : List.take 32 (Jyc k) = Kq4 k := List.take_of_length_le (by rw [show (Jyc k).length = 32 from Jjw k]; omega)
  rw [Jaa (tt (by omega)), Jaa (c := Kq5 k) (tt h), Jaa (tt (by unfold big; omega)), if_pos c, h32, Qm0 _ (by rw [Jjw]; omega), Jlj _ (by rw [Jjw]; omega)]
  exact Qde 99 fail _ x _ (Jlj _ (by rw [Jjw]; omega)) 64 98 0 rfl (by omega)
 ·rw [Jab (ff (by omega)), Jaa (tt (by unfold big; omega)), if_neg c, Qm0 _ (by omega), Jlj _ (by omega)]
  exact Qde 99 fail _ x _ (Jlj _ (by omega)) 64 98 0 rfl (by omega)⟩
theorem Kms (k : List UInt8) (x : UInt8) : (K6y k x).length = 64 := by
 unfold K6y
 rw [List.length_map]
 by_cases c : k.length > 64
 ·rw [if_pos c]; exact Jlj _ (by rw [Jjw]; omega)
 ·rw [if_neg c]; exact Jlj _ (by omega)
theorem K4p : ∀ (n : Nat) (s : List UInt32) (a b : List UInt8), 64 * n ≤ a.length → K9n n s (a ++ b) = K9n n s a
 | 0, _, _, _, _ => rfl
 | n + 1, s, a, b, h => by
  simp only [K9n]
  rw [List.take_append_of_le_length (by omega), List.drop_append_of_le_length (by omega)]
  exact K4p n _ _ _ (by rw [List.length_drop]; omega)
theorem K4q : ∀ (n m : Nat) (s : List UInt32) (l : List UInt8), K9n (n + m) s l = K9n m (K9n n s l) (l.drop (64 * n))
 | 0, m, s, l => by rw [Nat.zero_add]; rfl
 | n + 1, m, s, l => by
  rw [show n + 1 + m = (n + m) + 1 by omega]
  simp only [K9n]
  rw [K4q n m, List.drop_drop, show 64 + 64 * n = 64 * (n + 1) by omega]
theorem Qm1 (h : HH) (a b : List UInt8) : wrH (wrH h a) b = wrH h (a ++ b) := by
 obtain ⟨s, l, n, u⟩ := h
 unfold wrH
 have hl : ((l ++ a).drop (64 * ((l ++ a).length / 64)) ++ b).length = (l ++ a).length % 64 + b.length := by
  rw [List.length_append, List.length_drop]; omega
 have hd : (l ++ a).drop (64 * ((l ++ a).length / 64)) ++ b = (l ++ (a ++ b)).drop (64 * ((l ++ a).length / 64)) := by
  rw [← List.append_assoc]
  exact (List.drop_append_of_le_length (l₁ := l ++ a) (by omega)).symm
 have ht : (l ++ (a ++ b)).length / 64 = (l ++ a).length / 64 + ((l ++ a).length % 64 + b.length) / 64 := by
  rw [← List.append_assoc, List.length_append]; omega
 simp only [hl, ht]
 rw [hd, List.drop_drop, K4q]
 rw [← List.append_assoc, K4p _ s (l ++ a) b (by omega)]
 refine Prod.ext rfl (Prod.ext ?_ (Prod.ext ?_ rfl))
 ·show ((l ++ a) ++ b).drop _ = ((l ++ a) ++ b).drop _
  congr 1; omega
 ·show n + a.length + b.length = n + ((a ++ b).length : Nat)
  rw [List.length_append]; omega
theorem Qdf (a b : List UInt8) : finH (wrH (wrH K3y a) b) = Kq4 (a ++ b) := by
 unfold Kq4; rw [Qm1]
theorem K7c (k b : List UInt8) (h : Jua k b = true) : ∃ F, ∀ {X : Type} (fail : X) (ret : List UInt8 → X), dMac F k b fail ret = ret (J6b k b) := ⟨1, fun fail ret => by
 simp only [Jua, decide_eq_true_eq] at h
 have hp : ∀ x, Jwh k x = true := fun x => tt h.1
 have hw1 : ∀ x, Jeq Jhv (Je7 k x) = true := fun x => by
  simp only [Jeq, show okH Jhv = true from rfl, Bool.true_and, decide_eq_true_eq]
  rw [show (Je7 k x).length = 64 from Kms k x]; omega
 have o1 : ∀ x, okH (wrH K3y (K6y k x)) = true ∧ (wrH K3y (K6y k x)).2.1.length < 64 := fun x => Qc5 Qc4 (by rw [Kms]; show (0 : Int) + 64 ≤ _; omega)
 have n1 : ∀ x, (wrH K3y (K6y k x)).2.2.1 = 64 := fun x => by show (0 : Int) + ((K6y k x).length : Nat) = _; rw [Kms]; rfl
 have hw2 : ∀ x c, c.length ≤ 1000000000 → Jeq (wrH K3y (K6y k x)) c = true := fun x c hc => by
  simp only [Jeq, (o1 x).1, Bool.true_and, decide_eq_true_eq]; exact hc
 have hf : ∀ x c, c.length ≤ 1000000000 → Jh0 (wrH (wrH K3y (K6y k x)) c) = true := fun x c hc => by
  have o2 := Qc5 (b := c) (o1 x).1 (by rw [n1]; omega)
  simp only [Jh0, o2.1, Bool.true_and, decide_eq_true_eq]; exact o2.2
 unfold dMac
 simp only [Jdb, Jlb, Jhv, Je7] at *
 rw [Jaa (c := J6a) rfl, Jaa (hp _), Jaa (hw1 _), Jaa (hw2 _ b (by omega)), Jaa (hf _ b (by omega)), Jaa (c := J6a) rfl, Jaa (hp _), Jaa (hw1 _), Jaa (hw2 _ _ (by rw [List.length_take]; omega)), Jaa (hf _ _ (by rw [List.length_take]; omega))]
 rw [Qdf, Qdf, List.take_of_length_le (by rw [Jjw]; omega)]
 rfl⟩
theorem Qm2 {X : Type} (F : Nat) (fail : X) (ex : List UInt8 → Int → List UInt8 → List UInt8 → List UInt8 → List UInt8 → X) (b s4 k : List UInt8) (hk : k.length = 64) : ∀ (j m i : Nat), i + j = 64 → j ≤ m →
  Jr9 F fail ex (m + 1) b i s4 k ((k.take i).map fun x => Jtq x 54) ((k.take i).map fun x => Jtq x 92) = ex b (64 : Nat) s4 k (k.map fun x => Jtq x 54) (k.map fun x => Jtq x 92)
 | 0, m, i, hi, _ => by
  have e : i = 64 := by omega
  subst e
  rw [Jr9, Kl0]
  rw [Jab (ff (by omega)), List.take_of_length_le (by omega)]
 | j + 1, 0, i, _, hm => absurd hm (by omega)
 | j + 1, m + 1, i, hi, hm => by
  have ih := Qm2 F fail ex b s4 k hk j m (i + 1) (by omega) (by omega)
  have hs : ∀ c, (k.take i).map (fun x => Jtq x c) ++ [Jtq (k.getD i 0) c] = (k.take (i + 1)).map (fun x => Jtq x c) := fun c => by
   rw [Jd9 k i 0 (by omega), List.map_append]; rfl
  rw [Jr9, Kl0]
  rw [Jaa (tt (by omega)), Jaa (tt2 (by omega) (by omega)), Int.toNat_natCast, hs, hs, Jaa (Jch (by rw [List.length_map, List.length_take]; omega)), Jaa (tt2 (by omega) (by omega)), Jaa (Jch (by rw [List.length_map, List.length_take]; omega)), Jai (by omega) (by omega)]
  exact ih
theorem Qdg (k : List UInt8) (x : UInt8) : K6y k x = (((if k.length > 64 then Kq4 k else k) ++ List.replicate (64 - (if k.length > 64 then Kq4 k else k).length) 0).map fun b => Jtq b x) := rfl
theorem Qkm (k : List UInt8) (h : k.length ≤ 64) : ((List.take 0 (List.replicate 64 (0 : UInt8)) ++ List.take (min k.length 64) k) ++ List.drop (0 + min k.length 64) (List.replicate 64 (0 : UInt8))) = k ++ List.replicate (64 - k.length) 0 := by
 have := Qm0 k h
 rwa [List.length_replicate] at this
theorem K7d (k b : List UInt8) (h : J1e k b = true) : ∃ F, ∀ {X : Type} (fail : X) (ret : List UInt8 → X), rMac F k b fail ret = ret (Kid k b) := ⟨99, fun fail ret => by
 simp only [J1e, decide_eq_true_eq] at h
 have fin : ∀ x : List UInt8, x.length = 64 → ∀ y : List UInt8, y.length = 64 → (bif (decide ((x ++ b).length ≤ big)) then
    bif (Jp6 (x ++ b)) then
    bif (decide ((y ++ (List.take 32 (Jh1 (x ++ b)))).length ≤ big)) then
    bif (Jp6 (y ++ (List.take 32 (Jh1 (x ++ b))))) then
    ret (Jh1 (y ++ (List.take 32 (Jh1 (x ++ b)))))
    else fail
    else fail
    else fail
    else fail) = ret (Kq4 (y ++ Kq4 (x ++ b))) := fun x hx y hy => by
  have ht : List.take 32 (Jh1 (x ++ b)) = Kq4 (x ++ b) := List.take_of_length_le (by rw [show (Jh1 (x ++ b)).length = 32 from Jjw _]; omega)
  have l1 : (x ++ b).length = 64 + b.length := by rw [List.length_append, hx]
  have l2 : (y ++ Kq4 (x ++ b)).length = 96 := by rw [List.length_append, hy, Jjw]
  rw [ht, Jaa (Jch (by omega)), Jaa (c := Jp6 _) (tt (by omega)), Jaa (Jch (by omega)), Jaa (c := Jp6 _) (tt (by omega))]
  rfl
 unfold rMac Kid Qls
 rw [Qdg k 92, Qdg k 54]
 by_cases c : k.length > 64
 ·have h32 : List.take 32 (Jh1 k) = Kq4 k := List.take_of_length_le (by rw [show (Jh1 k).length = 32 from Jjw k]; omega)
  rw [Jaa (tt (by omega)), Jaa (c := Jp6 k) (tt h.1), h32, Qkm _ (by rw [Jjw]; omega), if_pos c]
  have hl := Jlj (Kq4 k) (by rw [Jjw]; omega)
  refine (Qm2 99 fail _ b _ _ hl 64 98 0 rfl (by omega)).trans ?_
  exact fin _ (by rw [List.length_map]; exact hl) _ (by rw [List.length_map]; exact hl)
 ·rw [Jab (ff (by omega)), Qkm _ (by omega), if_neg c]
  have hl := Jlj k (by omega)
  refine (Qm2 99 fail _ b _ _ hl 64 98 0 rfl (by omega)).trans ?_
  exact fin _ (by rw [List.length_map]; exact hl) _ (by rw [List.length_map]; exact hl)⟩
end Go.AI
