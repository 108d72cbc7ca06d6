/- Texts of the proof, joined: DigestP4. Names of our own are shortened by program; the long ones stand in wip/. -/
import Derived.Test.YtcdajbmgoafnkaaGreatQwG
import Derived.Test.YtcdajbmgoafnkaaGreatQwDigestP3
import Derived.Test.YtcdajbmgoafnkaaGreatQwLists
namespace Go.AI
open Go
theorem Kxo (s : List UInt32) : (Qhx s).length = 32 := by simp [Qhx]
theorem Jig (b : List UInt8) : (Kk1 b).length = 32 := Kxo _
theorem Kgt (k b : List UInt8) : (Qe3 k b).length = 32 := Kxo _
theorem K51 {X : Type} (F : Nat) (fail : X) (ex : UInt8 → Int → Int → List UInt8 → X) (x : UInt8) (l : List UInt8) (hl : l.length = 64) : ∀ (j m i : Nat), i + j = 64 → j ≤ m →
  Ji6 F fail ex (m + 1) x (64 : Nat) i (Klq (fun b => Jpj b x) i l) = ex x (64 : Nat) (64 : Nat) (l.map fun b => Jpj b x)
 | 0, m, i, hi, _ => by
  have e : i = 64 := by omega
  subst e
  rw [Ji6, Jyq]
  rw [Jab (ff (by omega)), Klu _ _ _ (by omega)]
 | j + 1, 0, i, _, hm => absurd hm (by omega)
 | j + 1, m + 1, i, hi, hm => by
  have ih := K51 F fail ex x l hl j m (i + 1) (by omega) (by omega)
  have hn := Klr (fun b => Jpj b x) i l
  rw [Ji6, Jyq]
  rw [Jaa (tt (by omega)), Jaa (tt2 (by omega) (by omega)), Jaa (tt2 (by omega) (by omega)), Jak (by omega) (by omega), Int.toNat_natCast, Kls]
  rw [Klt (fun b => Jpj b x) 0 i l (by omega)]
  exact ih
theorem Qf2 (k : List UInt8) (h : k.length ≤ 64) : ((List.take 0 (List.replicate 64 (0 : UInt8)) ++ List.take (min k.length (List.replicate 64 (0 : UInt8)).length) k) ++ List.drop (0 + min k.length (List.replicate 64 (0 : UInt8)).length) (List.replicate 64 (0 : UInt8))) = k ++ List.replicate (64 - k.length) 0 := by
 rw [List.length_replicate, Nat.min_eq_left h, List.take_zero, List.nil_append, List.take_length, Nat.zero_add, List.drop_replicate]
theorem Jjx (k : List UInt8) (h : k.length ≤ 64) : (k ++ List.replicate (64 - k.length) 0).length = 64 := by
 rw [List.length_append, List.length_replicate]; omega
theorem Klv (k : List UInt8) (x : UInt8) (h : Jtq k x = true) : ∃ F, ∀ {X : Type} (fail : X) (ret : List UInt8 → X), K4p F k x fail ret = ret (Jd9 k x) := ⟨99, fun fail ret => by
 simp only [Jtq, decide_eq_true_eq] at h
 unfold K4p Jd9 Kzo
 by_cases c : k.length > 64
 ·have h32 : List.take 32 (Jvf k) = Kk1 k := List.take_of_length_le (by rw [show (Jvf k).length = 32 from Jig k]; omega)
  rw [Jaa (tt (by omega)), Jaa (c := Kk2 k) (tt h), Jaa (tt (by unfold big; omega)), if_pos c, h32, Qf2 _ (by rw [Jig]; omega), Jjx _ (by rw [Jig]; omega)]
  exact K51 99 fail _ x _ (Jjx _ (by rw [Jig]; omega)) 64 98 0 rfl (by omega)
 ·rw [Jab (ff (by omega)), Jaa (tt (by unfold big; omega)), if_neg c, Qf2 _ (by omega), Jjx _ (by omega)]
  exact K51 99 fail _ x _ (Jjx _ (by omega)) 64 98 0 rfl (by omega)⟩
theorem Kgu (k : List UInt8) (x : UInt8) : (Kzo k x).length = 64 := by
 unfold Kzo
 rw [List.length_map]
 by_cases c : k.length > 64
 ·rw [if_pos c]; exact Jjx _ (by rw [Jig]; omega)
 ·rw [if_neg c]; exact Jjx _ (by omega)
theorem Kxp : ∀ (n : Nat) (s : List UInt32) (a b : List UInt8), 64 * n ≤ a.length → K15 n s (a ++ b) = K15 n s a
 | 0, _, _, _, _ => rfl
 | n + 1, s, a, b, h => by
  simp only [K15]
  rw [List.take_append_of_le_length (by omega), List.drop_append_of_le_length (by omega)]
  exact Kxp n _ _ _ (by rw [List.length_drop]; omega)
theorem Kxq : ∀ (n m : Nat) (s : List UInt32) (l : List UInt8), K15 (n + m) s l = K15 m (K15 n s l) (l.drop (64 * n))
 | 0, m, s, l => by rw [Nat.zero_add]; rfl
 | n + 1, m, s, l => by
  rw [show n + 1 + m = (n + m) + 1 by omega]
  simp only [K15]
  rw [Kxq n m, List.drop_drop, show 64 + 64 * n = 64 * (n + 1) by omega]
theorem Qf3 (h : HH) (a b : List UInt8) : wrH (wrH h a) b = wrH h (a ++ b) := by
 obtain ⟨s, l, n, u⟩ := h
 unfold wrH
 have hl : ((l ++ a).drop (64 * ((l ++ a).length / 64)) ++ b).length = (l ++ a).length % 64 + b.length := by
  rw [List.length_append, List.length_drop]; omega
 have hd : (l ++ a).drop (64 * ((l ++ a).length / 64)) ++ b = (l ++ (a ++ b)).drop (64 * ((l ++ a).length / 64)) := by
  rw [← List.append_assoc]
  exact (List.drop_append_of_le_length (l₁ := l ++ a) (by omega)).symm
 have ht : (l ++ (a ++ b)).length / 64 = (l ++ a).length / 64 + ((l ++ a).length % 64 + b.length) / 64 := by
  rw [← List.append_assoc, List.length_append]; omega
 simp only [hl, ht]
 rw [hd, List.drop_drop, Kxq]
 rw [← List.append_assoc, Kxp _ s (l ++ a) b (by omega)]
 refine Prod.ext rfl (Prod.ext ?_ (Prod.ext ?_ rfl))
 ·show ((l ++ a) ++ b).drop _ = ((l ++ a) ++ b).drop _
  congr 1; omega
 ·show n + a.length + b.length = n + ((a ++ b).length : Nat)
  rw [List.length_append]; omega
theorem K52 (a b : List UInt8) : finH (wrH (wrH Kww a) b) = Kk1 (a ++ b) := by
 unfold Kk1; rw [Qf3]
theorem Kz3 (k b : List UInt8) (h : Jrx k b = true) : ∃ F, ∀ {X : Type} (fail : X) (ret : List UInt8 → X), dMac F k b fail ret = ret (J2m k b) := ⟨1, fun fail ret => by
 simp only [Jrx, decide_eq_true_eq] at h
 have hp : ∀ x, Jtq k x = true := fun x => tt h.1
 have hw1 : ∀ x, Jdz Jgf (Jd9 k x) = true := fun x => by
  simp only [Jdz, show okH Jgf = true from rfl, Bool.true_and, decide_eq_true_eq]
  rw [show (Jd9 k x).length = 64 from Kgu k x]; omega
 have o1 : ∀ x, okH (wrH Kww (Kzo k x)) = true ∧ (wrH Kww (Kzo k x)).2.1.length < 64 := fun x => K5s K5r (by rw [Kgu]; show (0 : Int) + 64 ≤ _; omega)
 have n1 : ∀ x, (wrH Kww (Kzo k x)).2.2.1 = 64 := fun x => by show (0 : Int) + ((Kzo k x).length : Nat) = _; rw [Kgu]; rfl
 have hw2 : ∀ x c, c.length ≤ 1000000000 → Jdz (wrH Kww (Kzo k x)) c = true := fun x c hc => by
  simp only [Jdz, (o1 x).1, Bool.true_and, decide_eq_true_eq]; exact hc
 have hf : ∀ x c, c.length ≤ 1000000000 → Jgl (wrH (wrH Kww (Kzo k x)) c) = true := fun x c hc => by
  have o2 := K5s (b := c) (o1 x).1 (by rw [n1]; omega)
  simp only [Jgl, o2.1, Bool.true_and, decide_eq_true_eq]; exact o2.2
 unfold dMac
 simp only [Jcq, Jjs, Jgf, Jd9] at *
 rw [Jaa (c := J2l) rfl, Jaa (hp _), Jaa (hw1 _), Jaa (hw2 _ b (by omega)), Jaa (hf _ b (by omega)), Jaa (c := J2l) rfl, Jaa (hp _), Jaa (hw1 _), Jaa (hw2 _ _ (by rw [List.length_take]; omega)), Jaa (hf _ _ (by rw [List.length_take]; omega))]
 rw [K52, K52, List.take_of_length_le (by rw [Jig]; omega)]
 rfl⟩
theorem Qf4 {X : Type} (F : Nat) (fail : X) (ex : List UInt8 → Int → List UInt8 → List UInt8 → List UInt8 → List UInt8 → X) (b s4 k : List UInt8) (hk : k.length = 64) : ∀ (j m i : Nat), i + j = 64 → j ≤ m →
  Jp1 F fail ex (m + 1) b i s4 k ((k.take i).map fun x => Jpj x 54) ((k.take i).map fun x => Jpj x 92) = ex b (64 : Nat) s4 k (k.map fun x => Jpj x 54) (k.map fun x => Jpj x 92)
 | 0, m, i, hi, _ => by
  have e : i = 64 := by omega
  subst e
  rw [Jp1, Kfx]
  rw [Jab (ff (by omega)), List.take_of_length_le (by omega)]
 | j + 1, 0, i, _, hm => absurd hm (by omega)
 | j + 1, m + 1, i, hi, hm => by
  have ih := Qf4 F fail ex b s4 k hk j m (i + 1) (by omega) (by omega)
  have hs : ∀ c, (k.take i).map (fun x => Jpj x c) ++ [Jpj (k.getD i 0) c] = (k.take (i + 1)).map (fun x => Jpj x c) := fun c => by
   rw [Jdx k i 0 (by omega), List.map_append]; rfl
  rw [Jp1, Kfx]
  rw [Jaa (tt (by omega)), Jaa (tt2 (by omega) (by omega)), Int.toNat_natCast, hs, hs, Jaa (Jcg (by rw [List.length_map, List.length_take]; omega)), Jaa (tt2 (by omega) (by omega)), Jaa (Jcg (by rw [List.length_map, List.length_take]; omega)), Jak (by omega) (by omega)]
  exact ih
theorem K53 (k : List UInt8) (x : UInt8) : Kzo k x = (((if k.length > 64 then Kk1 k else k) ++ List.replicate (64 - (if k.length > 64 then Kk1 k else k).length) 0).map fun b => Jpj b x) := rfl
theorem Qdl (k : List UInt8) (h : k.length ≤ 64) : ((List.take 0 (List.replicate 64 (0 : UInt8)) ++ List.take (min k.length 64) k) ++ List.drop (0 + min k.length 64) (List.replicate 64 (0 : UInt8))) = k ++ List.replicate (64 - k.length) 0 := by
 have := Qf2 k h
 rwa [List.length_replicate] at this
theorem Kz4 (k b : List UInt8) (h : Jyc k b = true) : ∃ F, ∀ {X : Type} (fail : X) (ret : List UInt8 → X), rMac F k b fail ret = ret (Kcp k b) := ⟨99, fun fail ret => by
 simp only [Jyc, decide_eq_true_eq] at h
 have fin : ∀ x : List UInt8, x.length = 64 → ∀ y : List UInt8, y.length = 64 → (bif (decide ((x ++ b).length ≤ big)) then
    bif (Joa (x ++ b)) then
    bif (decide ((y ++ (List.take 32 (Jgm (x ++ b)))).length ≤ big)) then
    bif (Joa (y ++ (List.take 32 (Jgm (x ++ b))))) then
    ret (Jgm (y ++ (List.take 32 (Jgm (x ++ b)))))
    else fail
    else fail
    else fail
    else fail) = ret (Kk1 (y ++ Kk1 (x ++ b))) := fun x hx y hy => by
  have ht : List.take 32 (Jgm (x ++ b)) = Kk1 (x ++ b) := List.take_of_length_le (by rw [show (Jgm (x ++ b)).length = 32 from Jig _]; omega)
  have l1 : (x ++ b).length = 64 + b.length := by rw [List.length_append, hx]
  have l2 : (y ++ Kk1 (x ++ b)).length = 96 := by rw [List.length_append, hy, Jig]
  rw [ht, Jaa (Jcg (by omega)), Jaa (c := Joa _) (tt (by omega)), Jaa (Jcg (by omega)), Jaa (c := Joa _) (tt (by omega))]
  rfl
 unfold rMac Kcp Qe3
 rw [K53 k 92, K53 k 54]
 by_cases c : k.length > 64
 ·have h32 : List.take 32 (Jgm k) = Kk1 k := List.take_of_length_le (by rw [show (Jgm k).length = 32 from Jig k]; omega)
  rw [Jaa (tt (by omega)), Jaa (c := Joa k) (tt h.1), h32, Qdl _ (by rw [Jig]; omega), if_pos c]
  have hl := Jjx (Kk1 k) (by rw [Jig]; omega)
  refine (Qf4 99 fail _ b _ _ hl 64 98 0 rfl (by omega)).trans ?_
  exact fin _ (by rw [List.length_map]; exact hl) _ (by rw [List.length_map]; exact hl)
 ·rw [Jab (ff (by omega)), Qdl _ (by omega), if_neg c]
  have hl := Jjx k (by omega)
  refine (Qf4 99 fail _ b _ _ hl 64 98 0 rfl (by omega)).trans ?_
  exact fin _ (by rw [List.length_map]; exact hl) _ (by rw [List.length_map]; exact hl)⟩
end Go.AI
