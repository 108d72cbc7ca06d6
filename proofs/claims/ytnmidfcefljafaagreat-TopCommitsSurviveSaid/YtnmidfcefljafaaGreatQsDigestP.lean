/- Texts of the proof, joined: DigestP. Names of our own are shortened by program; the long ones stand in wip/. -/
import Derived.Test.YtnmidfcefljafaaGreatQsG
import Derived.Test.YtnmidfcefljafaaGreatQsDigestB
namespace Go.AI
open Go
theorem Kr6 (x : UInt32) (n : Int) (h : Jsw x n = true) : ∃ F, ∀ {X : Type} (fail : X) (ret : UInt32 → X), rotr F x n fail ret = ret (J2v x n) := ⟨1, fun fail ret => by
 simp only [Jsw, decide_eq_true_eq] at h
 unfold rotr
 rw [Jaa (tt h.1), Jaa (tt (by rw [Jde (by omega) (by omega)]; omega))]
 rfl⟩
theorem Kw4 (x : UInt32) (n : Int) (h : K1p x n = true) : ∃ F, ∀ {X : Type} (fail : X) (ret : UInt32 → X), shr F x n fail ret = ret (K5j x n) := ⟨1, fun fail ret => by
 unfold shr
 rw [Jaa (c := decide ((0 : Int) ≤ n)) h]
 rfl⟩
theorem Kbc (x : UInt32) (a b c : Int) (h : Jfe x a b c 169 = true) : ∃ F, ∀ {X : Type} (fail : X) (ret : UInt32 → X), Kkz F x a b c fail ret = ret (Jd6 x a b c 169) := ⟨1, fun fail ret => by
 simp only [Jfe, Bool.and_eq_true, decide_eq_true_eq] at h
 unfold Kkz
 simp only [Jsw]
 rw [Jaa (tt (by omega)), Jaa (tt (by omega)), Jaa (tt (by omega))]
 rfl⟩
theorem Kbd (x : UInt32) (a b c : Int) (h : Jfe x a b c 177 = true) : ∃ F, ∀ {X : Type} (fail : X) (ret : UInt32 → X), Kk0 F x a b c fail ret = ret (Jd6 x a b c 177) := ⟨1, fun fail ret => by
 simp only [Jfe, Bool.and_eq_true, decide_eq_true_eq] at h
 unfold Kk0
 simp only [Jsw, K1p]
 rw [Jaa (tt (by omega)), Jaa (tt (by omega)), Jaa (tt (by omega))]
 rfl⟩
theorem Kfy (_ : J07 = true) : ∃ F, ∀ {X : Type} (fail : X) (ret : List UInt32 → X), K3w F fail ret = ret Kag := ⟨1, fun _ _ => rfl⟩
def Jz8 (b : List UInt8) : Nat → List UInt32
 | 0 => List.replicate 16 0
 | t + 1 => (Jz8 b t).set (t % 16) (if t < 16 then Kry b t else
   Jcv ((Jz8 b t).getD (t % 16) 0) (Jcv (Jcv (ss0 ((Jz8 b t).getD ((t - 15) % 16) 0)) ((Jz8 b t).getD ((t - 7) % 16) 0)) (ss1 ((Jz8 b t).getD ((t - 2) % 16) 0))))
theorem Kbe (b : List UInt8) : ∀ t, (Jz8 b t).length = 16
 | 0 => rfl
 | t + 1 => by
  show ((Jz8 b t).set _ _).length = 16
  rw [List.length_set, Kbe b t]
theorem Jev {α : Type} {l : List α} {i : Nat} {a d : α} (h : i < l.length) : (l.set i a).getD i d = a := by
 simp [List.getD_eq_getElem?_getD, h]
theorem Jsy {α : Type} {l : List α} {i j : Nat} {a d : α} (h : i ≠ j) : (l.set i a).getD j d = l.getD j d := by
 simp [List.getD_eq_getElem?_getD, List.getElem?_set_ne h]
theorem Kfz (b : List UInt8) : ∀ t j, t ≤ j → j < 16 → (Jz8 b t).getD j 0 = 0
 | 0, j, _, h => by
  show (List.replicate 16 (0 : UInt32)).getD j 0 = 0
  simp only [List.getD_eq_getElem?_getD, List.getElem?_replicate]
  rw [if_pos h]; rfl
 | t + 1, j, h1, h2 => by
  show ((Jz8 b t).set (t % 16) _).getD j 0 = 0
  rw [Jsy (by omega), Kfz b t j (by omega) h2]
theorem J74 (a b c : UInt32) : Jcv (Jcv a b) c = Jcv a (Jcv b c) := by
 simp only [Kww]; exact UInt32.add_assoc a b c
theorem Jsc (b : List UInt8) : ∀ t j, j < t → t ≤ j + 16 → (Jz8 b t).getD (j % 16) 0 = wd b j
 | 0, j, h, _ => absurd h (by omega)
 | t + 1, j, h1, h2 => by
  by_cases hj : j = t
  ·subst hj
   show ((Jz8 b j).set (j % 16) _).getD (j % 16) 0 = _
   rw [Jev (by rw [Kbe]; omega)]
   by_cases hl : j < 16
   ·rw [if_pos hl, K8o b j hl]
   ·rw [if_neg hl]
    obtain ⟨s, rfl⟩ : ∃ s, j = s + 16 := ⟨j - 16, by omega⟩
    rw [K58, show (s + 16) % 16 = s % 16 by omega, Jsc b (s + 16) s (by omega) (by omega), Jsc b (s + 16) (s + 16 - 15) (by omega) (by omega), Jsc b (s + 16) (s + 16 - 7) (by omega) (by omega), Jsc b (s + 16) (s + 16 - 2) (by omega) (by omega)]
    rw [show s + 16 - 15 = s + 1 by omega, show s + 16 - 7 = s + 9 by omega, show s + 16 - 2 = s + 14 by omega]
    simp only [J74]
  ·show ((Jz8 b t).set (t % 16) _).getD (j % 16) 0 = _
   rw [Jsy (by omega), Jsc b t j (by omega) (by omega)]
theorem K31 (t : Nat) : Jhk (t : Int) 16 = ((t % 16 : Nat) : Int) := by
 rw [J98 (by omega)]; omega
theorem Kw5 (t : Nat) (c : Int) (n : Nat) (hc : c = n) (h : n ≤ t) (ht : t < 4294967296) : Jhk (Jdj (t : Int) c) 16 = (((t - n) % 16 : Nat) : Int) := by
 subst hc
 rw [Jde (by omega) (by omega), J98 (by omega)]; omega
theorem Kp2 (x : UInt32) : Jfe x 6 11 25 169 = true := rfl
theorem Kp3 (x : UInt32) : Jfe x 2 13 22 169 = true := rfl
theorem K13 (x : UInt32) : Jfe x 7 18 3 177 = true := rfl
theorem K14 (x : UInt32) : Jfe x 17 19 10 177 = true := rfl
theorem Kf0 (x : UInt32) : Jd6 x 6 11 25 169 = bs1 x := rfl
theorem Kf1 (x : UInt32) : Jd6 x 2 13 22 169 = bs0 x := rfl
theorem Kw6 (x : UInt32) : Jd6 x 7 18 3 177 = ss0 x := rfl
theorem Kw7 (x : UInt32) : Jd6 x 17 19 10 177 = ss1 x := rfl
theorem Jsd {X : Type} (F : Nat) (fail : X) (ex : Int → UInt32 → List UInt32 → Int → List UInt8 → Int → Int → List UInt32 → List UInt8 → List UInt32 → List UInt32 → List UInt32 → X) (i : Nat) (k : UInt32) (s10 : List UInt32) (s11 : Int) (l : List UInt8) (n : Int) (j : Nat) (x : List UInt32) (b : List UInt8) (w s s4 : List UInt32) (m : Nat)
  (hl : l.length = 4) (hn : n = 4) (hj : j < 4) (hi : i < 16) :
  Jg5 F fail ex (m + 1) i k s10 s11 l n j x b w s s4 = Jg5 F fail ex m i k s10 s11 l n (j + 1 : Nat) x b (w.set i (orW (Jxf (w.getD i 0) 8) (Jxg (l.getD j 0)))) s s4 := by
 subst hn
 simp only [Jg5, Jv4]
 rw [Jaa (tt (by omega)), Jaa (tt2 (by omega) (by omega)), Jaa (tt2 (by omega) (by omega)), Jaa (tt2 (by omega) (by omega)), Jar (by omega) (by omega)]
 rfl
theorem ab_l2 {X : Type} (F : Nat) (fail : X) (ex : Int → UInt32 → List UInt32 → Int → List UInt8 → Int → Int → List UInt32 → List UInt8 → List UInt32 → List UInt32 → List UInt32 → X) (i : Nat) (k : UInt32) (s10 : List UInt32) (s11 : Int) (b : List UInt8) (x : List UInt32) (n : Int) (b' : List UInt8) (w s s4 : List UInt32) (m : Nat)
  (hb : 64 ≤ b.length) (hi : i < 16) (hw : w.length = 16) (h0 : w.getD i 0 = 0) (hn : n = 4) :
  Jg5 F fail ex (m + 5) i k s10 s11 ((b.take (4 * i + 4)).drop (4 * i)) n (0 : Nat) x b' w s s4 = ex i k s10 s11 ((b.take (4 * i + 4)).drop (4 * i)) n (4 : Nat) x b' (w.set i (Kry b i)) s s4 := by
 have hl : ((b.take (4 * i + 4)).drop (4 * i)).length = 4 := by simp; omega
 have hg : ∀ j, j < 4 → ((b.take (4 * i + 4)).drop (4 * i)).getD j 0 = b.getD (4 * i + j) 0 := fun j hj => by
  simp only [List.getD_eq_getElem?_getD, List.getElem?_drop]
  rw [List.getElem?_take_of_lt (by omega)]
 rw [Jsd F fail ex i k s10 s11 _ n 0 x b' w s s4 _ hl hn (by omega) hi, Jsd F fail ex i k s10 s11 _ n 1 x b' _ s s4 _ hl hn (by omega) hi, Jsd F fail ex i k s10 s11 _ n 2 x b' _ s s4 _ hl hn (by omega) hi, Jsd F fail ex i k s10 s11 _ n 3 x b' _ s s4 _ hl hn (by omega) hi]
 simp only [Jg5, Jv4]
 rw [Jab (ff (by omega))]
 rw [hg 0 (by omega), hg 1 (by omega), hg 2 (by omega), hg 3 (by omega)]
 rw [Jev (by omega), Jev (by rw [List.length_set]; omega), Jev (by rw [List.length_set, List.length_set]; omega), h0]
 simp only [List.set_set]
 rfl
theorem Kw8 (k w : UInt32) (x : List UInt32) :
  ([(Jcv (Jcv (Jcv (Jcv (List.getD x 7 (0 : UInt32)) (bs1 (List.getD x 4 (0 : UInt32)))) (Jl5 (List.getD x 6 (0 : UInt32)) (J2q (List.getD x 4 (0 : UInt32)) (Jl5 (List.getD x 5 (0 : UInt32)) (List.getD x 6 (0 : UInt32)))))) (Jcv k w)) (Jcv (bs0 (List.getD x 0 (0 : UInt32))) (orW (J2q (List.getD x 0 (0 : UInt32)) (List.getD x 1 (0 : UInt32))) (J2q (List.getD x 2 (0 : UInt32)) (orW (List.getD x 0 (0 : UInt32)) (List.getD x 1 (0 : UInt32))))))), (List.getD x 0 (0 : UInt32)), (List.getD x 1 (0 : UInt32)), (List.getD x 2 (0 : UInt32)), (Jcv (List.getD x 3 (0 : UInt32)) (Jcv (Jcv (Jcv (List.getD x 7 (0 : UInt32)) (bs1 (List.getD x 4 (0 : UInt32)))) (Jl5 (List.getD x 6 (0 : UInt32)) (J2q (List.getD x 4 (0 : UInt32)) (Jl5 (List.getD x 5 (0 : UInt32)) (List.getD x 6 (0 : UInt32)))))) (Jcv k w))), (List.getD x 4 (0 : UInt32)), (List.getD x 5 (0 : UInt32)), (List.getD x 6 (0 : UInt32))] : List UInt32) = rnd k w x := by
 rw [K8p, K8q]
 unfold rnd
 simp only [J74]
theorem K8r {X : Type} (F : Nat) (hF : F = 99) (fail : X) (ex : List UInt32 → Int → List UInt32 → List UInt8 → List UInt32 → List UInt32 → List UInt32 → X) (b : List UInt8) (hb : 64 ≤ b.length) (s s' s4 : List UInt32) : ∀ (j m t : Nat), t + j = 64 → j ≤ m →
  Jj7 F fail ex (m + 1) kW t (rds b s t) b (Jz8 b t) s' s4 = ex kW (64 : Nat) (rds b s 64) b (Jz8 b 64) s' s4
 | 0, m, t, ht, _ => by
  have e : t = 64 := by omega
  subst e
  simp only [Jj7, Jv5]
  rw [Jab (ff (by omega))]
 | j + 1, 0, t, _, hm => absurd hm (by omega)
 | j + 1, m + 1, t, ht, hm => by
  have ih := K8r F hF fail ex b hb s s' s4 j m (t + 1) (by omega) (by omega)
  have hg := Jsc b (t + 1) t (by omega) (by omega)
  have hc := Kbe b t
  rw [show rds b s (t + 1) = rnd (kW.getD t 0) (wd b t) (rds b s t) from rfl] at ih
  rw [Jj7, Jv5]
  rw [Jaa (tt (by omega)), Jaa (tt2 (by omega) (by omega))]
  by_cases hl : t < 16
  ·have e4 : Jll 4 (t : Int) = ((4 * t : Nat) : Int) := by rw [Ji5 (by omega) (by omega)]; omega
   have e44 : Jat (Jll 4 (t : Int)) 4 = ((4 * t + 4 : Nat) : Int) := by rw [e4, Jar (by omega) (by omega)]; omega
   have hw : Jz8 b (t + 1) = (Jz8 b t).set t (Kry b t) := by
    show (Jz8 b t).set (t % 16) _ = _
    rw [if_pos hl, Nat.mod_eq_of_lt hl]
   rw [Jaa (tt (by omega)), e44, e4, Jaa (tt3 (by omega) (by omega) (by omega))]
   simp only [Int.toNat_natCast]
   subst hF
   refine (ab_l2 99 fail _ t _ _ _ b _ _ b (Jz8 b t) s' s4 94 hb hl hc (Kfz b t t (by omega) hl) (by simp; omega)).trans ?_
   simp only [K31, Int.toNat_natCast]
   rw [Jaa (tt2 (by omega) (by omega)), Jaa (Kp2 _), Jaa (Kp3 _), Jar (by omega) (by omega), ← hw, hg, Kf0, Kf1, Kw8]
   exact ih
  ·have e15 := Kw5 t 15 15 rfl (by omega) (by omega)
   have e7 := Kw5 t 7 7 rfl (by omega) (by omega)
   have e2 := Kw5 t 2 2 rfl (by omega) (by omega)
   have hw : Jz8 b (t + 1) = (Jz8 b t).set (t % 16) (Jcv ((Jz8 b t).getD (t % 16) 0) (Jcv (Jcv (ss0 ((Jz8 b t).getD ((t - 15) % 16) 0)) ((Jz8 b t).getD ((t - 7) % 16) 0)) (ss1 ((Jz8 b t).getD ((t - 2) % 16) 0)))) := by
    show (Jz8 b t).set (t % 16) _ = _
    rw [if_neg hl]
   rw [Jab (ff (by omega)), e15, e7, e2, K31 t]
   simp only [Int.toNat_natCast]
   rw [Jaa (tt2 (by omega) (by omega)), Jaa (K13 _), Jaa (tt2 (by omega) (by omega)), Jaa (K14 _), Jaa (tt2 (by omega) (by omega)), Jaa (tt2 (by omega) (by omega)), Jaa (tt2 (by omega) (by omega)), Jaa (tt2 (by omega) (by omega)), Jaa (Kp2 _), Jaa (Kp3 _), Jar (by omega) (by omega), Kf0, Kf1, Kw6, Kw7, ← hw, hg, Kw8]
   exact ih
end Go.AI
