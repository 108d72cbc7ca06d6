/- Texts of the proof, joined: DigestP. Names of our own are shortened by program; the long ones stand in wip/. -/
import Derived.Test.YtcdajbmgoafnkaaGreatQrG
import Derived.Test.YtcdajbmgoafnkaaGreatQrDigestB
namespace Go.AI
open Go
theorem K65 (x : UInt32) (n : Int) (h : Jyb x n = true) : ∃ F, ∀ {X : Type} (fail : X) (ret : UInt32 → X), rotr F x n fail ret = ret (Kax x n) := ⟨1, fun fail ret => by
 simp only [Jyb, decide_eq_true_eq] at h
 unfold rotr
 rw [Jaa (tt h.1), Jaa (tt (by rw [Jca (by omega) (by omega)]; omega))]
 rfl⟩
theorem Ky8 (x : UInt32) (n : Int) (h : Jea x n = true) : ∃ F, ∀ {X : Type} (fail : X) (ret : UInt32 → X), Ql4 F x n fail ret = ret (Jhw x n) := ⟨1, fun fail ret => by
 simp only [Jea, decide_eq_true_eq] at h
 unfold Ql4
 rw [Jaa (tt h.1), Jaa (tt (by rw [Jca (by omega) (by omega)]; omega))]
 rfl⟩
theorem Qcr (x : UInt32) (n : Int) (h : Qic x n = true) : ∃ F, ∀ {X : Type} (fail : X) (ret : UInt32 → X), shr F x n fail ret = ret (Qlu x n) := ⟨1, fun fail ret => by
 unfold shr
 rw [Jaa (c := decide ((0 : Int) ≤ n)) h]
 rfl⟩
theorem Kmi (x : UInt32) (a b c : Int) (h : Jgs x a b c 168 = true) : ∃ F, ∀ {X : Type} (fail : X) (ret : UInt32 → X), Kyd F x a b c fail ret = ret (Je0 x a b c 168) := ⟨1, fun fail ret => by
 simp only [Jgs, Bool.and_eq_true, decide_eq_true_eq] at h
 unfold Kyd
 simp only [Jyb]
 rw [Jaa (tt (by omega)), Jaa (tt (by omega)), Jaa (tt (by omega))]
 rfl⟩
theorem Kmj (x : UInt32) (a b c : Int) (h : Jgs x a b c 177 = true) : ∃ F, ∀ {X : Type} (fail : X) (ret : UInt32 → X), Kye F x a b c fail ret = ret (Je0 x a b c 177) := ⟨1, fun fail ret => by
 simp only [Jgs, Bool.and_eq_true, decide_eq_true_eq] at h
 unfold Kye
 simp only [Jyb, Qic]
 rw [Jaa (tt (by omega)), Jaa (tt (by omega)), Jaa (tt (by omega))]
 rfl⟩
theorem Krm (_ : J8r = true) : ∃ F, ∀ {X : Type} (fail : X) (ret : List UInt32 → X), Qkg F fail ret = ret Klm := ⟨1, fun _ _ => rfl⟩
theorem Kmk (_ : J1a = true) : ∃ F, ∀ {X : Type} (fail : X) (ret : List UInt32 → X), Qb1 F fail ret = ret J1b := ⟨1, fun _ _ => rfl⟩
def J7g (b : List UInt8) : Nat → List UInt32
 | 0 => List.replicate 16 0
 | t + 1 => (J7g b t).set (t % 16) (if t < 16 then K3x b t else
   Jbp ((J7g b t).getD (t % 16) 0) (Jbp (Jbp (ss0 ((J7g b t).getD ((t - 15) % 16) 0)) ((J7g b t).getD ((t - 7) % 16) 0)) (ss1 ((J7g b t).getD ((t - 2) % 16) 0))))
theorem Kml (b : List UInt8) : ∀ t, (J7g b t).length = 16
 | 0 => rfl
 | t + 1 => by
  show ((J7g b t).set _ _).length = 16
  rw [List.length_set, Kml b t]
theorem Jdi {α : Type} {l : List α} {i : Nat} {a d : α} (h : i < l.length) : (l.set i a).getD i d = a := by
 simp [List.getD_eq_getElem?_getD, h]
theorem Jyd {α : Type} {l : List α} {i j : Nat} {a d : α} (h : i ≠ j) : (l.set i a).getD j d = l.getD j d := by
 simp [List.getD_eq_getElem?_getD, List.getElem?_set_ne h]
theorem Krn (b : List UInt8) : ∀ t j, t ≤ j → j < 16 → (J7g b t).getD j 0 = 0
 | 0, j, _, h => by
  show (List.replicate 16 (0 : UInt32)).getD j 0 = 0
  simp only [List.getD_eq_getElem?_getD, List.getElem?_replicate]
  rw [if_pos h]; rfl
 | t + 1, j, h1, h2 => by
  show ((J7g b t).set (t % 16) _).getD j 0 = 0
  rw [Jyd (by omega), Krn b t j (by omega) h2]
theorem Kir (a b c : UInt32) : Jbp (Jbp a b) c = Jbp a (Jbp b c) := by
 simp only [Ky5]; exact UInt32.add_assoc a b c
theorem Jlg (a b : UInt32) : Jbp a b = Jbp b a := by
 simp only [Ky5]; exact UInt32.add_comm a b
theorem Jxl (b : List UInt8) : ∀ t j, j < t → t ≤ j + 16 → (J7g b t).getD (j % 16) 0 = wd b j
 | 0, j, h, _ => absurd h (by omega)
 | t + 1, j, h1, h2 => by
  by_cases hj : j = t
  ·subst hj
   show ((J7g b j).set (j % 16) _).getD (j % 16) 0 = _
   rw [Jdi (by rw [Kml]; omega)]
   by_cases hl : j < 16
   ·rw [if_pos hl, Qkj b j hl]
   ·rw [if_neg hl]
    obtain ⟨s, rfl⟩ : ∃ s, j = s + 16 := ⟨j - 16, by omega⟩
    rw [Qcp, show (s + 16) % 16 = s % 16 by omega, Jxl b (s + 16) s (by omega) (by omega), Jxl b (s + 16) (s + 16 - 15) (by omega) (by omega), Jxl b (s + 16) (s + 16 - 7) (by omega) (by omega), Jxl b (s + 16) (s + 16 - 2) (by omega) (by omega)]
    rw [show s + 16 - 15 = s + 1 by omega, show s + 16 - 7 = s + 9 by omega, show s + 16 - 2 = s + 14 by omega]
    simp only [Kir]
  ·show ((J7g b t).set (t % 16) _).getD (j % 16) 0 = _
   rw [Jyd (by omega), Jxl b t j (by omega) (by omega)]
theorem Qkk (t : Nat) : Jcg (t : Int) 16 = ((t % 16 : Nat) : Int) := by
 rw [Jj6 (by omega)]; omega
theorem Qcs (t : Nat) (c : Int) (n : Nat) (hc : c = n) (h : n ≤ t) (ht : t < 4294967296) : Jcg (Jby (t : Int) c) 16 = (((t - n) % 16 : Nat) : Int) := by
 subst hc
 rw [Jca (by omega) (by omega), Jj6 (by omega)]; omega
theorem K4h (x : UInt32) : Jgs x 6 11 25 168 = true := rfl
theorem K4i (x : UInt32) : Jgs x 2 13 22 168 = true := rfl
theorem Qim (x : UInt32) : Jgs x 7 18 3 177 = true := rfl
theorem Qin (x : UInt32) : Jgs x 17 19 10 177 = true := rfl
theorem Kro (x : UInt32) : Je0 x 6 11 25 168 = bs1 x := rfl
theorem Krp (x : UInt32) : Je0 x 2 13 22 168 = bs0 x := rfl
theorem Qct (x : UInt32) : Je0 x 7 18 3 177 = ss0 x := rfl
theorem Qcu (x : UInt32) : Je0 x 17 19 10 177 = ss1 x := rfl
theorem Jxm {X : Type} (F : Nat) (fail : X) (ex : Int → UInt32 → List UInt32 → Int → List UInt8 → Int → Int → List UInt32 → List UInt8 → List UInt32 → List UInt32 → List UInt32 → X) (i : Nat) (k : UInt32) (s10 : List UInt32) (s11 : Int) (l : List UInt8) (n : Int) (j : Nat) (x : List UInt32) (b : List UInt8) (w s s4 : List UInt32) (m : Nat)
  (hl : l.length = 4) (hn : n = 4) (hj : j < 4) (hi : i < 16) :
  Ji7 F fail ex (m + 1) i k s10 s11 l n j x b w s s4 = Ji7 F fail ex m i k s10 s11 l n (j + 1 : Nat) x b (w.set i (orW (Jze (w.getD i 0) 8) (Jow (l.getD j 0)))) s s4 := by
 subst hn
 simp only [Ji7, J1w]
 rw [Jaa (tt (by omega)), Jaa (tt2 (by omega) (by omega)), Jaa (tt2 (by omega) (by omega)), Jaa (tt2 (by omega) (by omega)), Jai (by omega) (by omega)]
 rfl
theorem ab_l2 {X : Type} (F : Nat) (fail : X) (ex : Int → UInt32 → List UInt32 → Int → List UInt8 → Int → Int → List UInt32 → List UInt8 → List UInt32 → List UInt32 → List UInt32 → X) (i : Nat) (k : UInt32) (s10 : List UInt32) (s11 : Int) (b : List UInt8) (x : List UInt32) (n : Int) (b' : List UInt8) (w s s4 : List UInt32) (m : Nat)
  (hb : 64 ≤ b.length) (hi : i < 16) (hw : w.length = 16) (h0 : w.getD i 0 = 0) (hn : n = 4) :
  Ji7 F fail ex (m + 5) i k s10 s11 ((b.take (4 * i + 4)).drop (4 * i)) n (0 : Nat) x b' w s s4 = ex i k s10 s11 ((b.take (4 * i + 4)).drop (4 * i)) n (4 : Nat) x b' (w.set i (K3x b i)) s s4 := by
 have hl : ((b.take (4 * i + 4)).drop (4 * i)).length = 4 := by simp; omega
 have hg : ∀ j, j < 4 → ((b.take (4 * i + 4)).drop (4 * i)).getD j 0 = b.getD (4 * i + j) 0 := fun j hj => by
  simp only [List.getD_eq_getElem?_getD, List.getElem?_drop]
  rw [List.getElem?_take_of_lt (by omega)]
 rw [Jxm F fail ex i k s10 s11 _ n 0 x b' w s s4 _ hl hn (by omega) hi, Jxm F fail ex i k s10 s11 _ n 1 x b' _ s s4 _ hl hn (by omega) hi, Jxm F fail ex i k s10 s11 _ n 2 x b' _ s s4 _ hl hn (by omega) hi, Jxm F fail ex i k s10 s11 _ n 3 x b' _ s s4 _ hl hn (by omega) hi]
 simp only [Ji7, J1w]
 rw [Jab (ff (by omega))]
 rw [hg 0 (by omega), hg 1 (by omega), hg 2 (by omega), hg 3 (by omega)]
 rw [Jdi (by omega), Jdi (by rw [List.length_set]; omega), Jdi (by rw [List.length_set, List.length_set]; omega), h0]
 simp only [List.set_set]
 rfl
theorem Qcv (k w : UInt32) (x : List UInt32) :
  ([(Jbp (Jbp (Jbp (Jbp (List.getD x 7 (0 : UInt32)) (bs1 (List.getD x 4 (0 : UInt32)))) (Jgq (List.getD x 6 (0 : UInt32)) (J0h (List.getD x 4 (0 : UInt32)) (Jgq (List.getD x 5 (0 : UInt32)) (List.getD x 6 (0 : UInt32)))))) (Jbp k w)) (Jbp (bs0 (List.getD x 0 (0 : UInt32))) (orW (J0h (List.getD x 0 (0 : UInt32)) (List.getD x 1 (0 : UInt32))) (J0h (List.getD x 2 (0 : UInt32)) (orW (List.getD x 0 (0 : UInt32)) (List.getD x 1 (0 : UInt32))))))), (List.getD x 0 (0 : UInt32)), (List.getD x 1 (0 : UInt32)), (List.getD x 2 (0 : UInt32)), (Jbp (List.getD x 3 (0 : UInt32)) (Jbp (Jbp (Jbp (List.getD x 7 (0 : UInt32)) (bs1 (List.getD x 4 (0 : UInt32)))) (Jgq (List.getD x 6 (0 : UInt32)) (J0h (List.getD x 4 (0 : UInt32)) (Jgq (List.getD x 5 (0 : UInt32)) (List.getD x 6 (0 : UInt32)))))) (Jbp k w))), (List.getD x 4 (0 : UInt32)), (List.getD x 5 (0 : UInt32)), (List.getD x 6 (0 : UInt32))] : List UInt32) = rnd k w x := by
 rw [Qoy, Qoz]
 unfold rnd
 simp only [Kir]
theorem Qo0 {X : Type} (F : Nat) (hF : F = 99) (fail : X) (ex : List UInt32 → Int → List UInt32 → List UInt8 → List UInt32 → List UInt32 → List UInt32 → X) (b : List UInt8) (hb : 64 ≤ b.length) (s s' s4 : List UInt32) : ∀ (j m t : Nat), t + j = 64 → j ≤ m →
  Jmt F fail ex (m + 1) kW t (rds b s t) b (J7g b t) s' s4 = ex kW (64 : Nat) (rds b s 64) b (J7g b 64) s' s4
 | 0, m, t, ht, _ => by
  have e : t = 64 := by omega
  subst e
  simp only [Jmt, J1x]
  rw [Jab (ff (by omega))]
 | j + 1, 0, t, _, hm => absurd hm (by omega)
 | j + 1, m + 1, t, ht, hm => by
  have ih := Qo0 F hF fail ex b hb s s' s4 j m (t + 1) (by omega) (by omega)
  have hg := Jxl b (t + 1) t (by omega) (by omega)
  have hc := Kml b t
  rw [show rds b s (t + 1) = rnd (kW.getD t 0) (wd b t) (rds b s t) from rfl] at ih
  rw [Jmt, J1x]
  rw [Jaa (tt (by omega)), Jaa (tt2 (by omega) (by omega))]
  by_cases hl : t < 16
  ·have e4 : Je6 4 (t : Int) = ((4 * t : Nat) : Int) := by rw [Jff (by omega) (by omega)]; omega
   have e44 : Jag (Je6 4 (t : Int)) 4 = ((4 * t + 4 : Nat) : Int) := by rw [e4, Jai (by omega) (by omega)]; omega
   have hw : J7g b (t + 1) = (J7g b t).set t (K3x b t) := by
    show (J7g b t).set (t % 16) _ = _
    rw [if_pos hl, Nat.mod_eq_of_lt hl]
   rw [Jaa (tt (by omega)), e44, e4, Jaa (tt3 (by omega) (by omega) (by omega))]
   simp only [Int.toNat_natCast]
   subst hF
   refine (ab_l2 99 fail _ t _ _ _ b _ _ b (J7g b t) s' s4 94 hb hl hc (Krn b t t (by omega) hl) (by simp; omega)).trans ?_
   simp only [Qkk, Int.toNat_natCast]
   rw [Jaa (tt2 (by omega) (by omega)), Jaa (K4h _), Jaa (K4i _), Jai (by omega) (by omega), ← hw, hg, Kro, Krp, Qcv]
   exact ih
  ·have e15 := Qcs t 15 15 rfl (by omega) (by omega)
   have e7 := Qcs t 7 7 rfl (by omega) (by omega)
   have e2 := Qcs t 2 2 rfl (by omega) (by omega)
   have hw : J7g b (t + 1) = (J7g b t).set (t % 16) (Jbp ((J7g b t).getD (t % 16) 0) (Jbp (Jbp (ss0 ((J7g b t).getD ((t - 15) % 16) 0)) ((J7g b t).getD ((t - 7) % 16) 0)) (ss1 ((J7g b t).getD ((t - 2) % 16) 0)))) := by
    show (J7g b t).set (t % 16) _ = _
    rw [if_neg hl]
   rw [Jab (ff (by omega)), e15, e7, e2, Qkk t]
   simp only [Int.toNat_natCast]
   rw [Jaa (tt2 (by omega) (by omega)), Jaa (Qim _), Jaa (tt2 (by omega) (by omega)), Jaa (Qin _), Jaa (tt2 (by omega) (by omega)), Jaa (tt2 (by omega) (by omega)), Jaa (tt2 (by omega) (by omega)), Jaa (tt2 (by omega) (by omega)), Jaa (K4h _), Jaa (K4i _), Jai (by omega) (by omega), Kro, Krp, Qct, Qcu, ← hw, hg, Qcv]
   exact ih
end Go.AI
