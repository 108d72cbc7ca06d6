/- Texts of the proof, joined: DigestP. Names of our own are shortened by program; the long ones stand in wip/. -/
import Derived.Test.YtcdajbmgoafnkaaGreatQwG
import Derived.Test.YtcdajbmgoafnkaaGreatQwDigestB
namespace Go.AI
open Go
theorem Kzw (x : UInt32) (n : Int) (h : Jve x n = true) : ∃ F, ∀ {X : Type} (fail : X) (ret : UInt32 → X), rotr F x n fail ret = ret (J6m x n) := ⟨1, fun fail ret => by
 simp only [Jve, decide_eq_true_eq] at h
 unfold rotr
 rw [Jaa (tt h.1), Jaa (tt (by rw [Jcf (by omega) (by omega)]; omega))]
 rfl⟩
theorem Ksa (x : UInt32) (n : Int) (h : Jdl x n = true) : ∃ F, ∀ {X : Type} (fail : X) (ret : UInt32 → X), Qe8 F x n fail ret = ret (Jgi x n) := ⟨1, fun fail ret => by
 simp only [Jdl, decide_eq_true_eq] at h
 unfold Qe8
 rw [Jaa (tt h.1), Jaa (tt (by rw [Jcf (by omega) (by omega)]; omega))]
 rfl⟩
theorem K5e (x : UInt32) (n : Int) (h : Qax x n = true) : ∃ F, ∀ {X : Type} (fail : X) (ret : UInt32 → X), shr F x n fail ret = ret (Qe5 x n) := ⟨1, fun fail ret => by
 unfold shr
 rw [Jaa (c := decide ((0 : Int) ≤ n)) h]
 rfl⟩
theorem Kgi (x : UInt32) (a b c : Int) (h : Jfj x a b c 168 = true) : ∃ F, ∀ {X : Type} (fail : X) (ret : UInt32 → X), Kri F x a b c fail ret = ret (Jd7 x a b c 168) := ⟨1, fun fail ret => by
 simp only [Jfj, Bool.and_eq_true, decide_eq_true_eq] at h
 unfold Kri
 simp only [Jve]
 rw [Jaa (tt (by omega)), Jaa (tt (by omega)), Jaa (tt (by omega))]
 rfl⟩
theorem Kgj (x : UInt32) (a b c : Int) (h : Jfj x a b c 177 = true) : ∃ F, ∀ {X : Type} (fail : X) (ret : UInt32 → X), Krj F x a b c fail ret = ret (Jd7 x a b c 177) := ⟨1, fun fail ret => by
 simp only [Jfj, Bool.and_eq_true, decide_eq_true_eq] at h
 unfold Krj
 simp only [Jve, Qax]
 rw [Jaa (tt (by omega)), Jaa (tt (by omega)), Jaa (tt (by omega))]
 rfl⟩
theorem Klh (_ : J4m = true) : ∃ F, ∀ {X : Type} (fail : X) (ret : List UInt32 → X), Qdd F fail ret = ret Kfk := ⟨1, fun _ _ => rfl⟩
theorem Kgk (_ : Jx8 = true) : ∃ F, ∀ {X : Type} (fail : X) (ret : List UInt32 → X), K4m F fail ret = ret Jx9 := ⟨1, fun _ _ => rfl⟩
def J3n (b : List UInt8) : Nat → List UInt32
 | 0 => List.replicate 16 0
 | t + 1 => (J3n b t).set (t % 16) (if t < 16 then Kwv b t else
   Jbf ((J3n b t).getD (t % 16) 0) (Jbf (Jbf (ss0 ((J3n b t).getD ((t - 15) % 16) 0)) ((J3n b t).getD ((t - 7) % 16) 0)) (ss1 ((J3n b t).getD ((t - 2) % 16) 0))))
theorem Kgl (b : List UInt8) : ∀ t, (J3n b t).length = 16
 | 0 => rfl
 | t + 1 => by
  show ((J3n b t).set _ _).length = 16
  rw [List.length_set, Kgl b t]
theorem Jcz {α : Type} {l : List α} {i : Nat} {a d : α} (h : i < l.length) : (l.set i a).getD i d = a := by
 simp [List.getD_eq_getElem?_getD, h]
theorem Jvg {α : Type} {l : List α} {i j : Nat} {a d : α} (h : i ≠ j) : (l.set i a).getD j d = l.getD j d := by
 simp [List.getD_eq_getElem?_getD, List.getElem?_set_ne h]
theorem Kli (b : List UInt8) : ∀ t j, t ≤ j → j < 16 → (J3n b t).getD j 0 = 0
 | 0, j, _, h => by
  show (List.replicate 16 (0 : UInt32)).getD j 0 = 0
  simp only [List.getD_eq_getElem?_getD, List.getElem?_replicate]
  rw [if_pos h]; rfl
 | t + 1, j, h1, h2 => by
  show ((J3n b t).set (t % 16) _).getD j 0 = 0
  rw [Jvg (by omega), Kli b t j (by omega) h2]
theorem Kc0 (a b c : UInt32) : Jbf (Jbf a b) c = Jbf a (Jbf b c) := by
 simp only [Kr6]; exact UInt32.add_assoc a b c
theorem Jjw (a b : UInt32) : Jbf a b = Jbf b a := by
 simp only [Kr6]; exact UInt32.add_comm a b
theorem Jul (b : List UInt8) : ∀ t j, j < t → t ≤ j + 16 → (J3n b t).getD (j % 16) 0 = wd b j
 | 0, j, h, _ => absurd h (by omega)
 | t + 1, j, h1, h2 => by
  by_cases hj : j = t
  ·subst hj
   show ((J3n b j).set (j % 16) _).getD (j % 16) 0 = _
   rw [Jcz (by rw [Kgl]; omega)]
   by_cases hl : j < 16
   ·rw [if_pos hl, Qdh b j hl]
   ·rw [if_neg hl]
    obtain ⟨s, rfl⟩ : ∃ s, j = s + 16 := ⟨j - 16, by omega⟩
    rw [K5c, show (s + 16) % 16 = s % 16 by omega, Jul b (s + 16) s (by omega) (by omega), Jul b (s + 16) (s + 16 - 15) (by omega) (by omega), Jul b (s + 16) (s + 16 - 7) (by omega) (by omega), Jul b (s + 16) (s + 16 - 2) (by omega) (by omega)]
    rw [show s + 16 - 15 = s + 1 by omega, show s + 16 - 7 = s + 9 by omega, show s + 16 - 2 = s + 14 by omega]
    simp only [Kc0]
  ·show ((J3n b t).set (t % 16) _).getD (j % 16) 0 = _
   rw [Jvg (by omega), Jul b t j (by omega) (by omega)]
theorem Qdi (t : Nat) : Jb8 (t : Int) 16 = ((t % 16 : Nat) : Int) := by
 rw [Jnu (by omega)]; omega
theorem K5f (t : Nat) (c : Int) (n : Nat) (hc : c = n) (h : n ≤ t) (ht : t < 4294967296) : Jb8 (Jby (t : Int) c) 16 = (((t - n) % 16 : Nat) : Int) := by
 subst hc
 rw [Jcf (by omega) (by omega), Jnu (by omega)]; omega
theorem Kxh (x : UInt32) : Jfj x 6 11 25 168 = true := rfl
theorem Kxi (x : UInt32) : Jfj x 2 13 22 168 = true := rfl
theorem Qbc (x : UInt32) : Jfj x 7 18 3 177 = true := rfl
theorem Qbd (x : UInt32) : Jfj x 17 19 10 177 = true := rfl
theorem Klj (x : UInt32) : Jd7 x 6 11 25 168 = bs1 x := rfl
theorem Klk (x : UInt32) : Jd7 x 2 13 22 168 = bs0 x := rfl
theorem K5g (x : UInt32) : Jd7 x 7 18 3 177 = ss0 x := rfl
theorem K5h (x : UInt32) : Jd7 x 17 19 10 177 = ss1 x := rfl
theorem Jum {X : Type} (F : Nat) (fail : X) (ex : Int → UInt32 → List UInt32 → Int → List UInt8 → Int → Int → List UInt32 → List UInt8 → List UInt32 → List UInt32 → List UInt32 → X) (i : Nat) (k : UInt32) (s10 : List UInt32) (s11 : Int) (l : List UInt8) (n : Int) (j : Nat) (x : List UInt32) (b : List UInt8) (w s s4 : List UInt32) (m : Nat)
  (hl : l.length = 4) (hn : n = 4) (hj : j < 4) (hi : i < 16) :
  Jhr F fail ex (m + 1) i k s10 s11 l n j x b w s s4 = Jhr F fail ex m i k s10 s11 l n (j + 1 : Nat) x b (w.set i (orW (Jwh (w.getD i 0) 8) (Jn1 (l.getD j 0)))) s s4 := by
 subst hn
 simp only [Jhr, Jyk]
 rw [Jaa (tt (by omega)), Jaa (tt2 (by omega) (by omega)), Jaa (tt2 (by omega) (by omega)), Jaa (tt2 (by omega) (by omega)), Jak (by omega) (by omega)]
 rfl
theorem ab_l2 {X : Type} (F : Nat) (fail : X) (ex : Int → UInt32 → List UInt32 → Int → List UInt8 → Int → Int → List UInt32 → List UInt8 → List UInt32 → List UInt32 → List UInt32 → X) (i : Nat) (k : UInt32) (s10 : List UInt32) (s11 : Int) (b : List UInt8) (x : List UInt32) (n : Int) (b' : List UInt8) (w s s4 : List UInt32) (m : Nat)
  (hb : 64 ≤ b.length) (hi : i < 16) (hw : w.length = 16) (h0 : w.getD i 0 = 0) (hn : n = 4) :
  Jhr F fail ex (m + 5) i k s10 s11 ((b.take (4 * i + 4)).drop (4 * i)) n (0 : Nat) x b' w s s4 = ex i k s10 s11 ((b.take (4 * i + 4)).drop (4 * i)) n (4 : Nat) x b' (w.set i (Kwv b i)) s s4 := by
 have hl : ((b.take (4 * i + 4)).drop (4 * i)).length = 4 := by simp; omega
 have hg : ∀ j, j < 4 → ((b.take (4 * i + 4)).drop (4 * i)).getD j 0 = b.getD (4 * i + j) 0 := fun j hj => by
  simp only [List.getD_eq_getElem?_getD, List.getElem?_drop]
  rw [List.getElem?_take_of_lt (by omega)]
 rw [Jum F fail ex i k s10 s11 _ n 0 x b' w s s4 _ hl hn (by omega) hi, Jum F fail ex i k s10 s11 _ n 1 x b' _ s s4 _ hl hn (by omega) hi, Jum F fail ex i k s10 s11 _ n 2 x b' _ s s4 _ hl hn (by omega) hi, Jum F fail ex i k s10 s11 _ n 3 x b' _ s s4 _ hl hn (by omega) hi]
 simp only [Jhr, Jyk]
 rw [Jab (ff (by omega))]
 rw [hg 0 (by omega), hg 1 (by omega), hg 2 (by omega), hg 3 (by omega)]
 rw [Jcz (by omega), Jcz (by rw [List.length_set]; omega), Jcz (by rw [List.length_set, List.length_set]; omega), h0]
 simp only [List.set_set]
 rfl
theorem K5i (k w : UInt32) (x : List UInt32) :
  ([(Jbf (Jbf (Jbf (Jbf (List.getD x 7 (0 : UInt32)) (bs1 (List.getD x 4 (0 : UInt32)))) (Jgg (List.getD x 6 (0 : UInt32)) (Jxc (List.getD x 4 (0 : UInt32)) (Jgg (List.getD x 5 (0 : UInt32)) (List.getD x 6 (0 : UInt32)))))) (Jbf k w)) (Jbf (bs0 (List.getD x 0 (0 : UInt32))) (orW (Jxc (List.getD x 0 (0 : UInt32)) (List.getD x 1 (0 : UInt32))) (Jxc (List.getD x 2 (0 : UInt32)) (orW (List.getD x 0 (0 : UInt32)) (List.getD x 1 (0 : UInt32))))))), (List.getD x 0 (0 : UInt32)), (List.getD x 1 (0 : UInt32)), (List.getD x 2 (0 : UInt32)), (Jbf (List.getD x 3 (0 : UInt32)) (Jbf (Jbf (Jbf (List.getD x 7 (0 : UInt32)) (bs1 (List.getD x 4 (0 : UInt32)))) (Jgg (List.getD x 6 (0 : UInt32)) (Jxc (List.getD x 4 (0 : UInt32)) (Jgg (List.getD x 5 (0 : UInt32)) (List.getD x 6 (0 : UInt32)))))) (Jbf k w))), (List.getD x 4 (0 : UInt32)), (List.getD x 5 (0 : UInt32)), (List.getD x 6 (0 : UInt32))] : List UInt32) = rnd k w x := by
 rw [Qh9, Qia]
 unfold rnd
 simp only [Kc0]
theorem Qib {X : Type} (F : Nat) (hF : F = 99) (fail : X) (ex : List UInt32 → Int → List UInt32 → List UInt8 → List UInt32 → List UInt32 → List UInt32 → X) (b : List UInt8) (hb : 64 ≤ b.length) (s s' s4 : List UInt32) : ∀ (j m t : Nat), t + j = 64 → j ≤ m →
  Jlh F fail ex (m + 1) kW t (rds b s t) b (J3n b t) s' s4 = ex kW (64 : Nat) (rds b s 64) b (J3n b 64) s' s4
 | 0, m, t, ht, _ => by
  have e : t = 64 := by omega
  subst e
  simp only [Jlh, Jyl]
  rw [Jab (ff (by omega))]
 | j + 1, 0, t, _, hm => absurd hm (by omega)
 | j + 1, m + 1, t, ht, hm => by
  have ih := Qib F hF fail ex b hb s s' s4 j m (t + 1) (by omega) (by omega)
  have hg := Jul b (t + 1) t (by omega) (by omega)
  have hc := Kgl b t
  rw [show rds b s (t + 1) = rnd (kW.getD t 0) (wd b t) (rds b s t) from rfl] at ih
  rw [Jlh, Jyl]
  rw [Jaa (tt (by omega)), Jaa (tt2 (by omega) (by omega))]
  by_cases hl : t < 16
  ·have e4 : Jfe 4 (t : Int) = ((4 * t : Nat) : Int) := by rw [Jgv (by omega) (by omega)]; omega
   have e44 : Jag (Jfe 4 (t : Int)) 4 = ((4 * t + 4 : Nat) : Int) := by rw [e4, Jak (by omega) (by omega)]; omega
   have hw : J3n b (t + 1) = (J3n b t).set t (Kwv b t) := by
    show (J3n b t).set (t % 16) _ = _
    rw [if_pos hl, Nat.mod_eq_of_lt hl]
   rw [Jaa (tt (by omega)), e44, e4, Jaa (tt3 (by omega) (by omega) (by omega))]
   simp only [Int.toNat_natCast]
   subst hF
   refine (ab_l2 99 fail _ t _ _ _ b _ _ b (J3n b t) s' s4 94 hb hl hc (Kli b t t (by omega) hl) (by simp; omega)).trans ?_
   simp only [Qdi, Int.toNat_natCast]
   rw [Jaa (tt2 (by omega) (by omega)), Jaa (Kxh _), Jaa (Kxi _), Jak (by omega) (by omega), ← hw, hg, Klj, Klk, K5i]
   exact ih
  ·have e15 := K5f t 15 15 rfl (by omega) (by omega)
   have e7 := K5f t 7 7 rfl (by omega) (by omega)
   have e2 := K5f t 2 2 rfl (by omega) (by omega)
   have hw : J3n b (t + 1) = (J3n b t).set (t % 16) (Jbf ((J3n b t).getD (t % 16) 0) (Jbf (Jbf (ss0 ((J3n b t).getD ((t - 15) % 16) 0)) ((J3n b t).getD ((t - 7) % 16) 0)) (ss1 ((J3n b t).getD ((t - 2) % 16) 0)))) := by
    show (J3n b t).set (t % 16) _ = _
    rw [if_neg hl]
   rw [Jab (ff (by omega)), e15, e7, e2, Qdi t]
   simp only [Int.toNat_natCast]
   rw [Jaa (tt2 (by omega) (by omega)), Jaa (Qbc _), Jaa (tt2 (by omega) (by omega)), Jaa (Qbd _), Jaa (tt2 (by omega) (by omega)), Jaa (tt2 (by omega) (by omega)), Jaa (tt2 (by omega) (by omega)), Jaa (tt2 (by omega) (by omega)), Jaa (Kxh _), Jaa (Kxi _), Jak (by omega) (by omega), Klj, Klk, K5g, K5h, ← hw, hg, K5i]
   exact ih
end Go.AI
