/- Texts of the proof, joined: DigestP. Names of our own are shortened by program; the long ones stand in wip/. -/
import Derived.Test.YtcdajbmgoafnkaaGreatQvG
import Derived.Test.YtcdajbmgoafnkaaGreatQvDigestB
namespace Go.AI
open Go
theorem Ks3 (x : UInt32) (n : Int) (h : Jtj x n = true) : ∃ F, ∀ {X : Type} (fail : X) (ret : UInt32 → X), rotr F x n fail ret = ret (J3j x n) := ⟨1, fun fail ret => by
 simp only [Jtj, decide_eq_true_eq] at h
 unfold rotr
 rw [Jaa (tt h.1), Jaa (tt (by rw [Jdo (by omega) (by omega)]; omega))]
 rfl⟩
theorem Kx6 (x : UInt32) (n : Int) (h : K24 x n = true) : ∃ F, ∀ {X : Type} (fail : X) (ret : UInt32 → X), shr F x n fail ret = ret (K60 x n) := ⟨1, fun fail ret => by
 unfold shr
 rw [Jaa (c := decide ((0 : Int) ≤ n)) h]
 rfl⟩
theorem Kb8 (x : UInt32) (a b c : Int) (h : Jft x a b c 168 = true) : ∃ F, ∀ {X : Type} (fail : X) (ret : UInt32 → X), Klm F x a b c fail ret = ret (Jel x a b c 168) := ⟨1, fun fail ret => by
 simp only [Jft, Bool.and_eq_true, decide_eq_true_eq] at h
 unfold Klm
 simp only [Jtj]
 rw [Jaa (tt (by omega)), Jaa (tt (by omega)), Jaa (tt (by omega))]
 rfl⟩
theorem Kb9 (x : UInt32) (a b c : Int) (h : Jft x a b c 177 = true) : ∃ F, ∀ {X : Type} (fail : X) (ret : UInt32 → X), Kln F x a b c fail ret = ret (Jel x a b c 177) := ⟨1, fun fail ret => by
 simp only [Jft, Bool.and_eq_true, decide_eq_true_eq] at h
 unfold Kln
 simp only [Jtj, K24]
 rw [Jaa (tt (by omega)), Jaa (tt (by omega)), Jaa (tt (by omega))]
 rfl⟩
theorem Kgn (_ : J1s = true) : ∃ F, ∀ {X : Type} (fail : X) (ret : List UInt32 → X), K5e F fail ret = ret Kba := ⟨1, fun _ _ => rfl⟩
def J0u (b : List UInt8) : Nat → List UInt32
 | 0 => List.replicate 16 0
 | t + 1 => (J0u b t).set (t % 16) (if t < 16 then Ksv b t else
   Jdb ((J0u b t).getD (t % 16) 0) (Jdb (Jdb (ss0 ((J0u b t).getD ((t - 15) % 16) 0)) ((J0u b t).getD ((t - 7) % 16) 0)) (ss1 ((J0u b t).getD ((t - 2) % 16) 0))))
theorem Kca (b : List UInt8) : ∀ t, (J0u b t).length = 16
 | 0 => rfl
 | t + 1 => by
  show ((J0u b t).set _ _).length = 16
  rw [List.length_set, Kca b t]
theorem Je8 {α : Type} {l : List α} {i : Nat} {a d : α} (h : i < l.length) : (l.set i a).getD i d = a := by
 simp [List.getD_eq_getElem?_getD, h]
theorem Jtm {α : Type} {l : List α} {i j : Nat} {a d : α} (h : i ≠ j) : (l.set i a).getD j d = l.getD j d := by
 simp [List.getD_eq_getElem?_getD, List.getElem?_set_ne h]
theorem Kgo (b : List UInt8) : ∀ t j, t ≤ j → j < 16 → (J0u b t).getD j 0 = 0
 | 0, j, _, h => by
  show (List.replicate 16 (0 : UInt32)).getD j 0 = 0
  simp only [List.getD_eq_getElem?_getD, List.getElem?_replicate]
  rw [if_pos h]; rfl
 | t + 1, j, h1, h2 => by
  show ((J0u b t).set (t % 16) _).getD j 0 = 0
  rw [Jtm (by omega), Kgo b t j (by omega) h2]
theorem J8z (a b c : UInt32) : Jdb (Jdb a b) c = Jdb a (Jdb b c) := by
 simp only [Kxy]; exact UInt32.add_assoc a b c
theorem Jsw (b : List UInt8) : ∀ t j, j < t → t ≤ j + 16 → (J0u b t).getD (j % 16) 0 = wd b j
 | 0, j, h, _ => absurd h (by omega)
 | t + 1, j, h1, h2 => by
  by_cases hj : j = t
  ·subst hj
   show ((J0u b j).set (j % 16) _).getD (j % 16) 0 = _
   rw [Je8 (by rw [Kca]; omega)]
   by_cases hl : j < 16
   ·rw [if_pos hl, K91 b j hl]
   ·rw [if_neg hl]
    obtain ⟨s, rfl⟩ : ∃ s, j = s + 16 := ⟨j - 16, by omega⟩
    rw [K7o, show (s + 16) % 16 = s % 16 by omega, Jsw b (s + 16) s (by omega) (by omega), Jsw b (s + 16) (s + 16 - 15) (by omega) (by omega), Jsw b (s + 16) (s + 16 - 7) (by omega) (by omega), Jsw b (s + 16) (s + 16 - 2) (by omega) (by omega)]
    rw [show s + 16 - 15 = s + 1 by omega, show s + 16 - 7 = s + 9 by omega, show s + 16 - 2 = s + 14 by omega]
    simp only [J8z]
  ·show ((J0u b t).set (t % 16) _).getD (j % 16) 0 = _
   rw [Jtm (by omega), Jsw b t j (by omega) (by omega)]
theorem K5j (t : Nat) : Jgg (t : Int) 16 = ((t % 16 : Nat) : Int) := by
 rw [J3f (by omega)]; omega
theorem Kx7 (t : Nat) (c : Int) (n : Nat) (hc : c = n) (h : n ≤ t) (ht : t < 4294967296) : Jgg (Jb3 (t : Int) c) 16 = (((t - n) % 16 : Nat) : Int) := by
 subst hc
 rw [Jdo (by omega) (by omega), J3f (by omega)]; omega
theorem Kqv (x : UInt32) : Jft x 6 11 25 168 = true := rfl
theorem Kqw (x : UInt32) : Jft x 2 13 22 168 = true := rfl
theorem K3h (x : UInt32) : Jft x 7 18 3 177 = true := rfl
theorem K3i (x : UInt32) : Jft x 17 19 10 177 = true := rfl
theorem Kgp (x : UInt32) : Jel x 6 11 25 168 = bs1 x := rfl
theorem Kgq (x : UInt32) : Jel x 2 13 22 168 = bs0 x := rfl
theorem Kx8 (x : UInt32) : Jel x 7 18 3 177 = ss0 x := rfl
theorem Kx9 (x : UInt32) : Jel x 17 19 10 177 = ss1 x := rfl
theorem Jsx {X : Type} (F : Nat) (fail : X) (ex : Int → UInt32 → List UInt32 → Int → List UInt8 → Int → Int → List UInt32 → List UInt8 → List UInt32 → List UInt32 → List UInt32 → X) (i : Nat) (k : UInt32) (s10 : List UInt32) (s11 : Int) (l : List UInt8) (n : Int) (j : Nat) (x : List UInt32) (b : List UInt8) (w s s4 : List UInt32) (m : Nat)
  (hl : l.length = 4) (hn : n = 4) (hj : j < 4) (hi : i < 16) :
  Jhi F fail ex (m + 1) i k s10 s11 l n j x b w s s4 = Jhi F fail ex m i k s10 s11 l n (j + 1 : Nat) x b (w.set i (orW (Jxz (w.getD i 0) 8) (Jx0 (l.getD j 0)))) s s4 := by
 subst hn
 simp only [Jhi, Jwo]
 rw [Jaa (tt (by omega)), Jaa (tt2 (by omega) (by omega)), Jaa (tt2 (by omega) (by omega)), Jaa (tt2 (by omega) (by omega)), Jam (by omega) (by omega)]
 rfl
theorem ab_l2 {X : Type} (F : Nat) (fail : X) (ex : Int → UInt32 → List UInt32 → Int → List UInt8 → Int → Int → List UInt32 → List UInt8 → List UInt32 → List UInt32 → List UInt32 → X) (i : Nat) (k : UInt32) (s10 : List UInt32) (s11 : Int) (b : List UInt8) (x : List UInt32) (n : Int) (b' : List UInt8) (w s s4 : List UInt32) (m : Nat)
  (hb : 64 ≤ b.length) (hi : i < 16) (hw : w.length = 16) (h0 : w.getD i 0 = 0) (hn : n = 4) :
  Jhi F fail ex (m + 5) i k s10 s11 ((b.take (4 * i + 4)).drop (4 * i)) n (0 : Nat) x b' w s s4 = ex i k s10 s11 ((b.take (4 * i + 4)).drop (4 * i)) n (4 : Nat) x b' (w.set i (Ksv b i)) s s4 := by
 have hl : ((b.take (4 * i + 4)).drop (4 * i)).length = 4 := by simp; omega
 have hg : ∀ j, j < 4 → ((b.take (4 * i + 4)).drop (4 * i)).getD j 0 = b.getD (4 * i + j) 0 := fun j hj => by
  simp only [List.getD_eq_getElem?_getD, List.getElem?_drop]
  rw [List.getElem?_take_of_lt (by omega)]
 rw [Jsx F fail ex i k s10 s11 _ n 0 x b' w s s4 _ hl hn (by omega) hi, Jsx F fail ex i k s10 s11 _ n 1 x b' _ s s4 _ hl hn (by omega) hi, Jsx F fail ex i k s10 s11 _ n 2 x b' _ s s4 _ hl hn (by omega) hi, Jsx F fail ex i k s10 s11 _ n 3 x b' _ s s4 _ hl hn (by omega) hi]
 simp only [Jhi, Jwo]
 rw [Jab (ff (by omega))]
 rw [hg 0 (by omega), hg 1 (by omega), hg 2 (by omega), hg 3 (by omega)]
 rw [Je8 (by omega), Je8 (by rw [List.length_set]; omega), Je8 (by rw [List.length_set, List.length_set]; omega), h0]
 simp only [List.set_set]
 rfl
theorem Kya (k w : UInt32) (x : List UInt32) :
  ([(Jdb (Jdb (Jdb (Jdb (List.getD x 7 (0 : UInt32)) (bs1 (List.getD x 4 (0 : UInt32)))) (Jmm (List.getD x 6 (0 : UInt32)) (J3d (List.getD x 4 (0 : UInt32)) (Jmm (List.getD x 5 (0 : UInt32)) (List.getD x 6 (0 : UInt32)))))) (Jdb k w)) (Jdb (bs0 (List.getD x 0 (0 : UInt32))) (orW (J3d (List.getD x 0 (0 : UInt32)) (List.getD x 1 (0 : UInt32))) (J3d (List.getD x 2 (0 : UInt32)) (orW (List.getD x 0 (0 : UInt32)) (List.getD x 1 (0 : UInt32))))))), (List.getD x 0 (0 : UInt32)), (List.getD x 1 (0 : UInt32)), (List.getD x 2 (0 : UInt32)), (Jdb (List.getD x 3 (0 : UInt32)) (Jdb (Jdb (Jdb (List.getD x 7 (0 : UInt32)) (bs1 (List.getD x 4 (0 : UInt32)))) (Jmm (List.getD x 6 (0 : UInt32)) (J3d (List.getD x 4 (0 : UInt32)) (Jmm (List.getD x 5 (0 : UInt32)) (List.getD x 6 (0 : UInt32)))))) (Jdb k w))), (List.getD x 4 (0 : UInt32)), (List.getD x 5 (0 : UInt32)), (List.getD x 6 (0 : UInt32))] : List UInt32) = rnd k w x := by
 rw [K92, K93]
 unfold rnd
 simp only [J8z]
theorem K94 {X : Type} (F : Nat) (hF : F = 99) (fail : X) (ex : List UInt32 → Int → List UInt32 → List UInt8 → List UInt32 → List UInt32 → List UInt32 → X) (b : List UInt8) (hb : 64 ≤ b.length) (s s' s4 : List UInt32) : ∀ (j m t : Nat), t + j = 64 → j ≤ m →
  Jkp F fail ex (m + 1) kW t (rds b s t) b (J0u b t) s' s4 = ex kW (64 : Nat) (rds b s 64) b (J0u b 64) s' s4
 | 0, m, t, ht, _ => by
  have e : t = 64 := by omega
  subst e
  simp only [Jkp, Jwp]
  rw [Jab (ff (by omega))]
 | j + 1, 0, t, _, hm => absurd hm (by omega)
 | j + 1, m + 1, t, ht, hm => by
  have ih := K94 F hF fail ex b hb s s' s4 j m (t + 1) (by omega) (by omega)
  have hg := Jsw b (t + 1) t (by omega) (by omega)
  have hc := Kca b t
  rw [show rds b s (t + 1) = rnd (kW.getD t 0) (wd b t) (rds b s t) from rfl] at ih
  rw [Jkp, Jwp]
  rw [Jaa (tt (by omega)), Jaa (tt2 (by omega) (by omega))]
  by_cases hl : t < 16
  ·have e4 : Jl4 4 (t : Int) = ((4 * t : Nat) : Int) := by rw [Jji (by omega) (by omega)]; omega
   have e44 : Jay (Jl4 4 (t : Int)) 4 = ((4 * t + 4 : Nat) : Int) := by rw [e4, Jam (by omega) (by omega)]; omega
   have hw : J0u b (t + 1) = (J0u b t).set t (Ksv b t) := by
    show (J0u b t).set (t % 16) _ = _
    rw [if_pos hl, Nat.mod_eq_of_lt hl]
   rw [Jaa (tt (by omega)), e44, e4, Jaa (tt3 (by omega) (by omega) (by omega))]
   simp only [Int.toNat_natCast]
   subst hF
   refine (ab_l2 99 fail _ t _ _ _ b _ _ b (J0u b t) s' s4 94 hb hl hc (Kgo b t t (by omega) hl) (by simp; omega)).trans ?_
   simp only [K5j, Int.toNat_natCast]
   rw [Jaa (tt2 (by omega) (by omega)), Jaa (Kqv _), Jaa (Kqw _), Jam (by omega) (by omega), ← hw, hg, Kgp, Kgq, Kya]
   exact ih
  ·have e15 := Kx7 t 15 15 rfl (by omega) (by omega)
   have e7 := Kx7 t 7 7 rfl (by omega) (by omega)
   have e2 := Kx7 t 2 2 rfl (by omega) (by omega)
   have hw : J0u b (t + 1) = (J0u b t).set (t % 16) (Jdb ((J0u b t).getD (t % 16) 0) (Jdb (Jdb (ss0 ((J0u b t).getD ((t - 15) % 16) 0)) ((J0u b t).getD ((t - 7) % 16) 0)) (ss1 ((J0u b t).getD ((t - 2) % 16) 0)))) := by
    show (J0u b t).set (t % 16) _ = _
    rw [if_neg hl]
   rw [Jab (ff (by omega)), e15, e7, e2, K5j t]
   simp only [Int.toNat_natCast]
   rw [Jaa (tt2 (by omega) (by omega)), Jaa (K3h _), Jaa (tt2 (by omega) (by omega)), Jaa (K3i _), Jaa (tt2 (by omega) (by omega)), Jaa (tt2 (by omega) (by omega)), Jaa (tt2 (by omega) (by omega)), Jaa (tt2 (by omega) (by omega)), Jaa (Kqv _), Jaa (Kqw _), Jam (by omega) (by omega), Kgp, Kgq, Kx8, Kx9, ← hw, hg, Kya]
   exact ih
end Go.AI
