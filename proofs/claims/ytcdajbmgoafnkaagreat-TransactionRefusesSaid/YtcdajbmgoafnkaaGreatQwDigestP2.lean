/- Texts of the proof, joined: DigestP2. Names of our own are shortened by program; the long ones stand in wip/. -/
import Derived.Test.YtcdajbmgoafnkaaGreatQwDigestP
import Derived.KernelRfl
namespace Go.AI
open Go
theorem Qg9 {l : List UInt32} (h : l.length = 8) : ∃ a b c d e f g i, l = [a, b, c, d, e, f, g, i] := by
 match l, h with
 | [a, b, c, d, e, f, g, i], _ => exact ⟨a, b, c, d, e, f, g, i, rfl⟩
theorem Qfw (b : List UInt8) (s : List UInt32) (t : Nat) : (rds b s t).length = 8 := by
 rw [← Kxe]; rfl
theorem ab_l3 {X : Type} (fail : X) (ex : Int → List UInt32 → List UInt32 → List UInt32 → X) (s s4 x : List UInt32) (hs : s.length = 8) (hx : x.length = 8) :
  Jol 99 fail ex 99 0 s s4 x = ex 8 s s4 (add8 x s) := by
 obtain ⟨s0, s1, s2, s3, s4', s5, s6, s7, rfl⟩ := Qg9 hs
 obtain ⟨x0, x1, x2, x3, x4, x5, x6, x7, rfl⟩ := Qg9 hx
 kernel_rfl
theorem Kll (s : List UInt32) (b : List UInt8) (h : Jx7 s b = true) : ∃ F, ∀ {X : Type} (fail : X) (ret : List UInt32 → X), K4k F s b fail ret = ret (Kfl s b) := ⟨99, fun fail ret => by
 simp only [Jx7, decide_eq_true_eq] at h
 unfold K4k
 rw [Jaa (c := J4m) rfl]
 have hl := Qib 99 rfl fail (fun (_ : List UInt32) (_ : Int) (x_ : List UInt32) (_ : List UInt8) (_ : List UInt32) (s2 : List UInt32) (s4 : List UInt32) =>
   Jol 99 fail (fun (_ : Int) (_ : List UInt32) (_ : List UInt32) (x_1 : List UInt32) => ret x_1) 99 (0 : Int) s2 s4 x_) b h.2 s s [0, 0, 0, 0, 0, 0, 0, 0] 64 98 0 rfl (by omega)
 rw [show rds b s 0 = s from Qh8 h.1] at hl
 refine hl.trans ?_
 rw [ab_l3 fail _ s _ _ h.1 (Qfw b s 64)]
 show ret (Qe1 s b) = ret (K39 s (b.take 64))
 rw [Klg]⟩
theorem Jun {X : Type} (F : Nat) (fail : X) (ex : List UInt8 → Int → Int → List UInt32 → List UInt32 → X) (b : List UInt8) (i j : Nat) (s w : List UInt32) (m : Nat) (hb : 64 ≤ b.length) (hi : i < 16) (hj : j < 4) :
  Jhs F fail ex (m + 1) b i j s w = Jhs F fail ex m b i (j + 1 : Nat) s (w.set i (orW (Jwh (w.getD i 0) 8) (Jn1 (b.getD (4 * i + j) 0)))) := by
 have e4 : Jag (Jfe 4 (i : Int)) j = ((4 * i + j : Nat) : Int) := by rw [Jgv (by omega) (by omega), Jak (by omega) (by omega)]; omega
 rw [Jhs, Jyn]
 rw [Jaa (tt (by omega)), e4, Jaa (tt2 (by omega) (by omega)), Jaa (tt2 (by omega) (by omega)), Jaa (tt2 (by omega) (by omega)), Jak (by omega) (by omega)]
 rfl
theorem rs_l2 {X : Type} (F : Nat) (fail : X) (ex : List UInt8 → Int → Int → List UInt32 → List UInt32 → X) (b : List UInt8) (i : Nat) (s w : List UInt32) (m : Nat) (hb : 64 ≤ b.length) (hi : i < 16) (hw : w.length = 64) (h0 : w.getD i 0 = 0) :
  Jhs F fail ex (m + 5) b i (0 : Nat) s w = ex b i (4 : Nat) s (w.set i (Kwv b i)) := by
 rw [Jun F fail ex b i 0 s w _ hb hi (by omega), Jun F fail ex b i 1 s _ _ hb hi (by omega), Jun F fail ex b i 2 s _ _ hb hi (by omega), Jun F fail ex b i 3 s _ _ hb hi (by omega)]
 rw [Jhs, Jyn]
 rw [Jab (ff (by omega))]
 rw [Jcz (by omega), Jcz (by rw [List.length_set]; omega), Jcz (by rw [List.length_set, List.length_set]; omega), h0]
 simp only [List.set_set]
 rfl
def Kjk (b : List UInt8) (t : Nat) : List UInt32 := (List.range 64).map fun i => if i < t then wd b i else 0
theorem Jy1 (b : List UInt8) (t : Nat) : (Kjk b t).length = 64 := by simp [Kjk]
theorem Juo (b : List UInt8) (t i : Nat) (h : i < 64) : (Kjk b t).getD i 0 = if i < t then wd b i else 0 := by
 rw [Jjk (by rw [Jy1]; exact h)]; simp [Kjk]
theorem Kxj (b : List UInt8) (t : Nat) : (Kjk b t).set t (wd b t) = Kjk b (t + 1) := by
 apply List.ext_getElem
 ·rw [List.length_set, Jy1, Jy1]
 ·intro i h1 h2
  rw [Jy1] at h2
  rw [List.getElem_set]
  simp only [Kjk, List.getElem_map, List.getElem_range]
  by_cases e : t = i
  ·subst e; rw [if_pos rfl, if_pos (by omega)]
  ·rw [if_neg e]
   by_cases l : i < t
   ·rw [if_pos l, if_pos (by omega)]
   ·rw [if_neg l, if_neg (by omega)]
theorem Qic {X : Type} (fail : X) (ex : List UInt8 → Int → List UInt32 → List UInt32 → X) (b : List UInt8) (hb : 64 ≤ b.length) (s : List UInt32) : ∀ (j m t : Nat), t + j = 16 → j ≤ m →
  Jlj 99 fail ex (m + 1) b t s (Kjk b t) = ex b (16 : Nat) s (Kjk b 16)
 | 0, m, t, ht, _ => by
  have e : t = 16 := by omega
  subst e
  rw [Jlj, Jyo]
  rw [Jab (ff (by omega))]
 | j + 1, 0, t, _, hm => absurd hm (by omega)
 | j + 1, m + 1, t, ht, hm => by
  have ih := Qic fail ex b hb s j m (t + 1) (by omega) (by omega)
  rw [Jlj, Jyo]
  rw [Jaa (tt (by omega))]
  refine (rs_l2 99 fail _ b t s _ 94 hb (by omega) (Jy1 b t) (by rw [Juo b t t (by omega), if_neg (by omega)])).trans ?_
  rw [← Qdh b t (by omega), Kxj, Jak (by omega) (by omega)]
  exact ih
theorem Qbe (t : Nat) (c : Int) (n : Nat) (hc : c = n) (h : n ≤ t) (ht : t < 4294967296) : Jby (t : Int) c = ((t - n : Nat) : Int) := by
 subst hc
 rw [Jcf (by omega) (by omega)]; omega
theorem Qbf (x : UInt32) : Jdl x 7 = true := rfl
theorem K5j (x : UInt32) : Jdl x 18 = true := rfl
theorem K5k (x : UInt32) : Jdl x 17 = true := rfl
theorem K5l (x : UInt32) : Jdl x 19 = true := rfl
theorem Qid {X : Type} (fail : X) (ex : Int → List UInt32 → List UInt32 → X) (b : List UInt8) (s : List UInt32) : ∀ (j m t : Nat), t + j = 64 → 16 ≤ t → j ≤ m →
  Jlk 99 fail ex (m + 1) t s (Kjk b t) = ex (64 : Nat) s (Kjk b 64)
 | 0, m, t, ht, _, _ => by
  have e : t = 64 := by omega
  subst e
  rw [Jlk, Jyp]
  rw [Jab (ff (by omega))]
 | j + 1, 0, t, _, _, hm => absurd hm (by omega)
 | j + 1, m + 1, t, ht, h16, hm => by
  have ih := Qid fail ex b s j m (t + 1) (by omega) (by omega) (by omega)
  rw [Jlk, Jyp]
  rw [Qbe t 15 15 rfl (by omega) (by omega), Qbe t 2 2 rfl (by omega) (by omega), Qbe t 16 16 rfl (by omega) (by omega), Qbe t 7 7 rfl (by omega) (by omega)]
  simp only [Int.toNat_natCast]
  rw [Juo b t (t - 15) (by omega), if_pos (by omega), Juo b t (t - 2) (by omega), if_pos (by omega), Juo b t (t - 16) (by omega), if_pos (by omega), Juo b t (t - 7) (by omega), if_pos (by omega)]
  rw [Jaa (tt (by omega)), Jaa (tt2 (by omega) (by omega)), Jaa (Qbf _), Jaa (tt2 (by omega) (by omega)), Jaa (K5j _), Jaa (tt2 (by omega) (by omega)), Jaa (tt2 (by omega) (by omega)), Jaa (K5k _), Jaa (tt2 (by omega) (by omega)), Jaa (K5l _), Jaa (tt2 (by omega) (by omega)), Jaa (tt2 (by omega) (by omega)), Jaa (tt2 (by omega) (by omega)), Jaa (tt2 (by omega) (by omega)), Jak (by omega) (by omega)]
  obtain ⟨u, rfl⟩ : ∃ u, t = u + 16 := ⟨t - 16, by omega⟩
  have hn := K5c b u
  unfold ss0 ss1 at hn
  rw [show u + 16 - 16 = u by omega, show u + 16 - 15 = u + 1 by omega, show u + 16 - 7 = u + 9 by omega, show u + 16 - 2 = u + 14 by omega]
  simp only [Jgi]
  rw [← hn, Kxj]
  exact ih
theorem K5m (b : List UInt8) : Kjk b 0 = List.replicate 64 0 := by
 apply List.ext_getElem
 ·simp [Kjk]
 ·intro i h1 h2
  rw [List.getElem_replicate]; simp [Kjk]
theorem Kxk (b : List UInt8) : Kjk b 64 = (List.range 64).map (wd b) := by
 apply List.map_congr_left
 intro i hi
 rw [if_pos (List.mem_range.1 hi)]
theorem Klm (b : List UInt8) (h : Jya b = true) : ∃ F, ∀ {X : Type} (fail : X) (ret : List UInt32 → X), K4n F b fail ret = ret (J4n b) := ⟨99, fun fail ret => by
 simp only [Jya, decide_eq_true_eq] at h
 unfold K4n
 rw [← K5m b]
 refine (Qic fail _ b h _ 16 98 0 rfl (by omega)).trans ?_
 refine (Qid fail _ b _ 48 98 16 rfl (by omega) (by omega)).trans ?_
 rw [Kxk]; rfl⟩
theorem Qbg (x : UInt32) : Jdl x 6 = true := rfl
theorem K5n (x : UInt32) : Jdl x 11 = true := rfl
theorem K5o (x : UInt32) : Jdl x 25 = true := rfl
theorem Qbh (x : UInt32) : Jdl x 2 = true := rfl
theorem K5p (x : UInt32) : Jdl x 13 = true := rfl
theorem K5q (x : UInt32) : Jdl x 22 = true := rfl
theorem Qie {X : Type} (fail : X) (ex : UInt32 → UInt32 → UInt32 → UInt32 → UInt32 → UInt32 → UInt32 → UInt32 → Int → List UInt32 → List UInt32 → List UInt32 → List UInt32 → X) (b : List UInt8) (s st s4 : List UInt32) : ∀ (j m t : Nat), t + j = 64 → j ≤ m →
  Ji3 99 fail ex (m + 1) ((rds b s t).getD 0 0) ((rds b s t).getD 1 0) ((rds b s t).getD 2 0) ((rds b s t).getD 3 0) ((rds b s t).getD 4 0) ((rds b s t).getD 5 0) ((rds b s t).getD 6 0) ((rds b s t).getD 7 0) t st s4 (Kjk b 64) kW =
   ex ((rds b s 64).getD 0 0) ((rds b s 64).getD 1 0) ((rds b s 64).getD 2 0) ((rds b s 64).getD 3 0) ((rds b s 64).getD 4 0) ((rds b s 64).getD 5 0) ((rds b s 64).getD 6 0) ((rds b s 64).getD 7 0) (64 : Nat) st s4 (Kjk b 64) kW
 | 0, m, t, ht, _ => by
  have e : t = 64 := by omega
  subst e
  rw [Ji3, Jt3]
  rw [Jab (ff (by omega))]
 | j + 1, 0, t, _, hm => absurd hm (by omega)
 | j + 1, m + 1, t, ht, hm => by
  have ih := Qie fail ex b s st s4 j m (t + 1) (by omega) (by omega)
  rw [Ji3, Jt3]
  rw [Jaa (tt (by omega)), Jaa (Qbg _), Jaa (K5n _), Jaa (K5o _), Jaa (tt2 (by omega) (by omega)), Jaa (tt2 (by omega) (by omega)), Jaa (Qbh _), Jaa (K5p _), Jaa (K5q _), Jak (by omega) (by omega)]
  rw [Int.toNat_natCast, Juo b 64 t (by omega), if_pos (by omega)]
  exact ih
theorem Kgm (s : List UInt32) (b : List UInt8) (h : Jry s b = true) : ∃ F, ∀ {X : Type} (fail : X) (ret : List UInt32 → X), Krl F s b fail ret = ret (Jn8 s b) := ⟨99, fun fail ret => by
 simp only [Jry, decide_eq_true_eq] at h
 unfold Krl
 rw [Jaa (c := Jya b) (tt h.2), Jaa (c := Jx8) rfl, show J4n b = Kjk b 64 from (Kxk b).symm, show Jx9 = kW from rfl]
 refine (Qie fail _ b s s _ 64 98 0 rfl (by omega)).trans ?_
 rw [show Jn8 s b = Qe1 s b from Klg s b]
 unfold Qe1 add8
 generalize rds b s 64 = x
 rw [Jjw (s.getD 0 0), Jjw (s.getD 1 0), Jjw (s.getD 2 0), Jjw (s.getD 3 0), Jjw (s.getD 4 0), Jjw (s.getD 5 0), Jjw (s.getD 6 0), Jjw (s.getD 7 0)]⟩
end Go.AI
