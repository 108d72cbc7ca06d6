/- Texts of the proof, joined: DigestP2. Names of our own are shortened by program; the long ones stand in wip/. -/
import Derived.Test.YtcdajbmgoafnkaaGreatQrDigestP
import Derived.KernelRfl
namespace Go.AI
open Go
theorem Qn1 {l : List UInt32} (h : l.length = 8) : ∃ a b c d e f g i, l = [a, b, c, d, e, f, g, i] := by
 match l, h with
 | [a, b, c, d, e, f, g, i], _ => exact ⟨a, b, c, d, e, f, g, i, rfl⟩
theorem Qmt (b : List UInt8) (s : List UInt32) (t : Nat) : (rds b s t).length = 8 := by
 rw [← K4e]; rfl
theorem ab_l3 {X : Type} (fail : X) (ex : Int → List UInt32 → List UInt32 → List UInt32 → X) (s s4 x : List UInt32) (hs : s.length = 8) (hx : x.length = 8) :
  Jqj 99 fail ex 99 0 s s4 x = ex 8 s s4 (add8 x s) := by
 obtain ⟨s0, s1, s2, s3, s4', s5, s6, s7, rfl⟩ := Qn1 hs
 obtain ⟨x0, x1, x2, x3, x4, x5, x6, x7, rfl⟩ := Qn1 hx
 kernel_rfl
theorem Krq (s : List UInt32) (b : List UInt8) (h : J09 s b = true) : ∃ F, ∀ {X : Type} (fail : X) (ret : List UInt32 → X), Qbz F s b fail ret = ret (Kln s b) := ⟨99, fun fail ret => by
 simp only [J09, decide_eq_true_eq] at h
 unfold Qbz
 rw [Jaa (c := J8r) rfl]
 have hl := Qo0 99 rfl fail (fun (_ : List UInt32) (_ : Int) (x_ : List UInt32) (_ : List UInt8) (_ : List UInt32) (s2 : List UInt32) (s4 : List UInt32) =>
   Jqj 99 fail (fun (_ : Int) (_ : List UInt32) (_ : List UInt32) (x_1 : List UInt32) => ret x_1) 99 (0 : Int) s2 s4 x_) b h.2 s s [0, 0, 0, 0, 0, 0, 0, 0] 64 98 0 rfl (by omega)
 rw [show rds b s 0 = s from Qox h.1] at hl
 refine hl.trans ?_
 rw [ab_l3 fail _ s _ _ h.1 (Qmt b s 64)]
 show ret (Qlq s b) = ret (Qbs s (b.take 64))
 rw [Krl]⟩
theorem Jxn {X : Type} (F : Nat) (fail : X) (ex : List UInt8 → Int → Int → List UInt32 → List UInt32 → X) (b : List UInt8) (i j : Nat) (s w : List UInt32) (m : Nat) (hb : 64 ≤ b.length) (hi : i < 16) (hj : j < 4) :
  Ji8 F fail ex (m + 1) b i j s w = Ji8 F fail ex m b i (j + 1 : Nat) s (w.set i (orW (Jze (w.getD i 0) 8) (Jow (b.getD (4 * i + j) 0)))) := by
 have e4 : Jag (Je6 4 (i : Int)) j = ((4 * i + j : Nat) : Int) := by rw [Jff (by omega) (by omega), Jai (by omega) (by omega)]; omega
 rw [Ji8, J1z]
 rw [Jaa (tt (by omega)), e4, Jaa (tt2 (by omega) (by omega)), Jaa (tt2 (by omega) (by omega)), Jaa (tt2 (by omega) (by omega)), Jai (by omega) (by omega)]
 rfl
theorem rs_l2 {X : Type} (F : Nat) (fail : X) (ex : List UInt8 → Int → Int → List UInt32 → List UInt32 → X) (b : List UInt8) (i : Nat) (s w : List UInt32) (m : Nat) (hb : 64 ≤ b.length) (hi : i < 16) (hw : w.length = 64) (h0 : w.getD i 0 = 0) :
  Ji8 F fail ex (m + 5) b i (0 : Nat) s w = ex b i (4 : Nat) s (w.set i (K3x b i)) := by
 rw [Jxn F fail ex b i 0 s w _ hb hi (by omega), Jxn F fail ex b i 1 s _ _ hb hi (by omega), Jxn F fail ex b i 2 s _ _ hb hi (by omega), Jxn F fail ex b i 3 s _ _ hb hi (by omega)]
 rw [Ji8, J1z]
 rw [Jab (ff (by omega))]
 rw [Jdi (by omega), Jdi (by rw [List.length_set]; omega), Jdi (by rw [List.length_set, List.length_set]; omega), h0]
 simp only [List.set_set]
 rfl
def Kpn (b : List UInt8) (t : Nat) : List UInt32 := (List.range 64).map fun i => if i < t then wd b i else 0
theorem J2e (b : List UInt8) (t : Nat) : (Kpn b t).length = 64 := by simp [Kpn]
theorem Jxo (b : List UInt8) (t i : Nat) (h : i < 64) : (Kpn b t).getD i 0 = if i < t then wd b i else 0 := by
 rw [Jpi (by rw [J2e]; exact h)]; simp [Kpn]
theorem K4j (b : List UInt8) (t : Nat) : (Kpn b t).set t (wd b t) = Kpn b (t + 1) := by
 apply List.ext_getElem
 ·rw [List.length_set, J2e, J2e]
 ·intro i h1 h2
  rw [J2e] at h2
  rw [List.getElem_set]
  simp only [Kpn, List.getElem_map, List.getElem_range]
  by_cases e : t = i
  ·subst e; rw [if_pos rfl, if_pos (by omega)]
  ·rw [if_neg e]
   by_cases l : i < t
   ·rw [if_pos l, if_pos (by omega)]
   ·rw [if_neg l, if_neg (by omega)]
theorem Qo1 {X : Type} (fail : X) (ex : List UInt8 → Int → List UInt32 → List UInt32 → X) (b : List UInt8) (hb : 64 ≤ b.length) (s : List UInt32) : ∀ (j m t : Nat), t + j = 16 → j ≤ m →
  Jmv 99 fail ex (m + 1) b t s (Kpn b t) = ex b (16 : Nat) s (Kpn b 16)
 | 0, m, t, ht, _ => by
  have e : t = 16 := by omega
  subst e
  rw [Jmv, J10]
  rw [Jab (ff (by omega))]
 | j + 1, 0, t, _, hm => absurd hm (by omega)
 | j + 1, m + 1, t, ht, hm => by
  have ih := Qo1 fail ex b hb s j m (t + 1) (by omega) (by omega)
  rw [Jmv, J10]
  rw [Jaa (tt (by omega))]
  refine (rs_l2 99 fail _ b t s _ 94 hb (by omega) (J2e b t) (by rw [Jxo b t t (by omega), if_neg (by omega)])).trans ?_
  rw [← Qkj b t (by omega), K4j, Jai (by omega) (by omega)]
  exact ih
theorem Qio (t : Nat) (c : Int) (n : Nat) (hc : c = n) (h : n ≤ t) (ht : t < 4294967296) : Jby (t : Int) c = ((t - n : Nat) : Int) := by
 subst hc
 rw [Jca (by omega) (by omega)]; omega
theorem Qip (x : UInt32) : Jea x 7 = true := rfl
theorem Qcw (x : UInt32) : Jea x 18 = true := rfl
theorem Qcx (x : UInt32) : Jea x 17 = true := rfl
theorem Qcy (x : UInt32) : Jea x 19 = true := rfl
theorem Qo2 {X : Type} (fail : X) (ex : Int → List UInt32 → List UInt32 → X) (b : List UInt8) (s : List UInt32) : ∀ (j m t : Nat), t + j = 64 → 16 ≤ t → j ≤ m →
  Jmw 99 fail ex (m + 1) t s (Kpn b t) = ex (64 : Nat) s (Kpn b 64)
 | 0, m, t, ht, _, _ => by
  have e : t = 64 := by omega
  subst e
  rw [Jmw, J11]
  rw [Jab (ff (by omega))]
 | j + 1, 0, t, _, _, hm => absurd hm (by omega)
 | j + 1, m + 1, t, ht, h16, hm => by
  have ih := Qo2 fail ex b s j m (t + 1) (by omega) (by omega) (by omega)
  rw [Jmw, J11]
  rw [Qio t 15 15 rfl (by omega) (by omega), Qio t 2 2 rfl (by omega) (by omega), Qio t 16 16 rfl (by omega) (by omega), Qio t 7 7 rfl (by omega) (by omega)]
  simp only [Int.toNat_natCast]
  rw [Jxo b t (t - 15) (by omega), if_pos (by omega), Jxo b t (t - 2) (by omega), if_pos (by omega), Jxo b t (t - 16) (by omega), if_pos (by omega), Jxo b t (t - 7) (by omega), if_pos (by omega)]
  rw [Jaa (tt (by omega)), Jaa (tt2 (by omega) (by omega)), Jaa (Qip _), Jaa (tt2 (by omega) (by omega)), Jaa (Qcw _), Jaa (tt2 (by omega) (by omega)), Jaa (tt2 (by omega) (by omega)), Jaa (Qcx _), Jaa (tt2 (by omega) (by omega)), Jaa (Qcy _), Jaa (tt2 (by omega) (by omega)), Jaa (tt2 (by omega) (by omega)), Jaa (tt2 (by omega) (by omega)), Jaa (tt2 (by omega) (by omega)), Jai (by omega) (by omega)]
  obtain ⟨u, rfl⟩ : ∃ u, t = u + 16 := ⟨t - 16, by omega⟩
  have hn := Qcp b u
  unfold ss0 ss1 at hn
  rw [show u + 16 - 16 = u by omega, show u + 16 - 15 = u + 1 by omega, show u + 16 - 7 = u + 9 by omega, show u + 16 - 2 = u + 14 by omega]
  simp only [Jhw]
  rw [← hn, K4j]
  exact ih
theorem Qcz (b : List UInt8) : Kpn b 0 = List.replicate 64 0 := by
 apply List.ext_getElem
 ·simp [Kpn]
 ·intro i h1 h2
  rw [List.getElem_replicate]; simp [Kpn]
theorem K4k (b : List UInt8) : Kpn b 64 = (List.range 64).map (wd b) := by
 apply List.map_congr_left
 intro i hi
 rw [if_pos (List.mem_range.1 hi)]
theorem Krr (b : List UInt8) (h : J1c b = true) : ∃ F, ∀ {X : Type} (fail : X) (ret : List UInt32 → X), Qb2 F b fail ret = ret (J8s b) := ⟨99, fun fail ret => by
 simp only [J1c, decide_eq_true_eq] at h
 unfold Qb2
 rw [← Qcz b]
 refine (Qo1 fail _ b h _ 16 98 0 rfl (by omega)).trans ?_
 refine (Qo2 fail _ b _ 48 98 16 rfl (by omega) (by omega)).trans ?_
 rw [K4k]; rfl⟩
theorem Qiq (x : UInt32) : Jea x 6 = true := rfl
theorem Qc0 (x : UInt32) : Jea x 11 = true := rfl
theorem Qc1 (x : UInt32) : Jea x 25 = true := rfl
theorem Qir (x : UInt32) : Jea x 2 = true := rfl
theorem Qc2 (x : UInt32) : Jea x 13 = true := rfl
theorem Qc3 (x : UInt32) : Jea x 22 = true := rfl
theorem Qo3 {X : Type} (fail : X) (ex : UInt32 → UInt32 → UInt32 → UInt32 → UInt32 → UInt32 → UInt32 → UInt32 → Int → List UInt32 → List UInt32 → List UInt32 → List UInt32 → X) (b : List UInt8) (s st s4 : List UInt32) : ∀ (j m t : Nat), t + j = 64 → j ≤ m →
  Jkb 99 fail ex (m + 1) ((rds b s t).getD 0 0) ((rds b s t).getD 1 0) ((rds b s t).getD 2 0) ((rds b s t).getD 3 0) ((rds b s t).getD 4 0) ((rds b s t).getD 5 0) ((rds b s t).getD 6 0) ((rds b s t).getD 7 0) t st s4 (Kpn b 64) kW =
   ex ((rds b s 64).getD 0 0) ((rds b s 64).getD 1 0) ((rds b s 64).getD 2 0) ((rds b s 64).getD 3 0) ((rds b s 64).getD 4 0) ((rds b s 64).getD 5 0) ((rds b s 64).getD 6 0) ((rds b s 64).getD 7 0) (64 : Nat) st s4 (Kpn b 64) kW
 | 0, m, t, ht, _ => by
  have e : t = 64 := by omega
  subst e
  rw [Jkb, Jwy]
  rw [Jab (ff (by omega))]
 | j + 1, 0, t, _, hm => absurd hm (by omega)
 | j + 1, m + 1, t, ht, hm => by
  have ih := Qo3 fail ex b s st s4 j m (t + 1) (by omega) (by omega)
  rw [Jkb, Jwy]
  rw [Jaa (tt (by omega)), Jaa (Qiq _), Jaa (Qc0 _), Jaa (Qc1 _), Jaa (tt2 (by omega) (by omega)), Jaa (tt2 (by omega) (by omega)), Jaa (Qir _), Jaa (Qc2 _), Jaa (Qc3 _), Jai (by omega) (by omega)]
  rw [Int.toNat_natCast, Jxo b 64 t (by omega), if_pos (by omega)]
  exact ih
theorem Kmm (s : List UInt32) (b : List UInt8) (h : Jub s b = true) : ∃ F, ∀ {X : Type} (fail : X) (ret : List UInt32 → X), Kyg F s b fail ret = ret (Jp4 s b) := ⟨99, fun fail ret => by
 simp only [Jub, decide_eq_true_eq] at h
 unfold Kyg
 rw [Jaa (c := J1c b) (tt h.2), Jaa (c := J1a) rfl, show J8s b = Kpn b 64 from (K4k b).symm, show J1b = kW from rfl]
 refine (Qo3 fail _ b s s _ 64 98 0 rfl (by omega)).trans ?_
 rw [show Jp4 s b = Qlq s b from Krl s b]
 unfold Qlq add8
 generalize rds b s 64 = x
 rw [Jlg (s.getD 0 0), Jlg (s.getD 1 0), Jlg (s.getD 2 0), Jlg (s.getD 3 0), Jlg (s.getD 4 0), Jlg (s.getD 5 0), Jlg (s.getD 6 0), Jlg (s.getD 7 0)]⟩
end Go.AI
