/- Blocks, hashers and digests: what the printed functions answer. -/
import Derived.Test.YtlilfooddecabaaDigestP
import Derived.KernelRfl
namespace Go.AI
open Go

theorem len8 {l : List UInt32} (h : l.length = 8) : ∃ a b c d e f g i, l = [a, b, c, d, e, f, g, i] := by
  match l, h with
  | [a, b, c, d, e, f, g, i], _ => exact ⟨a, b, c, d, e, f, g, i, rfl⟩
theorem rds_len (b : List UInt8) (s : List UInt32) (t : Nat) : (rds b s t).length = 8 := by
  rw [← rds_form]; rfl
theorem ab_l3 {X : Type} (fail : X) (ex : Int → List UInt32 → List UInt32 → List UInt32 → X) (s s4 x : List UInt32) (hs : s.length = 8) (hx : x.length = 8) :
    absorb_l3F 99 fail ex 99 0 s s4 x = ex 8 s s4 (add8 x s) := by
  obtain ⟨s0, s1, s2, s3, s4', s5, s6, s7, rfl⟩ := len8 hs
  obtain ⟨x0, x1, x2, x3, x4, x5, x6, x7, rfl⟩ := len8 hx
  kernel_rfl
theorem absorb_plain (s : List UInt32) (b : List UInt8) (h : absorb_P s b = true) : ∃ F, ∀ {X : Type} (fail : X) (ret : List UInt32 → X), absorb F s b fail ret = ret (absorb_r s b) := ⟨99, fun fail ret => by
  simp only [absorb_P, decide_eq_true_eq] at h
  unfold absorb
  rw [bif_true (c := consts_P) rfl]
  have hl := ab_l1 99 rfl fail (fun (_ : List UInt32) (_ : Int) (x_ : List UInt32) (_ : List UInt8) (_ : List UInt32) (s2 : List UInt32) (s4 : List UInt32) =>
      absorb_l3F 99 fail (fun (_ : Int) (_ : List UInt32) (_ : List UInt32) (x_1 : List UInt32) => ret x_1) 99 (0 : Int) s2 s4 x_) b h.2 s s [0, 0, 0, 0, 0, 0, 0, 0] 64 98 0 rfl (by omega)
  rw [show rds b s 0 = s from n8_len h.1] at hl
  refine hl.trans ?_
  rw [ab_l3 fail _ s _ _ h.1 (rds_len b s 64)]
  show ret (absW s b) = ret (absS s (b.take 64))
  rw [absS_take]⟩

theorem rs_l2_step {X : Type} (F : Nat) (fail : X) (ex : List UInt8 → Int → Int → List UInt32 → List UInt32 → X) (b : List UInt8) (i j : Nat) (s w : List UInt32) (m : Nat) (hb : 64 ≤ b.length) (hi : i < 16) (hj : j < 4) :
    rsched_l2F F fail ex (m + 1) b i j s w = rsched_l2F F fail ex m b i (j + 1 : Nat) s (w.set i (orW (shlW (w.getD i 0) 8) (cvBW (b.getD (4 * i + j) 0)))) := by
  have e4 : addI (mulI 4 (i : Int)) j = ((4 * i + j : Nat) : Int) := by rw [mulI_eq (by omega) (by omega), addI_eq (by omega) (by omega)]; omega
  rw [rsched_l2F, rsched_l2]
  rw [bif_true (tt (by omega)), e4, bif_true (tt2 (by omega) (by omega)), bif_true (tt2 (by omega) (by omega)), bif_true (tt2 (by omega) (by omega)), addI_eq (by omega) (by omega)]
  rfl
theorem rs_l2 {X : Type} (F : Nat) (fail : X) (ex : List UInt8 → Int → Int → List UInt32 → List UInt32 → X) (b : List UInt8) (i : Nat) (s w : List UInt32) (m : Nat) (hb : 64 ≤ b.length) (hi : i < 16) (hw : w.length = 64) (h0 : w.getD i 0 = 0) :
    rsched_l2F F fail ex (m + 5) b i (0 : Nat) s w = ex b i (4 : Nat) s (w.set i (wdAt b i)) := by
  rw [rs_l2_step F fail ex b i 0 s w _ hb hi (by omega), rs_l2_step F fail ex b i 1 s _ _ hb hi (by omega), rs_l2_step F fail ex b i 2 s _ _ hb hi (by omega), rs_l2_step F fail ex b i 3 s _ _ hb hi (by omega)]
  rw [rsched_l2F, rsched_l2]
  rw [bif_false (ff (by omega))]
  rw [getD_set_same (by omega), getD_set_same (by rw [List.length_set]; omega), getD_set_same (by rw [List.length_set, List.length_set]; omega), h0]
  simp only [List.set_set]
  rfl
/-- The words below t, and zeros. -/
def lowW (b : List UInt8) (t : Nat) : List UInt32 := (List.range 64).map fun i => if i < t then wd b i else 0
theorem lowW_len (b : List UInt8) (t : Nat) : (lowW b t).length = 64 := by simp [lowW]
theorem lowW_get (b : List UInt8) (t i : Nat) (h : i < 64) : (lowW b t).getD i 0 = if i < t then wd b i else 0 := by
  rw [getD_lt (by rw [lowW_len]; exact h)]; simp [lowW]
theorem lowW_set (b : List UInt8) (t : Nat) : (lowW b t).set t (wd b t) = lowW b (t + 1) := by
  apply List.ext_getElem
  · rw [List.length_set, lowW_len, lowW_len]
  · intro i h1 h2
    rw [lowW_len] at h2
    rw [List.getElem_set]
    simp only [lowW, List.getElem_map, List.getElem_range]
    by_cases e : t = i
    · subst e; rw [if_pos rfl, if_pos (by omega)]
    · rw [if_neg e]
      by_cases l : i < t
      · rw [if_pos l, if_pos (by omega)]
      · rw [if_neg l, if_neg (by omega)]
theorem rs_l1 {X : Type} (fail : X) (ex : List UInt8 → Int → List UInt32 → List UInt32 → X) (b : List UInt8) (hb : 64 ≤ b.length) (s : List UInt32) : ∀ (j m t : Nat), t + j = 16 → j ≤ m →
    rsched_l1F 99 fail ex (m + 1) b t s (lowW b t) = ex b (16 : Nat) s (lowW b 16)
  | 0, m, t, ht, _ => by
    have e : t = 16 := by omega
    subst e
    rw [rsched_l1F, rsched_l1]
    rw [bif_false (ff (by omega))]
  | j + 1, 0, t, _, hm => absurd hm (by omega)
  | j + 1, m + 1, t, ht, hm => by
    have ih := rs_l1 fail ex b hb s j m (t + 1) (by omega) (by omega)
    rw [rsched_l1F, rsched_l1]
    rw [bif_true (tt (by omega))]
    refine (rs_l2 99 fail _ b t s _ 94 hb (by omega) (lowW_len b t) (by rw [lowW_get b t t (by omega), if_neg (by omega)])).trans ?_
    rw [← wd_low b t (by omega), lowW_set, addI_eq (by omega) (by omega)]
    exact ih
theorem sub_c (t : Nat) (c : Int) (n : Nat) (hc : c = n) (h : n ≤ t) (ht : t < 4294967296) : subI (t : Int) c = ((t - n : Nat) : Int) := by
  subst hc
  rw [subI_eq (by omega) (by omega)]; omega
theorem rrotr_P7 (x : UInt32) : rrotr_P x 7 = true := rfl
theorem rrotr_P18 (x : UInt32) : rrotr_P x 18 = true := rfl
theorem rrotr_P17 (x : UInt32) : rrotr_P x 17 = true := rfl
theorem rrotr_P19 (x : UInt32) : rrotr_P x 19 = true := rfl
theorem rs_l3 {X : Type} (fail : X) (ex : Int → List UInt32 → List UInt32 → X) (b : List UInt8) (s : List UInt32) : ∀ (j m t : Nat), t + j = 64 → 16 ≤ t → j ≤ m →
    rsched_l3F 99 fail ex (m + 1) t s (lowW b t) = ex (64 : Nat) s (lowW b 64)
  | 0, m, t, ht, _, _ => by
    have e : t = 64 := by omega
    subst e
    rw [rsched_l3F, rsched_l3]
    rw [bif_false (ff (by omega))]
  | j + 1, 0, t, _, _, hm => absurd hm (by omega)
  | j + 1, m + 1, t, ht, h16, hm => by
    have ih := rs_l3 fail ex b s j m (t + 1) (by omega) (by omega) (by omega)
    rw [rsched_l3F, rsched_l3]
    rw [sub_c t 15 15 rfl (by omega) (by omega), sub_c t 2 2 rfl (by omega) (by omega), sub_c t 16 16 rfl (by omega) (by omega), sub_c t 7 7 rfl (by omega) (by omega)]
    simp only [Int.toNat_natCast]
    rw [lowW_get b t (t - 15) (by omega), if_pos (by omega), lowW_get b t (t - 2) (by omega), if_pos (by omega), lowW_get b t (t - 16) (by omega), if_pos (by omega), lowW_get b t (t - 7) (by omega), if_pos (by omega)]
    rw [bif_true (tt (by omega)), bif_true (tt2 (by omega) (by omega)), bif_true (rrotr_P7 _), bif_true (tt2 (by omega) (by omega)), bif_true (rrotr_P18 _), bif_true (tt2 (by omega) (by omega)), bif_true (tt2 (by omega) (by omega)), bif_true (rrotr_P17 _), bif_true (tt2 (by omega) (by omega)), bif_true (rrotr_P19 _), bif_true (tt2 (by omega) (by omega)), bif_true (tt2 (by omega) (by omega)), bif_true (tt2 (by omega) (by omega)), bif_true (tt2 (by omega) (by omega)), addI_eq (by omega) (by omega)]
    obtain ⟨u, rfl⟩ : ∃ u, t = u + 16 := ⟨t - 16, by omega⟩
    have hn := wd_next b u
    unfold ss0 ss1 at hn
    rw [show u + 16 - 16 = u by omega, show u + 16 - 15 = u + 1 by omega, show u + 16 - 7 = u + 9 by omega, show u + 16 - 2 = u + 14 by omega]
    simp only [rrotr_r]
    rw [← hn, lowW_set]
    exact ih
theorem lowW_zero (b : List UInt8) : lowW b 0 = List.replicate 64 0 := by
  apply List.ext_getElem
  · simp [lowW]
  · intro i h1 h2
    rw [List.getElem_replicate]; simp [lowW]
theorem lowW_all (b : List UInt8) : lowW b 64 = (List.range 64).map (wd b) := by
  apply List.map_congr_left
  intro i hi
  rw [if_pos (List.mem_range.1 hi)]
theorem rsched_plain (b : List UInt8) (h : rsched_P b = true) : ∃ F, ∀ {X : Type} (fail : X) (ret : List UInt32 → X), rsched F b fail ret = ret (rsched_r b) := ⟨99, fun fail ret => by
  simp only [rsched_P, decide_eq_true_eq] at h
  unfold rsched
  rw [← lowW_zero b]
  refine (rs_l1 fail _ b h _ 16 98 0 rfl (by omega)).trans ?_
  refine (rs_l3 fail _ b _ 48 98 16 rfl (by omega) (by omega)).trans ?_
  rw [lowW_all]; rfl⟩

theorem rrotr_P6 (x : UInt32) : rrotr_P x 6 = true := rfl
theorem rrotr_P11 (x : UInt32) : rrotr_P x 11 = true := rfl
theorem rrotr_P25 (x : UInt32) : rrotr_P x 25 = true := rfl
theorem rrotr_P2 (x : UInt32) : rrotr_P x 2 = true := rfl
theorem rrotr_P13 (x : UInt32) : rrotr_P x 13 = true := rfl
theorem rrotr_P22 (x : UInt32) : rrotr_P x 22 = true := rfl
theorem ra_l1 {X : Type} (fail : X) (ex : UInt32 → UInt32 → UInt32 → UInt32 → UInt32 → UInt32 → UInt32 → UInt32 → Int → List UInt32 → List UInt32 → List UInt32 → List UInt32 → X) (b : List UInt8) (s st s4 : List UInt32) : ∀ (j m t : Nat), t + j = 64 → j ≤ m →
    rAbsorb_l1F 99 fail ex (m + 1) ((rds b s t).getD 0 0) ((rds b s t).getD 1 0) ((rds b s t).getD 2 0) ((rds b s t).getD 3 0) ((rds b s t).getD 4 0) ((rds b s t).getD 5 0) ((rds b s t).getD 6 0) ((rds b s t).getD 7 0) t st s4 (lowW b 64) kW =
      ex ((rds b s 64).getD 0 0) ((rds b s 64).getD 1 0) ((rds b s 64).getD 2 0) ((rds b s 64).getD 3 0) ((rds b s 64).getD 4 0) ((rds b s 64).getD 5 0) ((rds b s 64).getD 6 0) ((rds b s 64).getD 7 0) (64 : Nat) st s4 (lowW b 64) kW
  | 0, m, t, ht, _ => by
    have e : t = 64 := by omega
    subst e
    rw [rAbsorb_l1F, rAbsorb_l1]
    rw [bif_false (ff (by omega))]
  | j + 1, 0, t, _, hm => absurd hm (by omega)
  | j + 1, m + 1, t, ht, hm => by
    have ih := ra_l1 fail ex b s st s4 j m (t + 1) (by omega) (by omega)
    rw [rAbsorb_l1F, rAbsorb_l1]
    rw [bif_true (tt (by omega)), bif_true (rrotr_P6 _), bif_true (rrotr_P11 _), bif_true (rrotr_P25 _), bif_true (tt2 (by omega) (by omega)), bif_true (tt2 (by omega) (by omega)), bif_true (rrotr_P2 _), bif_true (rrotr_P13 _), bif_true (rrotr_P22 _), addI_eq (by omega) (by omega)]
    rw [Int.toNat_natCast, lowW_get b 64 t (by omega), if_pos (by omega)]
    exact ih
theorem rAbsorb_plain (s : List UInt32) (b : List UInt8) (h : rAbsorb_P s b = true) : ∃ F, ∀ {X : Type} (fail : X) (ret : List UInt32 → X), rAbsorb F s b fail ret = ret (rAbsorb_r s b) := ⟨99, fun fail ret => by
  simp only [rAbsorb_P, decide_eq_true_eq] at h
  unfold rAbsorb
  rw [bif_true (c := rsched_P b) (tt h.2), bif_true (c := rconsts_P) rfl, show rsched_r b = lowW b 64 from (lowW_all b).symm, show rconsts_r = kW from rfl]
  refine (ra_l1 fail _ b s s _ 64 98 0 rfl (by omega)).trans ?_
  rw [show rAbsorb_r s b = absW s b from absS_take s b]
  unfold absW add8
  generalize rds b s 64 = x
  rw [addW_comm (s.getD 0 0), addW_comm (s.getD 1 0), addW_comm (s.getD 2 0), addW_comm (s.getD 3 0), addW_comm (s.getD 4 0), addW_comm (s.getD 5 0), addW_comm (s.getD 6 0), addW_comm (s.getD 7 0)]⟩
end Go.AI
