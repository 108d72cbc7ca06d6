/- The rounds and the schedule: what the printed functions answer. -/
import Derived.Test.YtlilfooddecabaaDigestG1
import Derived.Test.YtlilfooddecabaaDigestB
namespace Go.AI
open Go

theorem rotr_plain (x : UInt32) (n : Int) (h : rotr_P x n = true) : ∃ F, ∀ {X : Type} (fail : X) (ret : UInt32 → X), rotr F x n fail ret = ret (rotr_r x n) := ⟨1, fun fail ret => by
  simp only [rotr_P, decide_eq_true_eq] at h
  unfold rotr
  rw [bif_true (tt h.1), bif_true (tt (by rw [subI_eq (by omega) (by omega)]; omega))]
  rfl⟩
theorem rrotr_plain (x : UInt32) (n : Int) (h : rrotr_P x n = true) : ∃ F, ∀ {X : Type} (fail : X) (ret : UInt32 → X), rrotr F x n fail ret = ret (rrotr_r x n) := ⟨1, fun fail ret => by
  simp only [rrotr_P, decide_eq_true_eq] at h
  unfold rrotr
  rw [bif_true (tt h.1), bif_true (tt (by rw [subI_eq (by omega) (by omega)]; omega))]
  rfl⟩
theorem shr_plain (x : UInt32) (n : Int) (h : shr_P x n = true) : ∃ F, ∀ {X : Type} (fail : X) (ret : UInt32 → X), shr F x n fail ret = ret (shr_r x n) := ⟨1, fun fail ret => by
  unfold shr
  rw [bif_true (c := decide ((0 : Int) ≤ n)) h]
  rfl⟩
theorem three_0_plain (x : UInt32) (a b c : Int) (h : three_P x a b c 57 = true) : ∃ F, ∀ {X : Type} (fail : X) (ret : UInt32 → X), three_0 F x a b c fail ret = ret (three_r x a b c 57) := ⟨1, fun fail ret => by
  simp only [three_P, Bool.and_eq_true, decide_eq_true_eq] at h
  unfold three_0
  simp only [rotr_P]
  rw [bif_true (tt (by omega)), bif_true (tt (by omega)), bif_true (tt (by omega))]
  rfl⟩
theorem three_1_plain (x : UInt32) (a b c : Int) (h : three_P x a b c 63 = true) : ∃ F, ∀ {X : Type} (fail : X) (ret : UInt32 → X), three_1 F x a b c fail ret = ret (three_r x a b c 63) := ⟨1, fun fail ret => by
  simp only [three_P, Bool.and_eq_true, decide_eq_true_eq] at h
  unfold three_1
  simp only [rotr_P, shr_P]
  rw [bif_true (tt (by omega)), bif_true (tt (by omega)), bif_true (tt (by omega))]
  rfl⟩
theorem consts_plain (_ : consts_P = true) : ∃ F, ∀ {X : Type} (fail : X) (ret : List UInt32 → X), consts F fail ret = ret consts_r := ⟨1, fun _ _ => rfl⟩
theorem rconsts_plain (_ : rconsts_P = true) : ∃ F, ∀ {X : Type} (fail : X) (ret : List UInt32 → X), rconsts F fail ret = ret rconsts_r := ⟨1, fun _ _ => rfl⟩

/-- The program's circle of 16 words. -/
def circ (b : List UInt8) : Nat → List UInt32
  | 0 => List.replicate 16 0
  | t + 1 => (circ b t).set (t % 16) (if t < 16 then wdAt b t else
      addW ((circ b t).getD (t % 16) 0) (addW (addW (ss0 ((circ b t).getD ((t - 15) % 16) 0)) ((circ b t).getD ((t - 7) % 16) 0)) (ss1 ((circ b t).getD ((t - 2) % 16) 0))))
theorem circ_len (b : List UInt8) : ∀ t, (circ b t).length = 16
  | 0 => rfl
  | t + 1 => by
    show ((circ b t).set _ _).length = 16
    rw [List.length_set, circ_len b t]
theorem getD_set_same {α : Type} {l : List α} {i : Nat} {a d : α} (h : i < l.length) : (l.set i a).getD i d = a := by
  simp [List.getD_eq_getElem?_getD, h]
theorem getD_set_other {α : Type} {l : List α} {i j : Nat} {a d : α} (h : i ≠ j) : (l.set i a).getD j d = l.getD j d := by
  simp [List.getD_eq_getElem?_getD, List.getElem?_set_ne h]
theorem circ_zero (b : List UInt8) : ∀ t j, t ≤ j → j < 16 → (circ b t).getD j 0 = 0
  | 0, j, _, h => by
    show (List.replicate 16 (0 : UInt32)).getD j 0 = 0
    simp only [List.getD_eq_getElem?_getD, List.getElem?_replicate]
    rw [if_pos h]; rfl
  | t + 1, j, h1, h2 => by
    show ((circ b t).set (t % 16) _).getD j 0 = 0
    rw [getD_set_other (by omega), circ_zero b t j (by omega) h2]
theorem addW_assoc (a b c : UInt32) : addW (addW a b) c = addW a (addW b c) := by
  simp only [addW_eq]; exact UInt32.add_assoc a b c
theorem addW_comm (a b : UInt32) : addW a b = addW b a := by
  simp only [addW_eq]; exact UInt32.add_comm a b
theorem circ_get (b : List UInt8) : ∀ t j, j < t → t ≤ j + 16 → (circ b t).getD (j % 16) 0 = wd b j
  | 0, j, h, _ => absurd h (by omega)
  | t + 1, j, h1, h2 => by
    by_cases hj : j = t
    · subst hj
      show ((circ b j).set (j % 16) _).getD (j % 16) 0 = _
      rw [getD_set_same (by rw [circ_len]; omega)]
      by_cases hl : j < 16
      · rw [if_pos hl, wd_low b j hl]
      · rw [if_neg hl]
        obtain ⟨s, rfl⟩ : ∃ s, j = s + 16 := ⟨j - 16, by omega⟩
        rw [wd_next, show (s + 16) % 16 = s % 16 by omega, circ_get b (s + 16) s (by omega) (by omega), circ_get b (s + 16) (s + 16 - 15) (by omega) (by omega), circ_get b (s + 16) (s + 16 - 7) (by omega) (by omega), circ_get b (s + 16) (s + 16 - 2) (by omega) (by omega)]
        rw [show s + 16 - 15 = s + 1 by omega, show s + 16 - 7 = s + 9 by omega, show s + 16 - 2 = s + 14 by omega]
        simp only [addW_assoc]
    · show ((circ b t).set (t % 16) _).getD (j % 16) 0 = _
      rw [getD_set_other (by omega), circ_get b t j (by omega) (by omega)]

theorem rem16 (t : Nat) : remI (t : Int) 16 = ((t % 16 : Nat) : Int) := by
  rw [remI_eq (by omega)]; omega
theorem rem16s (t : Nat) (c : Int) (n : Nat) (hc : c = n) (h : n ≤ t) (ht : t < 4294967296) : remI (subI (t : Int) c) 16 = (((t - n) % 16 : Nat) : Int) := by
  subst hc
  rw [subI_eq (by omega) (by omega), remI_eq (by omega)]; omega
theorem three_p1 (x : UInt32) : three_P x 6 11 25 57 = true := rfl
theorem three_p0 (x : UInt32) : three_P x 2 13 22 57 = true := rfl
theorem three_q0 (x : UInt32) : three_P x 7 18 3 63 = true := rfl
theorem three_q1 (x : UInt32) : three_P x 17 19 10 63 = true := rfl
theorem three_bs1 (x : UInt32) : three_r x 6 11 25 57 = bs1 x := rfl
theorem three_bs0 (x : UInt32) : three_r x 2 13 22 57 = bs0 x := rfl
theorem three_ss0 (x : UInt32) : three_r x 7 18 3 63 = ss0 x := rfl
theorem three_ss1 (x : UInt32) : three_r x 17 19 10 63 = ss1 x := rfl

theorem ab_l2_step {X : Type} (F : Nat) (fail : X) (ex : Int → UInt32 → List UInt32 → Int → List UInt8 → Int → Int → List UInt32 → List UInt8 → List UInt32 → List UInt32 → List UInt32 → X) (i : Nat) (k : UInt32) (s10 : List UInt32) (s11 : Int) (l : List UInt8) (n : Int) (j : Nat) (x : List UInt32) (b : List UInt8) (w s s4 : List UInt32) (m : Nat)
    (hl : l.length = 4) (hn : n = 4) (hj : j < 4) (hi : i < 16) :
    absorb_l2F F fail ex (m + 1) i k s10 s11 l n j x b w s s4 = absorb_l2F F fail ex m i k s10 s11 l n (j + 1 : Nat) x b (w.set i (orW (shlW (w.getD i 0) 8) (cvBW (l.getD j 0)))) s s4 := by
  subst hn
  simp only [absorb_l2F, absorb_l2]
  rw [bif_true (tt (by omega)), bif_true (tt2 (by omega) (by omega)), bif_true (tt2 (by omega) (by omega)), bif_true (tt2 (by omega) (by omega)), addI_eq (by omega) (by omega)]
  rfl
theorem ab_l2 {X : Type} (F : Nat) (fail : X) (ex : Int → UInt32 → List UInt32 → Int → List UInt8 → Int → Int → List UInt32 → List UInt8 → List UInt32 → List UInt32 → List UInt32 → X) (i : Nat) (k : UInt32) (s10 : List UInt32) (s11 : Int) (b : List UInt8) (x : List UInt32) (n : Int) (b' : List UInt8) (w s s4 : List UInt32) (m : Nat)
    (hb : 64 ≤ b.length) (hi : i < 16) (hw : w.length = 16) (h0 : w.getD i 0 = 0) (hn : n = 4) :
    absorb_l2F F fail ex (m + 5) i k s10 s11 ((b.take (4 * i + 4)).drop (4 * i)) n (0 : Nat) x b' w s s4 = ex i k s10 s11 ((b.take (4 * i + 4)).drop (4 * i)) n (4 : Nat) x b' (w.set i (wdAt b i)) s s4 := by
  have hl : ((b.take (4 * i + 4)).drop (4 * i)).length = 4 := by simp; omega
  have hg : ∀ j, j < 4 → ((b.take (4 * i + 4)).drop (4 * i)).getD j 0 = b.getD (4 * i + j) 0 := fun j hj => by
    simp only [List.getD_eq_getElem?_getD, List.getElem?_drop]
    rw [List.getElem?_take_of_lt (by omega)]
  rw [ab_l2_step F fail ex i k s10 s11 _ n 0 x b' w s s4 _ hl hn (by omega) hi, ab_l2_step F fail ex i k s10 s11 _ n 1 x b' _ s s4 _ hl hn (by omega) hi, ab_l2_step F fail ex i k s10 s11 _ n 2 x b' _ s s4 _ hl hn (by omega) hi, ab_l2_step F fail ex i k s10 s11 _ n 3 x b' _ s s4 _ hl hn (by omega) hi]
  simp only [absorb_l2F, absorb_l2]
  rw [bif_false (ff (by omega))]
  rw [hg 0 (by omega), hg 1 (by omega), hg 2 (by omega), hg 3 (by omega)]
  rw [getD_set_same (by omega), getD_set_same (by rw [List.length_set]; omega), getD_set_same (by rw [List.length_set, List.length_set]; omega), h0]
  simp only [List.set_set]
  rfl
theorem rnd_alt (k w : UInt32) (x : List UInt32) :
    ([(addW (addW (addW (addW (List.getD x 7 (0 : UInt32)) (bs1 (List.getD x 4 (0 : UInt32)))) (xorW (List.getD x 6 (0 : UInt32)) (andW (List.getD x 4 (0 : UInt32)) (xorW (List.getD x 5 (0 : UInt32)) (List.getD x 6 (0 : UInt32)))))) (addW k w)) (addW (bs0 (List.getD x 0 (0 : UInt32))) (orW (andW (List.getD x 0 (0 : UInt32)) (List.getD x 1 (0 : UInt32))) (andW (List.getD x 2 (0 : UInt32)) (orW (List.getD x 0 (0 : UInt32)) (List.getD x 1 (0 : UInt32))))))), (List.getD x 0 (0 : UInt32)), (List.getD x 1 (0 : UInt32)), (List.getD x 2 (0 : UInt32)), (addW (List.getD x 3 (0 : UInt32)) (addW (addW (addW (List.getD x 7 (0 : UInt32)) (bs1 (List.getD x 4 (0 : UInt32)))) (xorW (List.getD x 6 (0 : UInt32)) (andW (List.getD x 4 (0 : UInt32)) (xorW (List.getD x 5 (0 : UInt32)) (List.getD x 6 (0 : UInt32)))))) (addW k w))), (List.getD x 4 (0 : UInt32)), (List.getD x 5 (0 : UInt32)), (List.getD x 6 (0 : UInt32))] : List UInt32) = rnd k w x := by
  rw [ch_alt, ma_alt]
  unfold rnd
  simp only [addW_assoc]
theorem ab_l1 {X : Type} (F : Nat) (hF : F = 99) (fail : X) (ex : List UInt32 → Int → List UInt32 → List UInt8 → List UInt32 → List UInt32 → List UInt32 → X) (b : List UInt8) (hb : 64 ≤ b.length) (s s' s4 : List UInt32) : ∀ (j m t : Nat), t + j = 64 → j ≤ m →
    absorb_l1F F fail ex (m + 1) kW t (rds b s t) b (circ b t) s' s4 = ex kW (64 : Nat) (rds b s 64) b (circ b 64) s' s4
  | 0, m, t, ht, _ => by
    have e : t = 64 := by omega
    subst e
    simp only [absorb_l1F, absorb_l1]
    rw [bif_false (ff (by omega))]
  | j + 1, 0, t, _, hm => absurd hm (by omega)
  | j + 1, m + 1, t, ht, hm => by
    have ih := ab_l1 F hF fail ex b hb s s' s4 j m (t + 1) (by omega) (by omega)
    have hg := circ_get b (t + 1) t (by omega) (by omega)
    have hc := circ_len b t
    rw [show rds b s (t + 1) = rnd (kW.getD t 0) (wd b t) (rds b s t) from rfl] at ih
    rw [absorb_l1F, absorb_l1]
    rw [bif_true (tt (by omega)), bif_true (tt2 (by omega) (by omega))]
    by_cases hl : t < 16
    · have e4 : mulI 4 (t : Int) = ((4 * t : Nat) : Int) := by rw [mulI_eq (by omega) (by omega)]; omega
      have e44 : addI (mulI 4 (t : Int)) 4 = ((4 * t + 4 : Nat) : Int) := by rw [e4, addI_eq (by omega) (by omega)]; omega
      have hw : circ b (t + 1) = (circ b t).set t (wdAt b t) := by
        show (circ b t).set (t % 16) _ = _
        rw [if_pos hl, Nat.mod_eq_of_lt hl]
      rw [bif_true (tt (by omega)), e44, e4, bif_true (tt3 (by omega) (by omega) (by omega))]
      simp only [Int.toNat_natCast]
      subst hF
      refine (ab_l2 99 fail _ t _ _ _ b _ _ b (circ b t) s' s4 94 hb hl hc (circ_zero b t t (by omega) hl) (by simp; omega)).trans ?_
      simp only [rem16, Int.toNat_natCast]
      rw [bif_true (tt2 (by omega) (by omega)), bif_true (three_p1 _), bif_true (three_p0 _), addI_eq (by omega) (by omega), ← hw, hg, three_bs1, three_bs0, rnd_alt]
      exact ih
    · have e15 := rem16s t 15 15 rfl (by omega) (by omega)
      have e7 := rem16s t 7 7 rfl (by omega) (by omega)
      have e2 := rem16s t 2 2 rfl (by omega) (by omega)
      have hw : circ b (t + 1) = (circ b t).set (t % 16) (addW ((circ b t).getD (t % 16) 0) (addW (addW (ss0 ((circ b t).getD ((t - 15) % 16) 0)) ((circ b t).getD ((t - 7) % 16) 0)) (ss1 ((circ b t).getD ((t - 2) % 16) 0)))) := by
        show (circ b t).set (t % 16) _ = _
        rw [if_neg hl]
      rw [bif_false (ff (by omega)), e15, e7, e2, rem16 t]
      simp only [Int.toNat_natCast]
      rw [bif_true (tt2 (by omega) (by omega)), bif_true (three_q0 _), bif_true (tt2 (by omega) (by omega)), bif_true (three_q1 _), bif_true (tt2 (by omega) (by omega)), bif_true (tt2 (by omega) (by omega)), bif_true (tt2 (by omega) (by omega)), bif_true (tt2 (by omega) (by omega)), bif_true (three_p1 _), bif_true (three_p0 _), addI_eq (by omega) (by omega), three_bs1, three_bs0, three_ss0, three_ss1, ← hw, hg, rnd_alt]
      exact ih
end Go.AI
