/- The laws that compare with the reference. -/
import Derived.Test.YtkafmananfiikaaDiskP4
namespace Go.AI
open Go

theorem awk48 : law48_awake_r = true := rfl
theorem few_iff {d : DK} : rFew_r d = true ↔ d.1.length ≤ 500 ∧ d.2.1.length ≤ 200 := by simp only [rFew_r, decide_eq_true_eq]
theorem fewOps_sum : ∀ (l : List DOp), (l.all fun op => decide (op.2.2.1.length ≤ 100)) = true → sumO l ≤ 100 * l.length
  | [], _ => Nat.zero_le _
  | x :: l, h => by
    rw [List.all_cons, Bool.and_eq_true, decide_eq_true_eq] at h
    have := fewOps_sum l h.2
    show x.2.2.1.length + sumO l ≤ _
    rw [List.length_cons]; omega
theorem fewOps_P {d : DK} {l : List DOp} (h : rFew_r d = true) (hl : rFewOps_r l = true) : runP d l = true := by
  have h := few_iff.1 h
  simp only [rFewOps_r, Bool.and_eq_true, decide_eq_true_eq] at hl
  rw [List.take_of_length_le hl.2] at hl
  have := fewOps_sum l hl.1
  exact run_iff.2 (by omega)
def DiskReads_P (_ : DK) (_ _ : Int) : Bool := true
def DiskReads_r (_ : DK) (_ _ : Int) : Bool := true
theorem read_len {d : DK} (h : smallD d = true) (a n : Int) : (readV d a n).length ≤ 1000000 := by
  have h := small_iff.1 h
  unfold readV
  split
  · rw [List.length_take, List.length_drop, con_len]; omega
  · exact Nat.zero_le _
theorem new_small (n : Int) : smallD (newD n) = true := by
  unfold newD
  split
  · rename_i h; exact small_iff.2 ⟨by show (List.replicate n.toNat z16).length ≤ _; rw [List.length_replicate]; omega, Nat.zero_le _⟩
  · rfl
theorem same_P {a b : DK} (ha : smallD a = true) (hb : smallD b = true) : rSame_P a b = true := by
  have ha := small_iff.1 ha
  have hb := small_iff.1 hb
  exact tt (by omega)
theorem DiskReads_plain (d : DK) (a n : Int) (_ : DiskReads_P d a n = true) : ∃ F, ∀ {X : Type} (fail : X) (ret : Bool → X), DiskReads F d a n fail ret = ret (DiskReads_r d a n) := ⟨0, fun fail ret => by
  unfold DiskReads
  cases hf : rFew_r d with
  | false => rfl
  | true =>
    have hs : smallD d = true := by have := few_iff.1 hf; exact small_iff.2 (by omega)
    have hr := read_len hs a n
    rw [bif_false (c := !true) rfl, bif_true (c := dRead_P d a n) hs, bif_true (c := rRead_P d a n) hs, bif_true (c := dNew_P n) rfl, bif_true (c := rNew_P n) rfl, bif_true (c := law48_awake_r) rfl,
      bif_true (c := rSamePages_P (dRead_r0 d a n) (rRead_r0 d a n)) (tt (show (readV d a n).length ≤ _ ∧ (readV d a n).length ≤ _ by omega)), bif_true (c := rSamePages_r (dRead_r0 d a n) (rRead_r0 d a n)) (tt rfl),
      bif_true (c := dRead_r1 d a n == rRead_r1 d a n) (beq_t rfl), bif_true (c := rSame_P (dNew_r0 n) (rNew_r0 n)) (same_P (new_small n) (new_small n)), bif_true (c := rSame_r (dNew_r0 n) (rNew_r0 n)) (tt rfl),
      bif_true (c := dNew_r1 n == rNew_r1 n) (beq_t rfl), bif_true (c := dCheck_P d) hs, bif_true (c := rCheck_P d) hs, show (dCheck_r d == rCheck_r d) = true from beq_t rfl]
    rfl⟩
def DiskRuns_P (_ : DK) (_ : List DOp) : Bool := true
def DiskRuns_r (_ : DK) (_ : List DOp) : Bool := true
theorem DiskRuns_plain (d : DK) (l : List DOp) (_ : DiskRuns_P d l = true) : ∃ F, ∀ {X : Type} (fail : X) (ret : Bool → X), DiskRuns F d l fail ret = ret (DiskRuns_r d l) := ⟨0, fun fail ret => by
  unfold DiskRuns
  cases hf : rFew_r d with
  | false => rfl
  | true =>
  rw [bif_false (c := !true) rfl, bif_true (c := rFewOps_P l) rfl]
  cases hl : rFewOps_r l with
  | false => rfl
  | true =>
    have hp := fewOps_P hf hl
    rw [bif_false (c := !true) rfl, bif_true (c := dRun_P d l) hp, bif_true (c := rRun_P d l) hp, bif_true (c := law48_awake_r) rfl, bif_true (c := rSame_P (dRun_r0 d l) (rRun_r0 d l)) (same_P (run_small hp) (run_small hp)),
      bif_true (c := rSame_r (dRun_r0 d l) (rRun_r0 d l)) (tt rfl), bif_true (c := dRun_r1 d l == rRun_r1 d l) (beq_t rfl), show (dRun_r2 d l == rRun_r2 d l) = true from beq_t rfl]
    rfl⟩
theorem crash_smallD {d : DK} {ch : List Int} (h : smallD d = true) : smallD (crashD d ch).1 = true := by
  refine small_iff.2 ⟨crash_small h, ?_⟩
  rw [crash_nil]; exact Nat.zero_le _
theorem crash_ch (d : DK) (ch : List Int) : (crashD d ch).2.1.length ≤ ch.length := by
  unfold crashD
  cases okD d with
  | false => exact Nat.zero_le _
  | true => rw [if_pos rfl]; exact (fold_len d _ (ch, d.1)).1
theorem int_small {d : DK} {l : List DOp} {a : Int} {ch : List Int} (h : runP d l = true) : smallD (intD d l a ch).1 = true ∧ (intD d l a ch).2.1.length ≤ ch.length := by
  unfold intD
  split
  · split
    · split
      · exact ⟨crash_smallD (run_small (runP_take h _)), crash_ch _ _⟩
      · exact ⟨rfl, Nat.zero_le _⟩
    · exact ⟨rfl, Nat.zero_le _⟩
  · exact ⟨rfl, Nat.zero_le _⟩
def DiskCrashes_P (_ : DK) (_ : List DOp) (_ : Int × (List Int × Unit)) : Bool := true
def DiskCrashes_r (_ : DK) (_ : List DOp) (_ : Int × (List Int × Unit)) : Bool := true
theorem DiskCrashes_plain (d : DK) (l : List DOp) (b : Int × (List Int × Unit)) (_ : DiskCrashes_P d l b = true) : ∃ F, ∀ {X : Type} (fail : X) (ret : Bool → X), DiskCrashes F d l b fail ret = ret (DiskCrashes_r d l b) := ⟨0, fun fail ret => by
  unfold DiskCrashes
  cases hf : rFew_r d with
  | false => rfl
  | true =>
  rw [bif_false (c := !true) rfl, bif_true (c := rFewOps_P l) rfl]
  cases hl : rFewOps_r l with
  | false => rfl
  | true =>
    have hp := fewOps_P hf hl
    have hs : smallD d = true := by have := few_iff.1 hf; exact small_iff.2 (by omega)
    rw [bif_false (c := !true) rfl]
    by_cases hc : ((b.2.1.length : Nat) : Int) > 200
    · rw [bif_true (tt hc)]; rfl
    have hi : intP d l b.2.1 = true := int_iff.2 ⟨hp, by omega⟩
    have hcr : dCrash_P d b.2.1 = true := cr_iff.2 ⟨small_iff.1 hs, by omega⟩
    obtain ⟨i1, i2⟩ := int_small (a := b.1) (ch := b.2.1) hp
    have c1 := crash_ch d b.2.1
    rw [bif_false (ff hc), bif_true (c := dInterrupt_P d l b.1 b.2.1) hi, bif_true (c := rInterrupt_P d l b.1 b.2.1) hi, bif_true (c := rSame_P (dInterrupt_r0 d l b.1 b.2.1) (rInterrupt_r0 d l b.1 b.2.1)) (same_P i1 i1),
      bif_false (c := !(rSame_r (dInterrupt_r0 d l b.1 b.2.1) (rInterrupt_r0 d l b.1 b.2.1))) (by rw [show rSame_r (dInterrupt_r0 d l b.1 b.2.1) (rInterrupt_r0 d l b.1 b.2.1) = true from tt rfl]; rfl),
      bif_true (c := rSameInts_P (dInterrupt_r1 d l b.1 b.2.1) (rInterrupt_r1 d l b.1 b.2.1)) (tt (show (intD d l b.1 b.2.1).2.1.length ≤ _ ∧ (intD d l b.1 b.2.1).2.1.length ≤ _ by omega)),
      bif_false (c := !(rSameInts_r (dInterrupt_r1 d l b.1 b.2.1) (rInterrupt_r1 d l b.1 b.2.1))) (by rw [show rSameInts_r (dInterrupt_r1 d l b.1 b.2.1) (rInterrupt_r1 d l b.1 b.2.1) = true from tt rfl]; rfl),
      bif_false (c := dInterrupt_r2 d l b.1 b.2.1 != rInterrupt_r2 d l b.1 b.2.1) (bne_f rfl),
      bif_true (c := dCrash_P d b.2.1) hcr, bif_true (c := rCrash_P d b.2.1) hcr, bif_true (c := law48_awake_r) rfl, bif_true (c := rSame_P (dCrash_r0 d b.2.1) (rCrash_r0 d b.2.1)) (same_P (crash_smallD hs) (crash_smallD hs)),
      bif_true (c := rSame_r (dCrash_r0 d b.2.1) (rCrash_r0 d b.2.1)) (tt rfl), bif_true (c := rSameInts_P (dCrash_r1 d b.2.1) (rCrash_r1 d b.2.1)) (tt (show (crashD d b.2.1).2.1.length ≤ _ ∧ (crashD d b.2.1).2.1.length ≤ _ by omega)),
      bif_true (c := rSameInts_r (dCrash_r1 d b.2.1) (rCrash_r1 d b.2.1)) (tt rfl), show (dCrash_r2 d b.2.1 == rCrash_r2 d b.2.1) = true from beq_t rfl]
    rfl⟩
end Go.AI
