/- The laws that compare with the reference. -/
import Derived.Test.YtlilfooddecabaaFragG3
import Derived.Test.YtlilfooddecabaaFragP5
namespace Go.AI
open Go

theorem few_iff {f : Frg} : qFew_r f = true ↔ f.1.length ≤ 100 := by simp only [qFew_r, decide_eq_true_eq]
def FragmentsChecks_P (_ : Frg) (_ : List UInt8) (_ : Int) : Bool := true
def FragmentsChecks_r (_ : Frg) (_ : List UInt8) (_ : Int) : Bool := true
def FragmentsAdds_P (_ : Frg) (_ : List UInt8) : Bool := true
def FragmentsAdds_r (_ : Frg) (_ : List UInt8) : Bool := true
def FragmentsPlaces_P (_ : Frg) (_ : Int) (_ : List Int) : Bool := true
def FragmentsPlaces_r (_ : Frg) (_ : Int) (_ : List Int) : Bool := true
theorem addI_len (f : Frg) (b : List UInt8) : (addI_ f b).1.1.length ≤ f.1.length + 1 := by
  unfold addI_
  by_cases c : chkI f = 0
  · rw [if_pos c]
    rcases addK_cases f b with ⟨_, k⟩ | ⟨_, k⟩ | ⟨_, _, _, k⟩ | ⟨_, _, _, _, k⟩ | ⟨_, _, _, _, k⟩ <;> rw [k]
    · exact Nat.zero_le _
    · exact Nat.zero_le _
    · exact Nat.le_succ _
    · exact Nat.zero_le _
    · show (f.1 ++ [_]).length ≤ _
      rw [List.length_append, List.length_singleton]; exact Nat.le_refl _
  · rw [if_neg c]; exact Nat.zero_le _
theorem plaI_len (f : Frg) (k b a : Int) : (plaI f k b a).1.1.length ≤ f.1.length := by
  unfold plaI
  by_cases c : chkI f = 0
  · rw [if_pos c]
    rcases plaK_cases f k b a with ⟨_, q⟩ | ⟨_, _, q⟩ | ⟨_, _, _, q⟩ | ⟨_, _, _, q⟩ <;> rw [q]
    · exact Nat.zero_le _
    · exact Nat.zero_le _
    · exact Nat.zero_le _
    · show (f.1.set _ _).length ≤ _
      rw [List.length_set]; exact Nat.le_refl _
  · rw [if_neg c]; exact Nat.zero_le _
theorem same_self (f : Frg) : qSame_r f f = true := tt rfl
theorem same_P {f g : Frg} (hf : f.1.length ≤ 1000000) (hg : g.1.length ≤ 1000000) : qSame_P f g = true := tt (by omega)
theorem FragmentsChecks_plain (f : Frg) (d : List UInt8) (n : Int) (_ : FragmentsChecks_P f d n = true) : ∃ F, ∀ {X : Type} (fail : X) (ret : Bool → X), FragmentsChecks F f d n fail ret = ret (FragmentsChecks_r f d n) := ⟨0, fun fail ret => by
  unfold FragmentsChecks
  cases qFew_r f with
  | false => rfl
  | true =>
    have e1 : (fCheck_r f == qCheck_r f) = true := beq_t rfl
    have e2 : (fFind_r0 f d n == qFind_r0 f d n) = true := beq_t rfl
    have e3 : (fFind_r1 f d n == qFind_r1 f d n) = true := beq_self_eq_true (fFind_r1 f d n)
    rw [e1, e2, e3]; rfl⟩
theorem FragmentsAdds_plain (f : Frg) (b : List UInt8) (_ : FragmentsAdds_P f b = true) : ∃ F, ∀ {X : Type} (fail : X) (ret : Bool → X), FragmentsAdds F f b fail ret = ret (FragmentsAdds_r f b) := ⟨0, fun fail ret => by
  unfold FragmentsAdds
  cases h : qFew_r f with
  | false => rfl
  | true =>
    have h := few_iff.1 h
    have hl := addI_len f b
    by_cases c : (b.length : Int) > 2000
    · rw [bif_false (c := !true) rfl, bif_true (tt c)]; rfl
    have e0 : qSame_P (fAdd_r0 f b) (qAdd_r0 f b) = true := same_P (f := (addI_ f b).1) (g := (addI_ f b).1) (by omega) (by omega)
    have e1 : qSame_r (fAdd_r0 f b) (qAdd_r0 f b) = true := same_self (addI_ f b).1
    have e2 : (fAdd_r1 f b == qAdd_r1 f b) = true := beq_t rfl
    have e3 : (fAdd_r2 f b == qAdd_r2 f b) = true := beq_self_eq_true (addI_ f b).2.2.1
    have e4 : (fAdd_r3 f b == qAdd_r3 f b) = true := beq_t rfl
    rw [bif_false (c := !true) rfl, bif_false (ff c), e0, e1, e2, e3, e4]; rfl⟩
theorem FragmentsPlaces_plain (f : Frg) (k : Int) (to : List Int) (_ : FragmentsPlaces_P f k to = true) : ∃ F, ∀ {X : Type} (fail : X) (ret : Bool → X), FragmentsPlaces F f k to fail ret = ret (FragmentsPlaces_r f k to) := ⟨0, fun fail ret => by
  unfold FragmentsPlaces
  cases h : qFew_r f with
  | false => rfl
  | true =>
    have h := few_iff.1 h
    generalize to.getD 0 0 = b
    generalize to.getD 1 0 = a
    have hl := plaI_len f k b a
    have e0 : qSame_P (fPlace_r0 f k b a) (qPlace_r0 f k b a) = true := same_P (f := (plaI f k b a).1) (g := (plaI f k b a).1) (by omega) (by omega)
    have e1 : qSame_r (fPlace_r0 f k b a) (qPlace_r0 f k b a) = true := same_self (plaI f k b a).1
    have e2 : (fPlace_r1 f k b a == qPlace_r1 f k b a) = true := beq_t rfl
    have e3 : (fStored_r0 f == qStored_r0 f) = true := beq_t rfl
    have e4 : (fStored_r1 f == qStored_r1 f) = true := beq_t rfl
    rw [e0, e1, e2, e3, e4]; rfl⟩
end Go.AI
