/- What the functions of the field answer. -/
import Derived.Test.YtaoimnfmhdmkmaaVolG
import Derived.KernelRfl
namespace Go.AI
open Go

theorem tabs_log : (allB 256 fun a => decide (List.getD fieldT.2.1 a 0 = (logN a : Int)) && decide (logN a < 255)) = true := by decide +kernel
theorem tabs_pow : (allB 255 fun i => List.getD fieldT.1 i 0 == UInt8.ofNat (powN i)) = true := by decide +kernel
theorem u8_lt (a : UInt8) : a.toNat < 256 := a.toNat_lt
theorem log_tab (a : UInt8) : logT fieldT a = (logN a.toNat : Int) ∧ logN a.toNat < 255 := by
  unfold logT
  rw [nthR_eq]
  have := allB_iff tabs_log a.toNat (u8_lt a)
  rw [Bool.and_eq_true, decide_eq_true_eq, decide_eq_true_eq] at this
  exact this
theorem pow_tab {i : Nat} (h : i < 255) : List.getD fieldT.1 i 0 = UInt8.ofNat (powN i) := by
  have := allB_iff tabs_pow i h
  simpa using this
theorem sum_tab (a b : UInt8) : sumT fieldT a b = (((logN a.toNat + logN b.toNat) % 255 : Nat) : Int) := by
  obtain ⟨h1, h2⟩ := log_tab a
  obtain ⟨h3, h4⟩ := log_tab b
  unfold sumT
  rw [h1, h3, addI_eq (by omega) (by omega), remI_eq (by omega)]
  omega
theorem neg_tab (a : UInt8) : negT fieldT a = (((255 - logN a.toNat) % 255 : Nat) : Int) := by
  obtain ⟨h1, h2⟩ := log_tab a
  unfold negT
  rw [h1, subI_eq (by omega) (by omega), remI_eq (by omega)]
  omega
theorem tMul_ok (a b : UInt8) : tMul_P fieldT a b = true ∧ tMul_r fieldT a b = gfm a b := by
  unfold tMul_P tMul_r gfm mulN
  cases ha : a.toNat == 0 with
  | true => exact ⟨rfl, rfl⟩
  | false =>
    cases hb : b.toNat == 0 with
    | true => exact ⟨rfl, rfl⟩
    | false =>
      have hlt : (logN a.toNat + logN b.toNat) % 255 < 255 := Nat.mod_lt _ (by omega)
      simp only [cond_false, Bool.or_self, sum_tab]
      refine ⟨?_, ?_⟩
      · simp only [Bool.and_eq_true, decide_eq_true_eq]; omega
      · rw [Int.toNat_natCast, nthR_eq]; exact pow_tab hlt
theorem tInv_ok (a : UInt8) : tInv_P fieldT a = true ∧ tInv_r fieldT a = gfi a := by
  have hlt : (255 - logN a.toNat) % 255 < 255 := Nat.mod_lt _ (by omega)
  unfold tInv_P tInv_r gfi invN
  rw [neg_tab]
  refine ⟨?_, ?_⟩
  · simp only [Bool.and_eq_true, decide_eq_true_eq]; omega
  · rw [Int.toNat_natCast, nthR_eq]; exact pow_tab hlt

theorem tMul_plain (t : FT) (a : UInt8) (b : UInt8) (h : tMul_P t a b = true) : ∃ F, ∀ {X : Type} (fail : X) (ret : UInt8 → X), tMul F t a b fail ret = ret (tMul_r t a b) := by
  refine ⟨1, fun fail ret => ?_⟩
  have ha := u8_lt a
  have hb := u8_lt b
  unfold tMul tMul_r sumT logT
  unfold tMul_P sumT logT at h
  simp only [nthR_eq] at h ⊢
  cases e1 : a.toNat == 0 with
  | true =>
    have : (((a.toNat : Nat) : Int) == 0) = true := by rw [beq_iff_eq] at e1 ⊢; omega
    rw [this]; rfl
  | false =>
    have e1' : (((a.toNat : Nat) : Int) == 0) = false := by rw [beq_eq_false_iff_ne] at e1 ⊢; omega
    rw [e1']
    simp only [cond_false]
    rw [e1] at h
    simp only [cond_false] at h
    cases e2 : b.toNat == 0 with
    | true =>
      have : (((b.toNat : Nat) : Int) == 0) = true := by rw [beq_iff_eq] at e2 ⊢; omega
      rw [this]; rfl
    | false =>
      have e2' : (((b.toNat : Nat) : Int) == 0) = false := by rw [beq_eq_false_iff_ne] at e2 ⊢; omega
      rw [e2']
      rw [e2] at h
      simp only [cond_false] at h ⊢
      rw [bif_true (tt2 (by omega) (by omega)), bif_true (tt2 (by omega) (by omega))]
      exact bif_true h _ _
theorem tInv_plain (t : FT) (a : UInt8) (h : tInv_P t a = true) : ∃ F, ∀ {X : Type} (fail : X) (ret : UInt8 → X), tInv F t a fail ret = ret (tInv_r t a) := by
  refine ⟨1, fun fail ret => ?_⟩
  have ha := u8_lt a
  unfold tInv tInv_r negT logT
  unfold tInv_P negT logT at h
  simp only [nthR_eq] at h ⊢
  rw [bif_true (tt2 (by omega) (by omega))]
  exact bif_true h _ _
theorem gMul_plain (a : UInt8) (b : UInt8) (_ : gMul_P a b = true) : ∃ F, ∀ {X : Type} (fail : X) (ret : UInt8 → X), gMul F a b fail ret = ret (gMul_r a b) := by
  refine ⟨1, fun fail ret => ?_⟩
  obtain ⟨h1, h2⟩ := tMul_ok a b
  unfold gMul
  rw [bif_true (show gField_P = true from rfl), bif_true (show tMul_P gField_r a b = true from h1)]
  exact congrArg ret h2
theorem sClone_plain (s : List UInt8) (h : sClone_P s = true) : ∃ F, ∀ {X : Type} (fail : X) (both : X → X → X) (_ : ∀ x, both x x = x) (ret : List UInt8 → X), sClone F s fail both ret = ret (sClone_r s) := by
  refine ⟨1, fun fail both hb ret => ?_⟩
  unfold sClone
  rw [bif_true (show decide (s.length ≤ big) = true from h)]
  cases s with
  | nil => exact hb _
  | cons _ _ => rfl
theorem bEqual_plain (a : List UInt8) (b : List UInt8) (_ : bEqual_P a b = true) : ∃ F, ∀ {X : Type} (fail : X) (ret : Bool → X), bEqual F a b fail ret = ret (bEqual_r a b) := ⟨1, fun _ _ => rfl⟩
theorem cau_2_1 {X : Type} (fail : X) (ret : List (List UInt8) → Int → X) : gCauchy 10 2 1 fail ret = ret (gCauchy_r0 2 1) (gCauchy_r1 2 1) := by kernel_rfl
theorem cau_2_2 {X : Type} (fail : X) (ret : List (List UInt8) → Int → X) : gCauchy 10 2 2 fail ret = ret (gCauchy_r0 2 2) (gCauchy_r1 2 2) := by kernel_rfl
theorem cau_2_3 {X : Type} (fail : X) (ret : List (List UInt8) → Int → X) : gCauchy 10 2 3 fail ret = ret (gCauchy_r0 2 3) (gCauchy_r1 2 3) := by kernel_rfl
theorem cau_2_4 {X : Type} (fail : X) (ret : List (List UInt8) → Int → X) : gCauchy 10 2 4 fail ret = ret (gCauchy_r0 2 4) (gCauchy_r1 2 4) := by kernel_rfl
theorem cau_2_5 {X : Type} (fail : X) (ret : List (List UInt8) → Int → X) : gCauchy 10 2 5 fail ret = ret (gCauchy_r0 2 5) (gCauchy_r1 2 5) := by kernel_rfl
theorem cau_2_6 {X : Type} (fail : X) (ret : List (List UInt8) → Int → X) : gCauchy 10 2 6 fail ret = ret (gCauchy_r0 2 6) (gCauchy_r1 2 6) := by kernel_rfl
theorem cau_1_3 {X : Type} (fail : X) (ret : List (List UInt8) → Int → X) : gCauchy 10 1 3 fail ret = ret (gCauchy_r0 1 3) (gCauchy_r1 1 3) := by kernel_rfl
theorem gCauchy_plain (rows : Int) (columns : Int) (h : gCauchy_P rows columns = true) : ∃ F, ∀ {X : Type} (fail : X) (ret : List (List UInt8) → Int → X), gCauchy F rows columns fail ret = ret (gCauchy_r0 rows columns) (gCauchy_r1 rows columns) := by
  have hc : (rows = 2 ∧ (columns = 1 ∨ columns = 2 ∨ columns = 3 ∨ columns = 4 ∨ columns = 5 ∨ columns = 6)) ∨ (rows = 1 ∧ columns = 3) := by
    unfold gCauchy_P cauchyIn at h
    simp only [Bool.or_eq_true, Bool.and_eq_true, beq_iff_eq, decide_eq_true_eq] at h
    omega
  refine ⟨10, fun fail ret => ?_⟩
  rcases hc with ⟨rfl, rfl | rfl | rfl | rfl | rfl | rfl⟩ | ⟨rfl, rfl⟩
  · exact cau_2_1 fail ret
  · exact cau_2_2 fail ret
  · exact cau_2_3 fail ret
  · exact cau_2_4 fail ret
  · exact cau_2_5 fail ret
  · exact cau_2_6 fail ret
  · exact cau_1_3 fail ret
end Go.AI
