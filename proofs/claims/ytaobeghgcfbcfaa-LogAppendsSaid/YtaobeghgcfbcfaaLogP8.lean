/- The laws that compare with the reference. -/
import Derived.Test.YtaobeghgcfbcfaaLogG3
import Derived.Test.YtaobeghgcfbcfaaLogP7
namespace Go.AI
open Go

def LogFormats_P (_ : LogT) (_ : Int) : Bool := true
def LogFormats_r (_ : LogT) (_ : Int) : Bool := true
def LogAppends_P (_ : LogT) (_ : Bys) : Bool := true
def LogAppends_r (_ : LogT) (_ : Bys) : Bool := true
def LogScans_P (l : List Page) (_ : Int) : Bool := pg16 l
def LogScans_r (_ : List Page) (_ : Int) : Bool := true
def LogOpens_P (d : DK) : Bool := dk16 d
def LogOpens_r (_ : DK) : Bool := true
theorem beq_log (a : LogT) : beqT (.pair (.int .i64) (.pair (.int .i64) (.pair (.int .i64) .unit))) a a = true := (beqT_iff (.pair (.int .i64) (.pair (.int .i64) (.pair (.int .i64) .unit))) rfl a a).2 rfl
theorem fmt_ops (n : Int) : opsS (fmtO n) = true := by
  unfold fmtO
  split
  · exact opsS_iff.2 ⟨by simp, fun x hx => by
      simp only [List.mem_cons, List.not_mem_nil, or_false] at hx
      rcases hx with rfl | rfl | rfl | rfl
      · show (List.replicate n.toNat z16).length ≤ _; rw [List.length_replicate]; omega
      · simp [syO]
      · simp [wrO]
      · simp [syO]⟩
  · rfl
theorem LogFormats_plain (l : LogT) (n : Int) (_ : LogFormats_P l n = true) : ∃ F, ∀ {X : Type} (fail : X) (ret : Bool → X), LogFormats F l n fail ret = ret (LogFormats_r l n) := ⟨0, fun fail ret => by
  unfold LogFormats
  have e1 : (lPages_r n == qPages_r n) = true := beq_t rfl
  have e2 : (lCheck_r l == qLCheck_r l) = true := beq_t rfl
  have e3 : beqT (.pair (.int .i64) (.pair (.int .i64) (.pair (.int .i64) .unit))) (lFormat_r0 n) (qFormat_r0 n) = true := beq_log (fmtL n)
  have e4 : rSameOps_P (lFormat_r1 n) (qFormat_r1 n) = true := by
    show (opsS (fmtO n) && opsS (fmtO n)) = true
    rw [fmt_ops]; rfl
  have e5 : rSameOps_r (lFormat_r1 n) (qFormat_r1 n) = true := tt rfl
  have e6 : (lFormat_r2 n == qFormat_r2 n) = true := beq_t rfl
  rw [e1, e2, e3, e4, e5, e6]
  by_cases c1 : n > 500
  · rw [bif_true (tt c1)]
    by_cases c2 : n ≤ 8192
    · rw [bif_true (tt c2)]; rfl
    · rw [bif_false (ff c2)]; rfl
  · rw [bif_false (ff c1)]; rfl⟩
theorem app_ops (l : LogT) (b : Bys) : opsS (appO l b) = true := by
  unfold appO
  split
  · rename_i h
    have hb : b.length ≤ 65536 := by
      unfold appE at h
      split at h
      · split at h
        · cases h
        · omega
      · rename_i hc; exact absurd h hc
    have hn : needN b.length ≤ 5000 := by unfold needN; omega
    refine opsS_iff.2 ⟨?_, fun x hx => ?_⟩
    · unfold appK
      split <;> simp
    · unfold appK at hx
      have key : ∀ y, y ∈ [wrO l.1 (dataPs b), syO, wrO (l.1 + needN b.length) [comP b (l.2.1 + 1).toNat], syO] → y.2.2.1.length ≤ 1000000000000 := by
        intro y hy
        simp only [List.mem_cons, List.not_mem_nil, or_false] at hy
        rcases hy with rfl | rfl | rfl | rfl
        · show (dataPs b).length ≤ _; rw [dataPs_len]; omega
        · simp [syO]
        · simp [wrO]
        · simp [syO]
      refine key x ?_
      split at hx
      · simp only [List.nil_append] at hx
        exact List.mem_cons_of_mem _ (List.mem_cons_of_mem _ hx)
      · exact hx
  · rfl
theorem LogAppends_plain (l : LogT) (b : Bys) (_ : LogAppends_P l b = true) : ∃ F, ∀ {X : Type} (fail : X) (ret : Bool → X), LogAppends F l b fail ret = ret (LogAppends_r l b) := ⟨0, fun fail ret => by
  unfold LogAppends
  have e3 : beqT (.pair (.int .i64) (.pair (.int .i64) (.pair (.int .i64) .unit))) (lAppend_r0 l b) (qAppend_r0 l b) = true := beq_log (appL l b)
  have e4 : rSameOps_P (lAppend_r1 l b) (qAppend_r1 l b) = true := by
    show (opsS (appO l b) && opsS (appO l b)) = true
    rw [app_ops]; rfl
  have e5 : rSameOps_r (lAppend_r1 l b) (qAppend_r1 l b) = true := tt rfl
  have e6 : (lAppend_r2 l b == qAppend_r2 l b) = true := beq_t rfl
  rw [e3, e4, e5, e6]
  by_cases c1 : (b.length : Int) > 2000
  · rw [bif_true (tt c1)]
    by_cases c2 : (b.length : Int) ≤ 65536
    · rw [bif_true (tt c2)]; rfl
    · rw [bif_false (ff c2)]; rfl
  · rw [bif_false (ff c1)]; rfl⟩
theorem LogScans_plain (l : List Page) (first : Int) (h : LogScans_P l first = true) : ∃ F, ∀ {X : Type} (fail : X) (ret : Bool → X), LogScans F l first fail ret = ret (LogScans_r l first) := ⟨0, fun fail ret => by
  unfold LogScans
  by_cases c1 : (l.length : Int) > 500
  · rw [bif_true (tt c1)]; rfl
  have hl := scanP_len l first
  have hP : lScan_P l first = true := by
    unfold lScan_P
    rw [show pg16 l = true from h, tt (by omega)]; rfl
  have e1 : qSameB_P (lScan_r0 l first) (qScan_r0 l first) = true := tt ⟨by show (scanP l first).1.length ≤ _; omega, by show (scanP l first).1.length ≤ _; omega⟩
  have e2 : qSameB_r (lScan_r0 l first) (qScan_r0 l first) = true := tt rfl
  have e3 : (lScan_r1 l first == qScan_r1 l first) = true := beq_t rfl
  rw [bif_false (ff c1), hP, bif_true (c := qScan_P l first) hP, e1, e2, e3]; rfl⟩
theorem LogOpens_plain (d : DK) (h : LogOpens_P d = true) : ∃ F, ∀ {X : Type} (fail : X) (ret : Bool → X), LogOpens F d fail ret = ret (LogOpens_r d) := ⟨0, fun fail ret => by
  unfold LogOpens
  cases hf : rFew_r d with
  | false => rfl
  | true =>
    simp only [rFew_r, decide_eq_true_eq] at hf
    have hP : lOpen_P d = true := by
      unfold lOpen_P
      rw [show dk16 d = true from h, small_iff.2 (by omega)]; rfl
    have hl : (opB d).length ≤ 1000 := by
      unfold opB
      split
      · have := scanP_len (conS d).tail 1
        rw [List.length_tail, con_len] at this; omega
      · simp
    have e0 : beqT (.pair (.int .i64) (.pair (.int .i64) (.pair (.int .i64) .unit))) (lOpen_r0 d) (qOpen_r0 d) = true := beq_log (opL d)
    have e1 : qSameB_P (lOpen_r1 d) (qOpen_r1 d) = true := tt ⟨by show (opB d).length ≤ _; omega, by show (opB d).length ≤ _; omega⟩
    have e2 : qSameB_r (lOpen_r1 d) (qOpen_r1 d) = true := tt rfl
    have e3 : (lOpen_r2 d == qOpen_r2 d) = true := beq_t rfl
    rw [hP, bif_true (c := qOpen_P d) hP, e0, e1, e2, e3]; rfl⟩
end Go.AI
