/- What memory holds fits what the laws ask. -/
import Derived.Test.YtfpconfgbkoifaaCipherL
import Derived.Test.YtfpconfgbkoifaaA5
namespace Go.AI
open Go
theorem wf_nonneg16 {n : Int} (h : (Lit.int .u16 n).wf = true) : 0 ≤ n ∧ n ≤ 65535 := by
  simp only [Lit.wf, Bool.and_eq_true, decide_eq_true_eq] at h
  exact ⟨h.1, h.2⟩
theorem wf_nonneg64 {n : Int} (h : (Lit.int .u64 n).wf = true) : 0 ≤ n := by
  simp only [Lit.wf, Bool.and_eq_true, decide_eq_true_eq] at h
  exact h.1
theorem CipherBlocks_wf (x : LawT [.arr 32 (.int .u8), .int .i64, .int .i64]) (_ : WfArgs [.arr 32 (.int .u8), .int .i64, .int .i64] x) : CipherBlocks_P x.1 x.2.1 x.2.2.1 = true := rfl
theorem CipherStreams_wf (x : LawT [.arr 32 (.int .u8), .int .i64, .slc (.int .u8)]) (_ : WfArgs [.arr 32 (.int .u8), .int .i64, .slc (.int .u8)] x) : CipherStreams_P x.1 x.2.1 x.2.2.1 = true := rfl
theorem CipherSeals_wf (x : LawT [.slc (.int .u8), .int .i64, .slc (.int .u8)]) (_ : WfArgs [.slc (.int .u8), .int .i64, .slc (.int .u8)] x) : CipherSeals_P x.1 x.2.1 x.2.2.1 = true := rfl
theorem CipherOpens_wf (x : LawT [.slc (.int .u8), .int .i64, .slc (.int .u8)]) (_ : WfArgs [.slc (.int .u8), .int .i64, .slc (.int .u8)] x) : CipherOpens_P x.1 x.2.1 x.2.2.1 = true := rfl
theorem CipherInverts_wf (x : LawT [.arr 32 (.int .u8), .int .u32, .arr 2 (.slc (.int .u8))]) (_ : WfArgs [.arr 32 (.int .u8), .int .u32, .arr 2 (.slc (.int .u8))] x) : CipherInverts_P x.1 x.2.1 x.2.2.1 = true := rfl
theorem CipherCounts_wf (x : LawT [.arr 32 (.int .u8), .int .u32, .int .u16]) (h : WfArgs [.arr 32 (.int .u8), .int .u32, .int .u16] x) : CipherCounts_P x.1 x.2.1 x.2.2.1 = true := tt (wf_nonneg16 h.2.2.1)
theorem CipherReturns_wf (x : LawT [.slc (.int .u8), .int .u64, .slc (.int .u8)]) (h : WfArgs [.slc (.int .u8), .int .u64, .slc (.int .u8)] x) : CipherReturns_P x.1 x.2.1 x.2.2.1 = true := tt (wf_nonneg64 h.2.1)
theorem CipherNotices_wf (x : LawT [.slc (.int .u8), .slc (.int .u8), .pair (.int .u8) (.pair (.int .u8) (.pair (.int .u8) .unit))]) (_ : WfArgs [.slc (.int .u8), .slc (.int .u8), .pair (.int .u8) (.pair (.int .u8) (.pair (.int .u8) .unit))] x) : CipherNotices_P x.1 x.2.1 x.2.2.1 = true := rfl
end Go.AI
