/- What memory holds fits what the laws ask. -/
import Derived.Test.YtaobeghgcfbcfaaLogL
import Derived.Test.YtaobeghgcfbcfaaA5
namespace Go.AI
open Go
abbrev lgS : Sch := .pair (.int .i64) (.pair (.int .i64) (.pair (.int .i64) .unit))
abbrev pgS : Sch := .slc (.arr 16 (.int .u8))
abbrev dkS : Sch := .pair (.slc (.arr 16 (.int .u8))) (.pair (.slc (.pair (.int .i64) (.pair (.arr 16 (.int .u8)) .unit))) .unit)
theorem LogFormats_wf (x : LawT [lgS, .int .i64]) (_ : WfArgs [lgS, .int .i64] x) : LogFormats_P x.1 x.2.1 = true := rfl
theorem LogAppends_wf (x : LawT [lgS, .slc (.int .u8)]) (_ : WfArgs [lgS, .slc (.int .u8)] x) : LogAppends_P x.1 x.2.1 = true := rfl
theorem LogScans_wf (x : LawT [pgS, .int .i64]) (h : WfArgs [pgS, .int .i64] x) : LogScans_P x.1 x.2.1 = true :=
  List.all_eq_true.2 fun p hp => tt (h.1.2 p hp).1
theorem LogOpens_wf (x : LawT [dkS]) (h : WfArgs [dkS] x) : LogOpens_P x.1 = true := by
  show (pg16 x.1.1 && x.1.2.1.all fun p => decide (p.2.1.length = 16)) = true
  rw [Bool.and_eq_true]
  exact ⟨List.all_eq_true.2 fun p hp => tt (h.1.1.2 p hp).1, List.all_eq_true.2 fun p hp => tt (h.1.2.1.2 p hp).2.1.1⟩
end Go.AI
