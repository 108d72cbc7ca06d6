/- What memory holds fits what the laws ask. -/
import Derived.Test.YtkafmananfiikaaDiskL
import Derived.Test.YtkafmananfiikaaA5
namespace Go.AI
open Go
abbrev dkS : Sch := .pair (.slc (.arr 16 (.int .u8))) (.pair (.slc (.pair (.int .i64) (.pair (.arr 16 (.int .u8)) .unit))) .unit)
abbrev opS : Sch := .slc (.pair (.int .i64) (.pair (.int .i64) (.pair (.slc (.arr 16 (.int .u8))) .unit)))
theorem DiskReads_wf (x : LawT [dkS, .int .i64, .int .i64]) (_ : WfArgs [dkS, .int .i64, .int .i64] x) : DiskReads_P x.1 x.2.1 x.2.2.1 = true := rfl
theorem DiskRuns_wf (x : LawT [dkS, opS]) (_ : WfArgs [dkS, opS] x) : DiskRuns_P x.1 x.2.1 = true := rfl
theorem DiskCrashes_wf (x : LawT [dkS, opS, .pair (.int .i64) (.pair (.slc (.int .i64)) .unit)]) (_ : WfArgs [dkS, opS, .pair (.int .i64) (.pair (.slc (.int .i64)) .unit)] x) : DiskCrashes_P x.1 x.2.1 x.2.2.1 = true := rfl
end Go.AI
