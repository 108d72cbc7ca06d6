/- What memory holds fits what the laws ask. -/
import Derived.Test.YtkafmananfiikaaDiskL2
import Derived.Test.YtkafmananfiikaaA5
namespace Go.AI
open Go
abbrev wrS_ : Sch := .slc (.pair (.int .u8) (.pair (.int .u8) (.pair .bool .unit)))
theorem DiskReturns_wf (x : LawT [wrS_, .int .u8]) (_ : WfArgs [wrS_, .int .u8] x) : DiskReturns_P x.1 x.2.1 = true := rfl
theorem DiskSurvives_wf (x : LawT [wrS_, .slc (.int .i64)]) (_ : WfArgs [wrS_, .slc (.int .i64)] x) : DiskSurvives_P x.1 x.2.1 = true := rfl
end Go.AI
