/- What memory holds fits what the laws ask. -/
import Derived.Test.YtlilfooddecabaaFragL
import Derived.Test.YtlilfooddecabaaA5
namespace Go.AI
open Go
abbrev frS : Sch := .pair (.slc (.pair (.arr 32 (.int .u8)) (.pair (.int .i64) (.pair (.int .i64) (.pair (.int .i64) .unit))))) .unit
theorem FragmentsChecks_wf (x : LawT [frS, .arr 32 (.int .u8), .int .i64]) (_ : WfArgs [frS, .arr 32 (.int .u8), .int .i64] x) : FragmentsChecks_P x.1 x.2.1 x.2.2.1 = true := rfl
theorem FragmentsAdds_wf (x : LawT [frS, .slc (.int .u8)]) (_ : WfArgs [frS, .slc (.int .u8)] x) : FragmentsAdds_P x.1 x.2.1 = true := rfl
theorem FragmentsPlaces_wf (x : LawT [frS, .int .i64, .arr 2 (.int .i64)]) (_ : WfArgs [frS, .int .i64, .arr 2 (.int .i64)] x) : FragmentsPlaces_P x.1 x.2.1 x.2.2.1 = true := rfl
end Go.AI
