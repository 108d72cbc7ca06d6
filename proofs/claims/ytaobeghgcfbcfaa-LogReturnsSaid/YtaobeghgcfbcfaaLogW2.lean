/- What memory holds fits what the law asks. -/
import Derived.Test.YtaobeghgcfbcfaaLogL2
import Derived.Test.YtaobeghgcfbcfaaA5
namespace Go.AI
open Go
theorem LogReturns_wf (x : LawT [.slc (.arr 16 (.int .u8)), .slc (.slc (.int .u8))]) (_ : WfArgs [.slc (.arr 16 (.int .u8)), .slc (.slc (.int .u8))] x) : LogReturns_P x.1 x.2.1 = true := rfl
end Go.AI
