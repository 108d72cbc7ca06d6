/- What memory holds fits what the law asks. -/
import Derived.Test.YtaobeghgcfbcfaaLogL4
import Derived.Test.YtaobeghgcfbcfaaA5
namespace Go.AI
open Go
theorem LogCrashes_wf (x : LawT [.slc (.slc (.int .u8)), .slc (.int .u8), .slc (.int .i64)]) (_ : WfArgs [.slc (.slc (.int .u8)), .slc (.int .u8), .slc (.int .i64)] x) : LogCrashes_P x.1 x.2.1 x.2.2.1 = true := rfl
end Go.AI
