/- What memory holds fits what the law asks. -/
import Derived.Test.YtaobeghgcfbcfaaLogL3
import Derived.Test.YtaobeghgcfbcfaaA5
namespace Go.AI
open Go
theorem LogDetects_wf (x : LawT [.slc (.slc (.int .u8)), .pair (.int .u8) (.pair (.int .u8) (.pair (.int .u8) .unit))]) (_ : WfArgs [.slc (.slc (.int .u8)), .pair (.int .u8) (.pair (.int .u8) (.pair (.int .u8) .unit))] x) : LogDetects_P x.1 x.2.1 = true := rfl
end Go.AI
