/- What memory holds fits what the law asks. -/
import Derived.Test.YtkafmananfiikaaDiskL3
import Derived.Test.YtkafmananfiikaaA5
namespace Go.AI
open Go
theorem DiskChooses_wf (x : LawT [.slc (.pair (.int .u8) (.pair (.int .u8) (.pair .bool .unit))), .int .u8]) (_ : WfArgs [.slc (.pair (.int .u8) (.pair (.int .u8) (.pair .bool .unit))), .int .u8] x) : DiskChooses_P x.1 x.2.1 = true := rfl
end Go.AI
