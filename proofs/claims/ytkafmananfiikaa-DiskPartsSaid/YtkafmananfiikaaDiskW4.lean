/- What memory holds fits what the laws ask. -/
import Derived.Test.YtkafmananfiikaaDiskL4
import Derived.Test.YtkafmananfiikaaA5
namespace Go.AI
open Go
theorem DiskParts_wf (x : LawT [.slc (.pair (.int .u8) (.pair (.int .u8) (.pair .bool .unit))), .slc (.pair (.int .u8) (.pair (.int .u8) (.pair .bool .unit))), .slc (.int .i64)]) (_ : WfArgs [.slc (.pair (.int .u8) (.pair (.int .u8) (.pair .bool .unit))), .slc (.pair (.int .u8) (.pair (.int .u8) (.pair .bool .unit))), .slc (.int .i64)] x) : DiskParts_P x.1 x.2.1 x.2.2.1 = true := rfl
end Go.AI
