/- What memory holds fits what the laws ask. -/
import Derived.Test.YtlilfooddecabaaFragL2
import Derived.Test.YtlilfooddecabaaA5
namespace Go.AI
open Go
theorem FragmentsGathers_wf (x : LawT [.slc (.int .u8), .int .u8]) (_ : WfArgs [.slc (.int .u8), .int .u8] x) : FragmentsGathers_P x.1 x.2.1 = true := rfl
theorem FragmentsFewest_wf (x : LawT [.slc (.int .u8), .int .u8, .slc .bool]) (_ : WfArgs [.slc (.int .u8), .int .u8, .slc .bool] x) : FragmentsFewest_P x.1 x.2.1 x.2.2.1 = true := rfl
end Go.AI
