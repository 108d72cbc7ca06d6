/- What memory holds fits what the laws ask. -/
import Derived.Test.YtlilfooddecabaaFragL4
import Derived.Test.YtlilfooddecabaaA5
namespace Go.AI
open Go
theorem FragmentsOnce_wf (x : LawT [.slc (.slc (.int .u8))]) (_ : WfArgs [.slc (.slc (.int .u8))] x) : FragmentsOnce_P x.1 = true := rfl
end Go.AI
