/- What memory holds fits what the laws ask. -/
import Derived.Test.YtlilfooddecabaaFragL3
import Derived.Test.YtlilfooddecabaaA5
namespace Go.AI
open Go
theorem FragmentsRemain_wf (x : LawT [.slc (.slc (.int .u8)), .slc (.int .u8)]) (_ : WfArgs [.slc (.slc (.int .u8)), .slc (.int .u8)] x) : FragmentsRemain_P x.1 x.2.1 = true := rfl
end Go.AI
