/- What memory holds fits what the laws ask. -/
import Derived.Test.YtlilfooddecabaaFragL5
import Derived.Test.YtlilfooddecabaaA5
namespace Go.AI
open Go
theorem FragmentsGroups_wf (x : LawT [.slc (.int .i64), .int .i64]) (_ : WfArgs [.slc (.int .i64), .int .i64] x) : FragmentsGroups_P x.1 x.2.1 = true := rfl
end Go.AI
