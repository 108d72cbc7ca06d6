/- What memory holds fits what the law asks. -/
import Derived.Test.YtaoimnfmhdmkmaaVolL
import Derived.Test.YtaoimnfmhdmkmaaA5
namespace Go.AI
open Go
abbrev bysS : Sch := .slc (.slc (.int .u8))
theorem TopVolumesAlgebra_wf (x : LawT [bysS, bysS, .arr 2 (.int .u8)]) (_ : WfArgs [bysS, bysS, .arr 2 (.int .u8)] x) : TopVolumesAlgebra_P x.1 x.2.1 x.2.2.1 = true := rfl
end Go.AI
