/- What the law and the closed call answer. -/
import Derived.Test.YtaoimnfmhdmkmaaVolS
noncomputable section
namespace Go.AI
open Go

def TopVolumesAlgebra_P (_ _ : Mat) (_ : List UInt8) : Bool := true
def TopVolumesAlgebra_r (_ _ : Mat) (_ : List UInt8) : Bool := true
end Go.AI
