/- What the reference's Groups answers. -/
import Derived.Test.YtlilfooddecabaaFragS
namespace Go.AI
open Go
def qGroups_P (_ : List Int) (_ : Int) : Bool := true
def qGroups_r0 (l : List Int) (most : Int) : List (List Int) := fGroups_r0 l most
def qGroups_r1 (l : List Int) (most : Int) : Int := fGroups_r1 l most
end Go.AI
