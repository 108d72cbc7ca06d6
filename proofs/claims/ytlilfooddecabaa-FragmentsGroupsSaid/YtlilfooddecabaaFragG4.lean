/- Plain functions, printed by running the machine on symbols. -/
import Derived.Test.YtlilfooddecabaaFragS2
namespace Go.AI
open Go
set_option linter.unusedVariables false

def FragmentsGroups {X : Type} (F : Nat) (lengths : List Int) (most : Int) (fail : X) (ret : Bool → X) : X :=
  bif (decide (((lengths.length : Nat) : Int) > (300 : Int))) then
    ret (law46_awake_r)
  else
  bif (fGroups_P lengths most) then
  bif (qGroups_P lengths most) then
  bif (law46_awake_r) then
    bif (qSameGroups_P (fGroups_r0 lengths most) (qGroups_r0 lengths most)) then
    bif (qSameGroups_r (fGroups_r0 lengths most) (qGroups_r0 lengths most)) then
      ret ((fGroups_r1 lengths most) == (qGroups_r1 lengths most))
    else
    ret false
    else fail
  else
  ret false
  else fail
  else fail

end Go.AI
