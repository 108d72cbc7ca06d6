/- Plain functions, printed by running the machine on symbols. -/
import Derived.Test.YtlilfooddecabaaFragS
namespace Go.AI
open Go
set_option linter.unusedVariables false

def law46_awake {X : Type} (F : Nat)  (fail : X) (ret : Bool → X) : X :=
  bif (fAdd_P (([] : List ((List UInt8) × (Int × (Int × (Int × Unit))))), ()) ([(97 : UInt8), (98 : UInt8)] : List UInt8)) then
  bif (fAdd_P (fAdd_r0 (([] : List ((List UInt8) × (Int × (Int × (Int × Unit))))), ()) ([(97 : UInt8), (98 : UInt8)] : List UInt8)) ([(99 : UInt8)] : List UInt8)) then
  bif (fAdd_P (fAdd_r0 (fAdd_r0 (([] : List ((List UInt8) × (Int × (Int × (Int × Unit))))), ()) ([(97 : UInt8), (98 : UInt8)] : List UInt8)) ([(99 : UInt8)] : List UInt8)) ([(97 : UInt8), (98 : UInt8)] : List UInt8)) then
  bif (fPlace_P (fAdd_r0 (fAdd_r0 (fAdd_r0 (([] : List ((List UInt8) × (Int × (Int × (Int × Unit))))), ()) ([(97 : UInt8), (98 : UInt8)] : List UInt8)) ([(99 : UInt8)] : List UInt8)) ([(97 : UInt8), (98 : UInt8)] : List UInt8)) (0 : Int) (0 : Int) (0 : Int)) then
  bif (fStored_P (fPlace_r0 (fAdd_r0 (fAdd_r0 (fAdd_r0 (([] : List ((List UInt8) × (Int × (Int × (Int × Unit))))), ()) ([(97 : UInt8), (98 : UInt8)] : List UInt8)) ([(99 : UInt8)] : List UInt8)) ([(97 : UInt8), (98 : UInt8)] : List UInt8)) (0 : Int) (0 : Int) (0 : Int))) then
  bif (fGroups_P ([(3 : Int), (4 : Int), (5 : Int), (9 : Int), (1 : Int), (1 : Int)] : List Int) (7 : Int)) then
  bif ((addI (addI (addI (addI (addI (fAdd_r3 (([] : List ((List UInt8) × (Int × (Int × (Int × Unit))))), ()) ([(97 : UInt8), (98 : UInt8)] : List UInt8)) (fAdd_r3 (fAdd_r0 (([] : List ((List UInt8) × (Int × (Int × (Int × Unit))))), ()) ([(97 : UInt8), (98 : UInt8)] : List UInt8)) ([(99 : UInt8)] : List UInt8))) (fAdd_r3 (fAdd_r0 (fAdd_r0 (([] : List ((List UInt8) × (Int × (Int × (Int × Unit))))), ()) ([(97 : UInt8), (98 : UInt8)] : List UInt8)) ([(99 : UInt8)] : List UInt8)) ([(97 : UInt8), (98 : UInt8)] : List UInt8))) (fPlace_r1 (fAdd_r0 (fAdd_r0 (fAdd_r0 (([] : List ((List UInt8) × (Int × (Int × (Int × Unit))))), ()) ([(97 : UInt8), (98 : UInt8)] : List UInt8)) ([(99 : UInt8)] : List UInt8)) ([(97 : UInt8), (98 : UInt8)] : List UInt8)) (0 : Int) (0 : Int) (0 : Int))) (fStored_r1 (fPlace_r0 (fAdd_r0 (fAdd_r0 (fAdd_r0 (([] : List ((List UInt8) × (Int × (Int × (Int × Unit))))), ()) ([(97 : UInt8), (98 : UInt8)] : List UInt8)) ([(99 : UInt8)] : List UInt8)) ([(97 : UInt8), (98 : UInt8)] : List UInt8)) (0 : Int) (0 : Int) (0 : Int)))) (fGroups_r1 ([(3 : Int), (4 : Int), (5 : Int), (9 : Int), (1 : Int), (1 : Int)] : List Int) (7 : Int))) != (0 : Int)) then
    ret false
  else
  bif ((fAdd_r1 (([] : List ((List UInt8) × (Int × (Int × (Int × Unit))))), ()) ([(97 : UInt8), (98 : UInt8)] : List UInt8)) != (0 : Int)) then
    ret false
  else
  bif ((fAdd_r1 (fAdd_r0 (([] : List ((List UInt8) × (Int × (Int × (Int × Unit))))), ()) ([(97 : UInt8), (98 : UInt8)] : List UInt8)) ([(99 : UInt8)] : List UInt8)) != (1 : Int)) then
    ret false
  else
  bif ((fAdd_r1 (fAdd_r0 (fAdd_r0 (([] : List ((List UInt8) × (Int × (Int × (Int × Unit))))), ()) ([(97 : UInt8), (98 : UInt8)] : List UInt8)) ([(99 : UInt8)] : List UInt8)) ([(97 : UInt8), (98 : UInt8)] : List UInt8)) != (0 : Int)) then
    ret false
  else
  bif (!(fAdd_r2 (([] : List ((List UInt8) × (Int × (Int × (Int × Unit))))), ()) ([(97 : UInt8), (98 : UInt8)] : List UInt8))) then
    ret false
  else
  bif (!(fAdd_r2 (fAdd_r0 (([] : List ((List UInt8) × (Int × (Int × (Int × Unit))))), ()) ([(97 : UInt8), (98 : UInt8)] : List UInt8)) ([(99 : UInt8)] : List UInt8))) then
    ret false
  else
  bif (fAdd_r2 (fAdd_r0 (fAdd_r0 (([] : List ((List UInt8) × (Int × (Int × (Int × Unit))))), ()) ([(97 : UInt8), (98 : UInt8)] : List UInt8)) ([(99 : UInt8)] : List UInt8)) ([(97 : UInt8), (98 : UInt8)] : List UInt8)) then
    ret false
  else
  bif ((fStored_r0 (fPlace_r0 (fAdd_r0 (fAdd_r0 (fAdd_r0 (([] : List ((List UInt8) × (Int × (Int × (Int × Unit))))), ()) ([(97 : UInt8), (98 : UInt8)] : List UInt8)) ([(99 : UInt8)] : List UInt8)) ([(97 : UInt8), (98 : UInt8)] : List UInt8)) (0 : Int) (0 : Int) (0 : Int))) != (2 : Int)) then
    ret false
  else
  bif (qSameGroups_P (fGroups_r0 ([(3 : Int), (4 : Int), (5 : Int), (9 : Int), (1 : Int), (1 : Int)] : List Int) (7 : Int)) ([([(0 : Int), (1 : Int)] : List Int), ([(2 : Int)] : List Int), ([(3 : Int)] : List Int), ([(4 : Int), (5 : Int)] : List Int)] : List (List Int))) then
  ret (qSameGroups_r (fGroups_r0 ([(3 : Int), (4 : Int), (5 : Int), (9 : Int), (1 : Int), (1 : Int)] : List Int) (7 : Int)) ([([(0 : Int), (1 : Int)] : List Int), ([(2 : Int)] : List Int), ([(3 : Int)] : List Int), ([(4 : Int), (5 : Int)] : List Int)] : List (List Int)))
  else fail
  else fail
  else fail
  else fail
  else fail
  else fail
  else fail

end Go.AI
