/- Plain functions, printed by running the machine on symbols. -/
import Derived.Test.YtaobeghgcfbcfaaLogS
namespace Go.AI
open Go
set_option linter.unusedVariables false

def law49_awake {X : Type} (F : Nat)  (fail : X) (ret : Bool → X) : X :=
  bif (lPages_P (0 : Int)) then
  bif ((lPages_r (0 : Int)) != (1 : Int)) then
    ret false
  else
  bif (lPages_P (1 : Int)) then
  bif ((lPages_r (1 : Int)) != (2 : Int)) then
    ret false
  else
  bif (lPages_P (15 : Int)) then
  bif ((lPages_r (15 : Int)) != (2 : Int)) then
    ret false
  else
  bif (lPages_P (16 : Int)) then
  bif ((lPages_r (16 : Int)) != (3 : Int)) then
    ret false
  else
  bif (lFormat_P (5 : Int)) then
  bif (dNew_P (5 : Int)) then
  bif (ran_P (dNew_r0 (5 : Int)) (lFormat_r1 (5 : Int)) (lFormat_r2 (5 : Int))) then
  bif (lAppend_P (lFormat_r0 (5 : Int)) ([(97 : UInt8), (98 : UInt8)] : List UInt8)) then
  bif ((dNew_r1 (5 : Int)) != (0 : Int)) then
    ret false
  else
  bif (!(ran_r1 (dNew_r0 (5 : Int)) (lFormat_r1 (5 : Int)) (lFormat_r2 (5 : Int)))) then
    ret false
  else
  bif ((lAppend_r2 (lFormat_r0 (5 : Int)) ([(97 : UInt8), (98 : UInt8)] : List UInt8)) != (0 : Int)) then
    ret false
  else
  bif ((((lAppend_r1 (lFormat_r0 (5 : Int)) ([(97 : UInt8), (98 : UInt8)] : List UInt8)).length : Nat) : Int) != (4 : Int)) then
    ret false
  else
  bif ((lAppend_r0 (lFormat_r0 (5 : Int)) ([(97 : UInt8), (98 : UInt8)] : List UInt8)).1 != (3 : Int)) then
    ret false
  else
  bif ((lAppend_r0 (lFormat_r0 (5 : Int)) ([(97 : UInt8), (98 : UInt8)] : List UInt8)).2.1 != (1 : Int)) then
    ret false
  else
  bif (dInterrupt_P (ran_r0 (dNew_r0 (5 : Int)) (lFormat_r1 (5 : Int)) (lFormat_r2 (5 : Int))) (lAppend_r1 (lFormat_r0 (5 : Int)) ([(97 : UInt8), (98 : UInt8)] : List UInt8)) (3 : Int) ([] : List Int)) then
  bif (lOpen_P (dInterrupt_r0 (ran_r0 (dNew_r0 (5 : Int)) (lFormat_r1 (5 : Int)) (lFormat_r2 (5 : Int))) (lAppend_r1 (lFormat_r0 (5 : Int)) ([(97 : UInt8), (98 : UInt8)] : List UInt8)) (3 : Int) ([] : List Int))) then
  bif (ran_P (ran_r0 (dNew_r0 (5 : Int)) (lFormat_r1 (5 : Int)) (lFormat_r2 (5 : Int))) (lAppend_r1 (lFormat_r0 (5 : Int)) ([(97 : UInt8), (98 : UInt8)] : List UInt8)) (0 : Int)) then
  bif (dRead_P (ran_r0 (ran_r0 (dNew_r0 (5 : Int)) (lFormat_r1 (5 : Int)) (lFormat_r2 (5 : Int))) (lAppend_r1 (lFormat_r0 (5 : Int)) ([(97 : UInt8), (98 : UInt8)] : List UInt8)) (0 : Int)) (2 : Int) (1 : Int)) then
  bif (lOpen_P (ran_r0 (ran_r0 (dNew_r0 (5 : Int)) (lFormat_r1 (5 : Int)) (lFormat_r2 (5 : Int))) (lAppend_r1 (lFormat_r0 (5 : Int)) ([(97 : UInt8), (98 : UInt8)] : List UInt8)) (0 : Int))) then
  bif (!(ran_r1 (ran_r0 (dNew_r0 (5 : Int)) (lFormat_r1 (5 : Int)) (lFormat_r2 (5 : Int))) (lAppend_r1 (lFormat_r0 (5 : Int)) ([(97 : UInt8), (98 : UInt8)] : List UInt8)) (0 : Int))) then
    ret false
  else
  bif ((addI (addI (addI (dInterrupt_r2 (ran_r0 (dNew_r0 (5 : Int)) (lFormat_r1 (5 : Int)) (lFormat_r2 (5 : Int))) (lAppend_r1 (lFormat_r0 (5 : Int)) ([(97 : UInt8), (98 : UInt8)] : List UInt8)) (3 : Int) ([] : List Int)) (lOpen_r2 (dInterrupt_r0 (ran_r0 (dNew_r0 (5 : Int)) (lFormat_r1 (5 : Int)) (lFormat_r2 (5 : Int))) (lAppend_r1 (lFormat_r0 (5 : Int)) ([(97 : UInt8), (98 : UInt8)] : List UInt8)) (3 : Int) ([] : List Int)))) (dRead_r1 (ran_r0 (ran_r0 (dNew_r0 (5 : Int)) (lFormat_r1 (5 : Int)) (lFormat_r2 (5 : Int))) (lAppend_r1 (lFormat_r0 (5 : Int)) ([(97 : UInt8), (98 : UInt8)] : List UInt8)) (0 : Int)) (2 : Int) (1 : Int))) (lOpen_r2 (ran_r0 (ran_r0 (dNew_r0 (5 : Int)) (lFormat_r1 (5 : Int)) (lFormat_r2 (5 : Int))) (lAppend_r1 (lFormat_r0 (5 : Int)) ([(97 : UInt8), (98 : UInt8)] : List UInt8)) (0 : Int)))) != (0 : Int)) then
    ret false
  else
  bif (!(beqT (.pair (.int .i64) (.pair (.int .i64) (.pair (.int .i64) .unit))) (lOpen_r0 (dInterrupt_r0 (ran_r0 (dNew_r0 (5 : Int)) (lFormat_r1 (5 : Int)) (lFormat_r2 (5 : Int))) (lAppend_r1 (lFormat_r0 (5 : Int)) ([(97 : UInt8), (98 : UInt8)] : List UInt8)) (3 : Int) ([] : List Int))) (lFormat_r0 (5 : Int)))) then
    ret false
  else
  bif ((((lOpen_r1 (dInterrupt_r0 (ran_r0 (dNew_r0 (5 : Int)) (lFormat_r1 (5 : Int)) (lFormat_r2 (5 : Int))) (lAppend_r1 (lFormat_r0 (5 : Int)) ([(97 : UInt8), (98 : UInt8)] : List UInt8)) (3 : Int) ([] : List Int))).length : Nat) : Int) != (0 : Int)) then
    ret false
  else
  bif (!(beqT (.pair (.int .i64) (.pair (.int .i64) (.pair (.int .i64) .unit))) (lOpen_r0 (ran_r0 (ran_r0 (dNew_r0 (5 : Int)) (lFormat_r1 (5 : Int)) (lFormat_r2 (5 : Int))) (lAppend_r1 (lFormat_r0 (5 : Int)) ([(97 : UInt8), (98 : UInt8)] : List UInt8)) (0 : Int))) (lAppend_r0 (lFormat_r0 (5 : Int)) ([(97 : UInt8), (98 : UInt8)] : List UInt8)))) then
    ret false
  else
  bif (qSameB_P (lOpen_r1 (ran_r0 (ran_r0 (dNew_r0 (5 : Int)) (lFormat_r1 (5 : Int)) (lFormat_r2 (5 : Int))) (lAppend_r1 (lFormat_r0 (5 : Int)) ([(97 : UInt8), (98 : UInt8)] : List UInt8)) (0 : Int))) ([([(97 : UInt8), (98 : UInt8)] : List UInt8)] : List (List UInt8))) then
  bif (!(qSameB_r (lOpen_r1 (ran_r0 (ran_r0 (dNew_r0 (5 : Int)) (lFormat_r1 (5 : Int)) (lFormat_r2 (5 : Int))) (lAppend_r1 (lFormat_r0 (5 : Int)) ([(97 : UInt8), (98 : UInt8)] : List UInt8)) (0 : Int))) ([([(97 : UInt8), (98 : UInt8)] : List UInt8)] : List (List UInt8)))) then
    ret false
  else
  bif ((((dRead_r0 (ran_r0 (ran_r0 (dNew_r0 (5 : Int)) (lFormat_r1 (5 : Int)) (lFormat_r2 (5 : Int))) (lAppend_r1 (lFormat_r0 (5 : Int)) ([(97 : UInt8), (98 : UInt8)] : List UInt8)) (0 : Int)) (2 : Int) (1 : Int)).length : Nat) : Int) == (1 : Int)) then
    bif (decide ((0 : Int) < (((dRead_r0 (ran_r0 (ran_r0 (dNew_r0 (5 : Int)) (lFormat_r1 (5 : Int)) (lFormat_r2 (5 : Int))) (lAppend_r1 (lFormat_r0 (5 : Int)) ([(97 : UInt8), (98 : UInt8)] : List UInt8)) (0 : Int)) (2 : Int) (1 : Int)).length : Nat) : Int))) then
    ret (beqT (.arr 16 (.int .u8)) (List.getD (dRead_r0 (ran_r0 (ran_r0 (dNew_r0 (5 : Int)) (lFormat_r1 (5 : Int)) (lFormat_r2 (5 : Int))) (lAppend_r1 (lFormat_r0 (5 : Int)) ([(97 : UInt8), (98 : UInt8)] : List UInt8)) (0 : Int)) (2 : Int) (1 : Int)) 0 z16) ([(2 : UInt8), (0 : UInt8), (0 : UInt8), (0 : UInt8), (1 : UInt8), (0 : UInt8), (0 : UInt8), (1 : UInt8), (0 : UInt8), (0 : UInt8), (0 : UInt8), (2 : UInt8), (158 : UInt8), (131 : UInt8), (72 : UInt8), (109 : UInt8)] : List UInt8))
    else fail
  else
  ret false
  else fail
  else fail
  else fail
  else fail
  else fail
  else fail
  else fail
  else fail
  else fail
  else fail
  else fail
  else fail
  else fail
  else fail

end Go.AI
