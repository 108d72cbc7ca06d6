/- Plain functions, printed by running the machine on symbols. -/
import Derived.Test.YtfpconfgbkoifaaCipherS
namespace Go.AI
open Go
set_option linter.unusedVariables false

def law47_awake {X : Type} (F : Nat)  (fail : X) (ret : Bool → X) : X :=
  bif (cBlock_P (List.replicate 32 (0 : UInt8)) (0 : Int) (0 : Int)) then
  bif (decide ((8 : Int) ≤ ((big : Nat) : Int))) then
  bif (cStream_P (List.replicate 32 (0 : UInt8)) (0 : Int) ([(0 : UInt8), (0 : UInt8), (0 : UInt8), (0 : UInt8), (0 : UInt8), (0 : UInt8), (0 : UInt8), (0 : UInt8)] : List UInt8)) then
  bif (cSeal_P ([(107 : UInt8)] : List UInt8) (5 : Int) ([] : List UInt8)) then
  bif ((addI (addI (cBlock_r1 (List.replicate 32 (0 : UInt8)) (0 : Int) (0 : Int)) (cStream_r1 (List.replicate 32 (0 : UInt8)) (0 : Int) ([(0 : UInt8), (0 : UInt8), (0 : UInt8), (0 : UInt8), (0 : UInt8), (0 : UInt8), (0 : UInt8), (0 : UInt8)] : List UInt8))) (cSeal_r1 ([(107 : UInt8)] : List UInt8) (5 : Int) ([] : List UInt8))) != (0 : Int)) then
    ret false
  else
  bif ((((cBlock_r0 (List.replicate 32 (0 : UInt8)) (0 : Int) (0 : Int)).length : Nat) : Int) != (64 : Int)) then
    ret false
  else
  bif ((((cSeal_r0 ([(107 : UInt8)] : List UInt8) (5 : Int) ([] : List UInt8)).length : Nat) : Int) != (16 : Int)) then
    ret false
  else
  bif (decide ((8 : Int) ≤ (((cBlock_r0 (List.replicate 32 (0 : UInt8)) (0 : Int) (0 : Int)).length : Nat) : Int))) then
  bif (!(bytes_Equal_r (List.take 8 (cBlock_r0 (List.replicate 32 (0 : UInt8)) (0 : Int) (0 : Int))) ([(118 : UInt8), (184 : UInt8), (224 : UInt8), (173 : UInt8), (160 : UInt8), (241 : UInt8), (61 : UInt8), (144 : UInt8)] : List UInt8))) then
    ret false
  else
  bif (!(bytes_Equal_r (cStream_r0 (List.replicate 32 (0 : UInt8)) (0 : Int) ([(0 : UInt8), (0 : UInt8), (0 : UInt8), (0 : UInt8), (0 : UInt8), (0 : UInt8), (0 : UInt8), (0 : UInt8)] : List UInt8)) ([(159 : UInt8), (7 : UInt8), (231 : UInt8), (190 : UInt8), (85 : UInt8), (81 : UInt8), (56 : UInt8), (122 : UInt8)] : List UInt8))) then
    ret false
  else
  bif (cOpen_P ([(107 : UInt8)] : List UInt8) (5 : Int) (cSeal_r0 ([(107 : UInt8)] : List UInt8) (5 : Int) ([] : List UInt8))) then
  bif (decide ((3 : Int) < (((cSeal_r0 ([(107 : UInt8)] : List UInt8) (5 : Int) ([] : List UInt8)).length : Nat) : Int))) then
  bif (decide ((3 : Int) < (((cSeal_r0 ([(107 : UInt8)] : List UInt8) (5 : Int) ([] : List UInt8)).length : Nat) : Int))) then
  bif (cOpen_P ([(107 : UInt8)] : List UInt8) (5 : Int) (List.set (cSeal_r0 ([(107 : UInt8)] : List UInt8) (5 : Int) ([] : List UInt8)) 3 (xorB (List.getD (cSeal_r0 ([(107 : UInt8)] : List UInt8) (5 : Int) ([] : List UInt8)) 3 (0 : UInt8)) (1 : UInt8)))) then
  bif ((cOpen_r1 ([(107 : UInt8)] : List UInt8) (5 : Int) (cSeal_r0 ([(107 : UInt8)] : List UInt8) (5 : Int) ([] : List UInt8))) == (0 : Int)) then
    bif ((((cOpen_r0 ([(107 : UInt8)] : List UInt8) (5 : Int) (cSeal_r0 ([(107 : UInt8)] : List UInt8) (5 : Int) ([] : List UInt8))).length : Nat) : Int) == (0 : Int)) then
      ret ((cOpen_r1 ([(107 : UInt8)] : List UInt8) (5 : Int) (List.set (cSeal_r0 ([(107 : UInt8)] : List UInt8) (5 : Int) ([] : List UInt8)) 3 (xorB (List.getD (cSeal_r0 ([(107 : UInt8)] : List UInt8) (5 : Int) ([] : List UInt8)) 3 (0 : UInt8)) (1 : UInt8)))) == (25 : Int))
    else
    ret false
  else
  ret false
  else fail
  else fail
  else fail
  else fail
  else fail
  else fail
  else fail
  else fail
  else fail

end Go.AI
