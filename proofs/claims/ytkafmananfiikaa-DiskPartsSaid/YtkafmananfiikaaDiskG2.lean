/- Plain functions, printed by running the machine on symbols. -/
import Derived.Test.YtkafmananfiikaaDiskS
namespace Go.AI
open Go
set_option linter.unusedVariables false

def lOps_l1 {X : Type} (F : Nat) (fail : X) (next : List (UInt8 × (UInt8 × (Bool × Unit))) → Int → List (Int × (Int × ((List (List UInt8)) × Unit))) → X) (ex0 : List (UInt8 × (UInt8 × (Bool × Unit))) → Int → List (Int × (Int × ((List (List UInt8)) × Unit))) → X) (l : List (UInt8 × (UInt8 × (Bool × Unit)))) (i : Int) (out : List (Int × (Int × ((List (List UInt8)) × Unit)))) : X :=
  bif (decide (i < ((l.length : Nat) : Int))) then
    bif ((decide ((0 : Int) ≤ i)) && (decide (i < ((l.length : Nat) : Int)))) then
    bif (List.getD l (i).toNat ((0 : UInt8), ((0 : UInt8), (false, ())))).2.2.1 then
      bif (decide ((out ++ ([((1 : Int), ((0 : Int), (([] : List (List UInt8)), ())))] : List (Int × (Int × ((List (List UInt8)) × Unit))))).length ≤ big)) then
      next l (addI i (1 : Int)) (out ++ ([((1 : Int), ((0 : Int), (([] : List (List UInt8)), ())))] : List (Int × (Int × ((List (List UInt8)) × Unit)))))
      else fail
    else
    bif ((decide ((0 : Int) ≤ i)) && (decide (i < ((l.length : Nat) : Int)))) then
    bif ((decide ((0 : Int) ≤ i)) && (decide (i < ((l.length : Nat) : Int)))) then
    bif (decide ((out ++ ([((0 : Int), ((cvBI (remB (List.getD l (i).toNat ((0 : UInt8), ((0 : UInt8), (false, ())))).1 (8 : UInt8))), (([([(List.getD l (i).toNat ((0 : UInt8), ((0 : UInt8), (false, ())))).2.1, (1 : UInt8), (0 : UInt8), (0 : UInt8), (0 : UInt8), (0 : UInt8), (0 : UInt8), (0 : UInt8), (0 : UInt8), (0 : UInt8), (0 : UInt8), (0 : UInt8), (0 : UInt8), (0 : UInt8), (0 : UInt8), (0 : UInt8)] : List UInt8)] : List (List UInt8)), ())))] : List (Int × (Int × ((List (List UInt8)) × Unit))))).length ≤ big)) then
    next l (addI i (1 : Int)) (out ++ ([((0 : Int), ((cvBI (remB (List.getD l (i).toNat ((0 : UInt8), ((0 : UInt8), (false, ())))).1 (8 : UInt8))), (([([(List.getD l (i).toNat ((0 : UInt8), ((0 : UInt8), (false, ())))).2.1, (1 : UInt8), (0 : UInt8), (0 : UInt8), (0 : UInt8), (0 : UInt8), (0 : UInt8), (0 : UInt8), (0 : UInt8), (0 : UInt8), (0 : UInt8), (0 : UInt8), (0 : UInt8), (0 : UInt8), (0 : UInt8), (0 : UInt8)] : List UInt8)] : List (List UInt8)), ())))] : List (Int × (Int × ((List (List UInt8)) × Unit)))))
    else fail
    else fail
    else fail
    else fail
  else
  ex0 l i out
def lOps_l1F {X : Type} (F : Nat) (fail : X) (ex0 : List (UInt8 × (UInt8 × (Bool × Unit))) → Int → List (Int × (Int × ((List (List UInt8)) × Unit))) → X) : Nat → List (UInt8 × (UInt8 × (Bool × Unit))) → Int → List (Int × (Int × ((List (List UInt8)) × Unit))) → X
  | 0, _, _, _ => fail
  | m + 1, l, i, out => lOps_l1 F fail (lOps_l1F F fail ex0 m) ex0 l i out

def lOps {X : Type} (F : Nat) (l : List (UInt8 × (UInt8 × (Bool × Unit)))) (fail : X) (ret : List (Int × (Int × ((List (List UInt8)) × Unit))) → X) : X :=
  lOps_l1F F fail
    (fun (l1 : List (UInt8 × (UInt8 × (Bool × Unit)))) (i : Int) (out : List (Int × (Int × ((List (List UInt8)) × Unit)))) =>
      ret out)
    F l (0 : Int) ([] : List (Int × (Int × ((List (List UInt8)) × Unit))))

def lBehind {X : Type} (F : Nat) (l : List (UInt8 × (UInt8 × (Bool × Unit)))) (fail : X) (ret : ((List (List UInt8)) × ((List (Int × ((List UInt8) × Unit))) × Unit)) → Bool → X) : X :=
  bif (dNew_P (8 : Int)) then
  bif (lOps_P l) then
  bif (dRun_P (dNew_r0 (8 : Int)) (lOps_r l)) then
  bif ((dNew_r1 (8 : Int)) == (0 : Int)) then
    bif ((dRun_r2 (dNew_r0 (8 : Int)) (lOps_r l)) == (0 : Int)) then
      ret (dRun_r0 (dNew_r0 (8 : Int)) (lOps_r l)) ((dRun_r1 (dNew_r0 (8 : Int)) (lOps_r l)) == ((l.length : Nat) : Int))
    else
    ret (dRun_r0 (dNew_r0 (8 : Int)) (lOps_r l)) false
  else
  ret (dRun_r0 (dNew_r0 (8 : Int)) (lOps_r l)) false
  else fail
  else fail
  else fail

def lExample {X : Type} (F : Nat)  (fail : X) (ret : ((List (List UInt8)) × ((List (Int × ((List UInt8) × Unit))) × Unit)) → Bool → X) : X :=
  bif (dNew_P (3 : Int)) then
  bif (dRun_P (dNew_r0 (3 : Int)) ([((0 : Int), ((1 : Int), (([([(1 : UInt8), (0 : UInt8), (0 : UInt8), (0 : UInt8), (0 : UInt8), (0 : UInt8), (0 : UInt8), (0 : UInt8), (0 : UInt8), (0 : UInt8), (0 : UInt8), (0 : UInt8), (0 : UInt8), (0 : UInt8), (0 : UInt8), (0 : UInt8)] : List UInt8)] : List (List UInt8)), ()))), ((0 : Int), ((1 : Int), (([([(2 : UInt8), (0 : UInt8), (0 : UInt8), (0 : UInt8), (0 : UInt8), (0 : UInt8), (0 : UInt8), (0 : UInt8), (0 : UInt8), (0 : UInt8), (0 : UInt8), (0 : UInt8), (0 : UInt8), (0 : UInt8), (0 : UInt8), (0 : UInt8)] : List UInt8)] : List (List UInt8)), ()))), ((0 : Int), ((0 : Int), (([([(3 : UInt8), (0 : UInt8), (0 : UInt8), (0 : UInt8), (0 : UInt8), (0 : UInt8), (0 : UInt8), (0 : UInt8), (0 : UInt8), (0 : UInt8), (0 : UInt8), (0 : UInt8), (0 : UInt8), (0 : UInt8), (0 : UInt8), (0 : UInt8)] : List UInt8)] : List (List UInt8)), ())))] : List (Int × (Int × ((List (List UInt8)) × Unit))))) then
  bif ((dNew_r1 (3 : Int)) == (0 : Int)) then
    bif ((dRun_r2 (dNew_r0 (3 : Int)) ([((0 : Int), ((1 : Int), (([([(1 : UInt8), (0 : UInt8), (0 : UInt8), (0 : UInt8), (0 : UInt8), (0 : UInt8), (0 : UInt8), (0 : UInt8), (0 : UInt8), (0 : UInt8), (0 : UInt8), (0 : UInt8), (0 : UInt8), (0 : UInt8), (0 : UInt8), (0 : UInt8)] : List UInt8)] : List (List UInt8)), ()))), ((0 : Int), ((1 : Int), (([([(2 : UInt8), (0 : UInt8), (0 : UInt8), (0 : UInt8), (0 : UInt8), (0 : UInt8), (0 : UInt8), (0 : UInt8), (0 : UInt8), (0 : UInt8), (0 : UInt8), (0 : UInt8), (0 : UInt8), (0 : UInt8), (0 : UInt8), (0 : UInt8)] : List UInt8)] : List (List UInt8)), ()))), ((0 : Int), ((0 : Int), (([([(3 : UInt8), (0 : UInt8), (0 : UInt8), (0 : UInt8), (0 : UInt8), (0 : UInt8), (0 : UInt8), (0 : UInt8), (0 : UInt8), (0 : UInt8), (0 : UInt8), (0 : UInt8), (0 : UInt8), (0 : UInt8), (0 : UInt8), (0 : UInt8)] : List UInt8)] : List (List UInt8)), ())))] : List (Int × (Int × ((List (List UInt8)) × Unit))))) == (0 : Int)) then
      ret (dRun_r0 (dNew_r0 (3 : Int)) ([((0 : Int), ((1 : Int), (([([(1 : UInt8), (0 : UInt8), (0 : UInt8), (0 : UInt8), (0 : UInt8), (0 : UInt8), (0 : UInt8), (0 : UInt8), (0 : UInt8), (0 : UInt8), (0 : UInt8), (0 : UInt8), (0 : UInt8), (0 : UInt8), (0 : UInt8), (0 : UInt8)] : List UInt8)] : List (List UInt8)), ()))), ((0 : Int), ((1 : Int), (([([(2 : UInt8), (0 : UInt8), (0 : UInt8), (0 : UInt8), (0 : UInt8), (0 : UInt8), (0 : UInt8), (0 : UInt8), (0 : UInt8), (0 : UInt8), (0 : UInt8), (0 : UInt8), (0 : UInt8), (0 : UInt8), (0 : UInt8), (0 : UInt8)] : List UInt8)] : List (List UInt8)), ()))), ((0 : Int), ((0 : Int), (([([(3 : UInt8), (0 : UInt8), (0 : UInt8), (0 : UInt8), (0 : UInt8), (0 : UInt8), (0 : UInt8), (0 : UInt8), (0 : UInt8), (0 : UInt8), (0 : UInt8), (0 : UInt8), (0 : UInt8), (0 : UInt8), (0 : UInt8), (0 : UInt8)] : List UInt8)] : List (List UInt8)), ())))] : List (Int × (Int × ((List (List UInt8)) × Unit))))) ((dRun_r1 (dNew_r0 (3 : Int)) ([((0 : Int), ((1 : Int), (([([(1 : UInt8), (0 : UInt8), (0 : UInt8), (0 : UInt8), (0 : UInt8), (0 : UInt8), (0 : UInt8), (0 : UInt8), (0 : UInt8), (0 : UInt8), (0 : UInt8), (0 : UInt8), (0 : UInt8), (0 : UInt8), (0 : UInt8), (0 : UInt8)] : List UInt8)] : List (List UInt8)), ()))), ((0 : Int), ((1 : Int), (([([(2 : UInt8), (0 : UInt8), (0 : UInt8), (0 : UInt8), (0 : UInt8), (0 : UInt8), (0 : UInt8), (0 : UInt8), (0 : UInt8), (0 : UInt8), (0 : UInt8), (0 : UInt8), (0 : UInt8), (0 : UInt8), (0 : UInt8), (0 : UInt8)] : List UInt8)] : List (List UInt8)), ()))), ((0 : Int), ((0 : Int), (([([(3 : UInt8), (0 : UInt8), (0 : UInt8), (0 : UInt8), (0 : UInt8), (0 : UInt8), (0 : UInt8), (0 : UInt8), (0 : UInt8), (0 : UInt8), (0 : UInt8), (0 : UInt8), (0 : UInt8), (0 : UInt8), (0 : UInt8), (0 : UInt8)] : List UInt8)] : List (List UInt8)), ())))] : List (Int × (Int × ((List (List UInt8)) × Unit))))) == (3 : Int))
    else
    ret (dRun_r0 (dNew_r0 (3 : Int)) ([((0 : Int), ((1 : Int), (([([(1 : UInt8), (0 : UInt8), (0 : UInt8), (0 : UInt8), (0 : UInt8), (0 : UInt8), (0 : UInt8), (0 : UInt8), (0 : UInt8), (0 : UInt8), (0 : UInt8), (0 : UInt8), (0 : UInt8), (0 : UInt8), (0 : UInt8), (0 : UInt8)] : List UInt8)] : List (List UInt8)), ()))), ((0 : Int), ((1 : Int), (([([(2 : UInt8), (0 : UInt8), (0 : UInt8), (0 : UInt8), (0 : UInt8), (0 : UInt8), (0 : UInt8), (0 : UInt8), (0 : UInt8), (0 : UInt8), (0 : UInt8), (0 : UInt8), (0 : UInt8), (0 : UInt8), (0 : UInt8), (0 : UInt8)] : List UInt8)] : List (List UInt8)), ()))), ((0 : Int), ((0 : Int), (([([(3 : UInt8), (0 : UInt8), (0 : UInt8), (0 : UInt8), (0 : UInt8), (0 : UInt8), (0 : UInt8), (0 : UInt8), (0 : UInt8), (0 : UInt8), (0 : UInt8), (0 : UInt8), (0 : UInt8), (0 : UInt8), (0 : UInt8), (0 : UInt8)] : List UInt8)] : List (List UInt8)), ())))] : List (Int × (Int × ((List (List UInt8)) × Unit))))) false
  else
  ret (dRun_r0 (dNew_r0 (3 : Int)) ([((0 : Int), ((1 : Int), (([([(1 : UInt8), (0 : UInt8), (0 : UInt8), (0 : UInt8), (0 : UInt8), (0 : UInt8), (0 : UInt8), (0 : UInt8), (0 : UInt8), (0 : UInt8), (0 : UInt8), (0 : UInt8), (0 : UInt8), (0 : UInt8), (0 : UInt8), (0 : UInt8)] : List UInt8)] : List (List UInt8)), ()))), ((0 : Int), ((1 : Int), (([([(2 : UInt8), (0 : UInt8), (0 : UInt8), (0 : UInt8), (0 : UInt8), (0 : UInt8), (0 : UInt8), (0 : UInt8), (0 : UInt8), (0 : UInt8), (0 : UInt8), (0 : UInt8), (0 : UInt8), (0 : UInt8), (0 : UInt8), (0 : UInt8)] : List UInt8)] : List (List UInt8)), ()))), ((0 : Int), ((0 : Int), (([([(3 : UInt8), (0 : UInt8), (0 : UInt8), (0 : UInt8), (0 : UInt8), (0 : UInt8), (0 : UInt8), (0 : UInt8), (0 : UInt8), (0 : UInt8), (0 : UInt8), (0 : UInt8), (0 : UInt8), (0 : UInt8), (0 : UInt8), (0 : UInt8)] : List UInt8)] : List (List UInt8)), ())))] : List (Int × (Int × ((List (List UInt8)) × Unit))))) false
  else fail
  else fail

def lCrashed {X : Type} (F : Nat) (d_ : ((List (List UInt8)) × ((List (Int × ((List UInt8) × Unit))) × Unit))) (choices : List Int) (a : UInt8) (b : UInt8) (fail : X) (ret : Bool → X) : X :=
  bif (dCrash_P d_ choices) then
  bif ((dCrash_r2 d_ choices) == (0 : Int)) then
    bif (rSamePages_P (dCrash_r0 d_ choices).1 ([([a, (0 : UInt8), (0 : UInt8), (0 : UInt8), (0 : UInt8), (0 : UInt8), (0 : UInt8), (0 : UInt8), (0 : UInt8), (0 : UInt8), (0 : UInt8), (0 : UInt8), (0 : UInt8), (0 : UInt8), (0 : UInt8), (0 : UInt8)] : List UInt8), ([b, (0 : UInt8), (0 : UInt8), (0 : UInt8), (0 : UInt8), (0 : UInt8), (0 : UInt8), (0 : UInt8), (0 : UInt8), (0 : UInt8), (0 : UInt8), (0 : UInt8), (0 : UInt8), (0 : UInt8), (0 : UInt8), (0 : UInt8)] : List UInt8), z16] : List (List UInt8))) then
    bif (rSamePages_r (dCrash_r0 d_ choices).1 ([([a, (0 : UInt8), (0 : UInt8), (0 : UInt8), (0 : UInt8), (0 : UInt8), (0 : UInt8), (0 : UInt8), (0 : UInt8), (0 : UInt8), (0 : UInt8), (0 : UInt8), (0 : UInt8), (0 : UInt8), (0 : UInt8), (0 : UInt8)] : List UInt8), ([b, (0 : UInt8), (0 : UInt8), (0 : UInt8), (0 : UInt8), (0 : UInt8), (0 : UInt8), (0 : UInt8), (0 : UInt8), (0 : UInt8), (0 : UInt8), (0 : UInt8), (0 : UInt8), (0 : UInt8), (0 : UInt8), (0 : UInt8)] : List UInt8), z16] : List (List UInt8))) then
      ret ((((dCrash_r0 d_ choices).2.1.length : Nat) : Int) == (0 : Int))
    else
    ret false
    else fail
  else
  ret false
  else fail

def law48_awake {X : Type} (F : Nat)  (fail : X) (ret : Bool → X) : X :=
  bif (lExample_P) then
  bif (dRead_P (lExample_r0) (0 : Int) (2 : Int)) then
  bif (lExample_r1) then
    bif ((dRead_r1 (lExample_r0) (0 : Int) (2 : Int)) == (0 : Int)) then
      bif (rSamePages_P (dRead_r0 (lExample_r0) (0 : Int) (2 : Int)) ([([(3 : UInt8), (0 : UInt8), (0 : UInt8), (0 : UInt8), (0 : UInt8), (0 : UInt8), (0 : UInt8), (0 : UInt8), (0 : UInt8), (0 : UInt8), (0 : UInt8), (0 : UInt8), (0 : UInt8), (0 : UInt8), (0 : UInt8), (0 : UInt8)] : List UInt8), ([(2 : UInt8), (0 : UInt8), (0 : UInt8), (0 : UInt8), (0 : UInt8), (0 : UInt8), (0 : UInt8), (0 : UInt8), (0 : UInt8), (0 : UInt8), (0 : UInt8), (0 : UInt8), (0 : UInt8), (0 : UInt8), (0 : UInt8), (0 : UInt8)] : List UInt8)] : List (List UInt8))) then
      bif (rSamePages_r (dRead_r0 (lExample_r0) (0 : Int) (2 : Int)) ([([(3 : UInt8), (0 : UInt8), (0 : UInt8), (0 : UInt8), (0 : UInt8), (0 : UInt8), (0 : UInt8), (0 : UInt8), (0 : UInt8), (0 : UInt8), (0 : UInt8), (0 : UInt8), (0 : UInt8), (0 : UInt8), (0 : UInt8), (0 : UInt8)] : List UInt8), ([(2 : UInt8), (0 : UInt8), (0 : UInt8), (0 : UInt8), (0 : UInt8), (0 : UInt8), (0 : UInt8), (0 : UInt8), (0 : UInt8), (0 : UInt8), (0 : UInt8), (0 : UInt8), (0 : UInt8), (0 : UInt8), (0 : UInt8), (0 : UInt8)] : List UInt8)] : List (List UInt8))) then
        bif (lCrashed_P (lExample_r0) ([(2 : Int), (1 : Int)] : List Int) (3 : UInt8) (2 : UInt8)) then
        bif (lCrashed_r (lExample_r0) ([(2 : Int), (1 : Int)] : List Int) (3 : UInt8) (2 : UInt8)) then
          bif (lCrashed_P (lExample_r0) ([(1 : Int)] : List Int) (0 : UInt8) (1 : UInt8)) then
          bif (lCrashed_r (lExample_r0) ([(1 : Int)] : List Int) (0 : UInt8) (1 : UInt8)) then
            bif (lCrashed_P (lExample_r0) ([] : List Int) (0 : UInt8) (0 : UInt8)) then
            bif (lCrashed_r (lExample_r0) ([] : List Int) (0 : UInt8) (0 : UInt8)) then
              bif (lCrashed_P (lExample_r0) ([(-1 : Int)] : List Int) (0 : UInt8) (2 : UInt8)) then
              ret (lCrashed_r (lExample_r0) ([(-1 : Int)] : List Int) (0 : UInt8) (2 : UInt8))
              else fail
            else
            ret false
            else fail
          else
          ret false
          else fail
        else
        ret false
        else fail
      else
      ret false
      else fail
    else
    ret false
  else
  ret false
  else fail
  else fail

end Go.AI
