/- Plain functions, printed by running the machine on symbols. -/
import Derived.Test.YtkafmananfiikaaDiskS
namespace Go.AI
open Go
set_option linter.unusedVariables false

def DiskReads {X : Type} (F : Nat) (d_ : ((List (List UInt8)) × ((List (Int × ((List UInt8) × Unit))) × Unit))) (at_ : Int) (count : Int) (fail : X) (ret : Bool → X) : X :=
  bif (!(rFew_r d_)) then
    ret (law48_awake_r)
  else
  bif (dRead_P d_ at_ count) then
  bif (rRead_P d_ at_ count) then
  bif (dNew_P count) then
  bif (rNew_P count) then
  bif (law48_awake_r) then
    bif (rSamePages_P (dRead_r0 d_ at_ count) (rRead_r0 d_ at_ count)) then
    bif (rSamePages_r (dRead_r0 d_ at_ count) (rRead_r0 d_ at_ count)) then
      bif ((dRead_r1 d_ at_ count) == (rRead_r1 d_ at_ count)) then
        bif (rSame_P (dNew_r0 count) (rNew_r0 count)) then
        bif (rSame_r (dNew_r0 count) (rNew_r0 count)) then
          bif ((dNew_r1 count) == (rNew_r1 count)) then
            bif (dCheck_P d_) then
            bif (rCheck_P d_) then
            ret ((dCheck_r d_) == (rCheck_r d_))
            else fail
            else fail
          else
          ret false
        else
        ret false
        else fail
      else
      ret false
    else
    ret false
    else fail
  else
  ret false
  else fail
  else fail
  else fail
  else fail

def DiskRuns {X : Type} (F : Nat) (d_ : ((List (List UInt8)) × ((List (Int × ((List UInt8) × Unit))) × Unit))) (l : List (Int × (Int × ((List (List UInt8)) × Unit)))) (fail : X) (ret : Bool → X) : X :=
  bif (!(rFew_r d_)) then
    ret (law48_awake_r)
  else
  bif (rFewOps_P l) then
  bif (!(rFewOps_r l)) then
    ret (law48_awake_r)
  else
  bif (dRun_P d_ l) then
  bif (rRun_P d_ l) then
  bif (law48_awake_r) then
    bif (rSame_P (dRun_r0 d_ l) (rRun_r0 d_ l)) then
    bif (rSame_r (dRun_r0 d_ l) (rRun_r0 d_ l)) then
      bif ((dRun_r1 d_ l) == (rRun_r1 d_ l)) then
        ret ((dRun_r2 d_ l) == (rRun_r2 d_ l))
      else
      ret false
    else
    ret false
    else fail
  else
  ret false
  else fail
  else fail
  else fail

def DiskReturns_l1 {X : Type} (F : Nat) (fail : X) (next : List (UInt8 × (UInt8 × (Bool × Unit))) → UInt8 → Bool → Int → ((List (List UInt8)) × ((List (Int × ((List UInt8) × Unit))) × Unit)) → List UInt8 → X) (ex0 : List (UInt8 × (UInt8 × (Bool × Unit))) → UInt8 → Bool → Int → ((List (List UInt8)) × ((List (Int × ((List UInt8) × Unit))) × Unit)) → List UInt8 → X) (l : List (UInt8 × (UInt8 × (Bool × Unit)))) (at_ : UInt8) (ok : Bool) (i : Int) (d_ : ((List (List UInt8)) × ((List (Int × ((List UInt8) × Unit))) × Unit))) (want : List UInt8) : X :=
  bif (decide (i < ((l.length : Nat) : Int))) then
    bif ((decide ((0 : Int) ≤ i)) && (decide (i < ((l.length : Nat) : Int)))) then
    bif (!(List.getD l (i).toNat ((0 : UInt8), ((0 : UInt8), (false, ())))).2.2.1) then
      bif ((decide ((0 : Int) ≤ i)) && (decide (i < ((l.length : Nat) : Int)))) then
      bif (((((remB (List.getD l (i).toNat ((0 : UInt8), ((0 : UInt8), (false, ())))).1 (8 : UInt8))).toNat : Nat) : Int) == ((((remB at_ (8 : UInt8))).toNat : Nat) : Int)) then
        bif ((decide ((0 : Int) ≤ i)) && (decide (i < ((l.length : Nat) : Int)))) then
        next l at_ ok (addI i (1 : Int)) d_ ([(List.getD l (i).toNat ((0 : UInt8), ((0 : UInt8), (false, ())))).2.1, (1 : UInt8), (0 : UInt8), (0 : UInt8), (0 : UInt8), (0 : UInt8), (0 : UInt8), (0 : UInt8), (0 : UInt8), (0 : UInt8), (0 : UInt8), (0 : UInt8), (0 : UInt8), (0 : UInt8), (0 : UInt8), (0 : UInt8)] : List UInt8)
        else fail
      else
      next l at_ ok (addI i (1 : Int)) d_ want
      else fail
    else
    next l at_ ok (addI i (1 : Int)) d_ want
    else fail
  else
  ex0 l at_ ok i d_ want
def DiskReturns_l1F {X : Type} (F : Nat) (fail : X) (ex0 : List (UInt8 × (UInt8 × (Bool × Unit))) → UInt8 → Bool → Int → ((List (List UInt8)) × ((List (Int × ((List UInt8) × Unit))) × Unit)) → List UInt8 → X) : Nat → List (UInt8 × (UInt8 × (Bool × Unit))) → UInt8 → Bool → Int → ((List (List UInt8)) × ((List (Int × ((List UInt8) × Unit))) × Unit)) → List UInt8 → X
  | 0, _, _, _, _, _, _ => fail
  | m + 1, l, at_, ok, i, d_, want => DiskReturns_l1 F fail (DiskReturns_l1F F fail ex0 m) ex0 l at_ ok i d_ want

def DiskReturns {X : Type} (F : Nat) (l : List (UInt8 × (UInt8 × (Bool × Unit)))) (at_ : UInt8) (fail : X) (ret : Bool → X) : X :=
  bif (decide (((l.length : Nat) : Int) > (40 : Int))) then
    ret (law48_awake_r)
  else
  bif (lBehind_P l) then
  DiskReturns_l1F F fail
    (fun (l1 : List (UInt8 × (UInt8 × (Bool × Unit)))) (at_1 : UInt8) (ok : Bool) (i : Int) (d_ : ((List (List UInt8)) × ((List (Int × ((List UInt8) × Unit))) × Unit))) (want : List UInt8) =>
      bif (dRead_P d_ (cvBI (remB at_1 (8 : UInt8))) (1 : Int)) then
      bif (law48_awake_r) then
        bif ok then
          bif ((dRead_r1 d_ (cvBI (remB at_1 (8 : UInt8))) (1 : Int)) == (0 : Int)) then
            bif ((((dRead_r0 d_ (cvBI (remB at_1 (8 : UInt8))) (1 : Int)).length : Nat) : Int) == (1 : Int)) then
              bif (decide ((0 : Int) < (((dRead_r0 d_ (cvBI (remB at_1 (8 : UInt8))) (1 : Int)).length : Nat) : Int))) then
              ret (beqT (.arr 16 (.int .u8)) (List.getD (dRead_r0 d_ (cvBI (remB at_1 (8 : UInt8))) (1 : Int)) 0 z16) want)
              else fail
            else
            ret false
          else
          ret false
        else
        ret false
      else
      ret false
      else fail)
    F l at_ (lBehind_r1 l) (0 : Int) (lBehind_r0 l) z16
  else fail

def DiskSurvives_l2 {X : Type} (F : Nat) (fail : X) (next : List (UInt8 × (UInt8 × (Bool × Unit))) → List Int → Bool → Int → Bool → Int → ((List (List UInt8)) × ((List (Int × ((List UInt8) × Unit))) × Unit)) → ((List (List UInt8)) × ((List (Int × ((List UInt8) × Unit))) × Unit)) → List UInt8 → List UInt8 → X) (ex0 : List (UInt8 × (UInt8 × (Bool × Unit))) → List Int → Bool → Int → Bool → Int → ((List (List UInt8)) × ((List (Int × ((List UInt8) × Unit))) × Unit)) → ((List (List UInt8)) × ((List (Int × ((List UInt8) × Unit))) × Unit)) → List UInt8 → List UInt8 → X) (l : List (UInt8 × (UInt8 × (Bool × Unit)))) (choices : List Int) (s4 : Bool) (at_ : Int) (allowed : Bool) (i : Int) (d_ : ((List (List UInt8)) × ((List (Int × ((List UInt8) × Unit))) × Unit))) (x_ : ((List (List UInt8)) × ((List (Int × ((List UInt8) × Unit))) × Unit))) (stable : List UInt8) (last : List UInt8) : X :=
  bif (decide (i < ((l.length : Nat) : Int))) then
    bif ((decide ((0 : Int) ≤ i)) && (decide (i < ((l.length : Nat) : Int)))) then
    bif (List.getD l (i).toNat ((0 : UInt8), ((0 : UInt8), (false, ())))).2.2.1 then
      next l choices s4 at_ false (addI i (1 : Int)) d_ x_ last last
    else
    bif ((decide ((0 : Int) ≤ i)) && (decide (i < ((l.length : Nat) : Int)))) then
    bif ((cvBI (remB (List.getD l (i).toNat ((0 : UInt8), ((0 : UInt8), (false, ())))).1 (8 : UInt8))) == at_) then
      bif ((decide ((0 : Int) ≤ i)) && (decide (i < ((l.length : Nat) : Int)))) then
      bif allowed then
        next l choices s4 at_ true (addI i (1 : Int)) d_ x_ stable ([(List.getD l (i).toNat ((0 : UInt8), ((0 : UInt8), (false, ())))).2.1, (1 : UInt8), (0 : UInt8), (0 : UInt8), (0 : UInt8), (0 : UInt8), (0 : UInt8), (0 : UInt8), (0 : UInt8), (0 : UInt8), (0 : UInt8), (0 : UInt8), (0 : UInt8), (0 : UInt8), (0 : UInt8), (0 : UInt8)] : List UInt8)
      else
      bif ((decide ((0 : Int) ≤ at_)) && (decide (at_ < ((x_.1.length : Nat) : Int)))) then
      next l choices s4 at_ (beqT (.arr 16 (.int .u8)) (List.getD x_.1 (at_).toNat z16) ([(List.getD l (i).toNat ((0 : UInt8), ((0 : UInt8), (false, ())))).2.1, (1 : UInt8), (0 : UInt8), (0 : UInt8), (0 : UInt8), (0 : UInt8), (0 : UInt8), (0 : UInt8), (0 : UInt8), (0 : UInt8), (0 : UInt8), (0 : UInt8), (0 : UInt8), (0 : UInt8), (0 : UInt8), (0 : UInt8)] : List UInt8)) (addI i (1 : Int)) d_ x_ stable ([(List.getD l (i).toNat ((0 : UInt8), ((0 : UInt8), (false, ())))).2.1, (1 : UInt8), (0 : UInt8), (0 : UInt8), (0 : UInt8), (0 : UInt8), (0 : UInt8), (0 : UInt8), (0 : UInt8), (0 : UInt8), (0 : UInt8), (0 : UInt8), (0 : UInt8), (0 : UInt8), (0 : UInt8), (0 : UInt8)] : List UInt8)
      else fail
      else fail
    else
    next l choices s4 at_ allowed (addI i (1 : Int)) d_ x_ stable last
    else fail
    else fail
  else
  ex0 l choices s4 at_ allowed i d_ x_ stable last
def DiskSurvives_l2F {X : Type} (F : Nat) (fail : X) (ex0 : List (UInt8 × (UInt8 × (Bool × Unit))) → List Int → Bool → Int → Bool → Int → ((List (List UInt8)) × ((List (Int × ((List UInt8) × Unit))) × Unit)) → ((List (List UInt8)) × ((List (Int × ((List UInt8) × Unit))) × Unit)) → List UInt8 → List UInt8 → X) : Nat → List (UInt8 × (UInt8 × (Bool × Unit))) → List Int → Bool → Int → Bool → Int → ((List (List UInt8)) × ((List (Int × ((List UInt8) × Unit))) × Unit)) → ((List (List UInt8)) × ((List (Int × ((List UInt8) × Unit))) × Unit)) → List UInt8 → List UInt8 → X
  | 0, _, _, _, _, _, _, _, _, _, _ => fail
  | m + 1, l, choices, s4, at_, allowed, i, d_, x_, stable, last => DiskSurvives_l2 F fail (DiskSurvives_l2F F fail ex0 m) ex0 l choices s4 at_ allowed i d_ x_ stable last

def DiskSurvives_l1 {X : Type} (F : Nat) (fail : X) (next : List (UInt8 × (UInt8 × (Bool × Unit))) → List Int → Bool → Int → ((List (List UInt8)) × ((List (Int × ((List UInt8) × Unit))) × Unit)) → ((List (List UInt8)) × ((List (Int × ((List UInt8) × Unit))) × Unit)) → X) (ex0 : List (UInt8 × (UInt8 × (Bool × Unit))) → List Int → Bool → Int → ((List (List UInt8)) × ((List (Int × ((List UInt8) × Unit))) × Unit)) → ((List (List UInt8)) × ((List (Int × ((List UInt8) × Unit))) × Unit)) → X) (ex1 : List (UInt8 × (UInt8 × (Bool × Unit))) → List Int → Bool → Int → ((List (List UInt8)) × ((List (Int × ((List UInt8) × Unit))) × Unit)) → ((List (List UInt8)) × ((List (Int × ((List UInt8) × Unit))) × Unit)) → X) (l : List (UInt8 × (UInt8 × (Bool × Unit)))) (choices : List Int) (s4 : Bool) (at_ : Int) (d_ : ((List (List UInt8)) × ((List (Int × ((List UInt8) × Unit))) × Unit))) (x_ : ((List (List UInt8)) × ((List (Int × ((List UInt8) × Unit))) × Unit))) : X :=
  bif (decide (at_ < (8 : Int))) then
    DiskSurvives_l2F F fail
      (fun (l1 : List (UInt8 × (UInt8 × (Bool × Unit)))) (choices1 : List Int) (s41 : Bool) (at_1 : Int) (allowed : Bool) (i : Int) (d_1 : ((List (List UInt8)) × ((List (Int × ((List UInt8) × Unit))) × Unit))) (x_1 : ((List (List UInt8)) × ((List (Int × ((List UInt8) × Unit))) × Unit))) (stable : List UInt8) (last : List UInt8) =>
        bif (!allowed) then
          bif ((decide ((0 : Int) ≤ at_1)) && (decide (at_1 < ((x_1.1.length : Nat) : Int)))) then
          bif (!(beqT (.arr 16 (.int .u8)) (List.getD x_1.1 (at_1).toNat z16) stable)) then
            ex0 l1 choices1 false at_1 d_1 x_1
          else
          next l1 choices1 s41 (addI at_1 (1 : Int)) d_1 x_1
          else fail
        else
        next l1 choices1 s41 (addI at_1 (1 : Int)) d_1 x_1)
      F l choices s4 at_ false (0 : Int) d_ x_ z16 z16
  else
  ex1 l choices s4 at_ d_ x_
def DiskSurvives_l1F {X : Type} (F : Nat) (fail : X) (ex0 : List (UInt8 × (UInt8 × (Bool × Unit))) → List Int → Bool → Int → ((List (List UInt8)) × ((List (Int × ((List UInt8) × Unit))) × Unit)) → ((List (List UInt8)) × ((List (Int × ((List UInt8) × Unit))) × Unit)) → X) (ex1 : List (UInt8 × (UInt8 × (Bool × Unit))) → List Int → Bool → Int → ((List (List UInt8)) × ((List (Int × ((List UInt8) × Unit))) × Unit)) → ((List (List UInt8)) × ((List (Int × ((List UInt8) × Unit))) × Unit)) → X) : Nat → List (UInt8 × (UInt8 × (Bool × Unit))) → List Int → Bool → Int → ((List (List UInt8)) × ((List (Int × ((List UInt8) × Unit))) × Unit)) → ((List (List UInt8)) × ((List (Int × ((List UInt8) × Unit))) × Unit)) → X
  | 0, _, _, _, _, _, _ => fail
  | m + 1, l, choices, s4, at_, d_, x_ => DiskSurvives_l1 F fail (DiskSurvives_l1F F fail ex0 ex1 m) ex0 ex1 l choices s4 at_ d_ x_

def DiskSurvives {X : Type} (F : Nat) (l : List (UInt8 × (UInt8 × (Bool × Unit)))) (choices : List Int) (fail : X) (ret : Bool → X) : X :=
  bif (decide (((l.length : Nat) : Int) > (40 : Int))) then
    ret (law48_awake_r)
  else
  bif (decide (((choices.length : Nat) : Int) > (60 : Int))) then
    ret (law48_awake_r)
  else
  bif (lBehind_P l) then
  bif (dCrash_P (lBehind_r0 l) choices) then
  bif (!(lBehind_r1 l)) then
    ret false
  else
  bif ((dCrash_r2 (lBehind_r0 l) choices) != (0 : Int)) then
    ret false
  else
  bif ((((dCrash_r0 (lBehind_r0 l) choices).1.length : Nat) : Int) != (8 : Int)) then
    ret false
  else
  bif ((((dCrash_r0 (lBehind_r0 l) choices).2.1.length : Nat) : Int) != (0 : Int)) then
    ret false
  else
  DiskSurvives_l1F F fail
    (fun (l1 : List (UInt8 × (UInt8 × (Bool × Unit)))) (choices1 : List Int) (s4 : Bool) (at_ : Int) (d_ : ((List (List UInt8)) × ((List (Int × ((List UInt8) × Unit))) × Unit))) (x_ : ((List (List UInt8)) × ((List (Int × ((List UInt8) × Unit))) × Unit))) =>
      ret s4)
    (fun (l2 : List (UInt8 × (UInt8 × (Bool × Unit)))) (choices2 : List Int) (s41 : Bool) (at_1 : Int) (d_1 : ((List (List UInt8)) × ((List (Int × ((List UInt8) × Unit))) × Unit))) (x_1 : ((List (List UInt8)) × ((List (Int × ((List UInt8) × Unit))) × Unit))) =>
      bif (dRun_P d_1 ([((1 : Int), ((0 : Int), (([] : List (List UInt8)), ())))] : List (Int × (Int × ((List (List UInt8)) × Unit))))) then
      bif (dCrash_P (dRun_r0 d_1 ([((1 : Int), ((0 : Int), (([] : List (List UInt8)), ())))] : List (Int × (Int × ((List (List UInt8)) × Unit))))) choices2) then
      bif (law48_awake_r) then
        bif ((dRun_r2 d_1 ([((1 : Int), ((0 : Int), (([] : List (List UInt8)), ())))] : List (Int × (Int × ((List (List UInt8)) × Unit))))) == (0 : Int)) then
          bif ((dCrash_r2 (dRun_r0 d_1 ([((1 : Int), ((0 : Int), (([] : List (List UInt8)), ())))] : List (Int × (Int × ((List (List UInt8)) × Unit))))) choices2) == (0 : Int)) then
            bif (rSame_P (dRun_r0 d_1 ([((1 : Int), ((0 : Int), (([] : List (List UInt8)), ())))] : List (Int × (Int × ((List (List UInt8)) × Unit))))) (dCrash_r0 (dRun_r0 d_1 ([((1 : Int), ((0 : Int), (([] : List (List UInt8)), ())))] : List (Int × (Int × ((List (List UInt8)) × Unit))))) choices2)) then
            bif (rSame_r (dRun_r0 d_1 ([((1 : Int), ((0 : Int), (([] : List (List UInt8)), ())))] : List (Int × (Int × ((List (List UInt8)) × Unit))))) (dCrash_r0 (dRun_r0 d_1 ([((1 : Int), ((0 : Int), (([] : List (List UInt8)), ())))] : List (Int × (Int × ((List (List UInt8)) × Unit))))) choices2)) then
              bif (rSameInts_P (dCrash_r1 (dRun_r0 d_1 ([((1 : Int), ((0 : Int), (([] : List (List UInt8)), ())))] : List (Int × (Int × ((List (List UInt8)) × Unit))))) choices2) choices2) then
              ret (rSameInts_r (dCrash_r1 (dRun_r0 d_1 ([((1 : Int), ((0 : Int), (([] : List (List UInt8)), ())))] : List (Int × (Int × ((List (List UInt8)) × Unit))))) choices2) choices2)
              else fail
            else
            ret false
            else fail
          else
          ret false
        else
        ret false
      else
      ret false
      else fail
      else fail)
    F l choices false (0 : Int) (lBehind_r0 l) (dCrash_r0 (lBehind_r0 l) choices)
  else fail
  else fail

def DiskChooses_l1 {X : Type} (F : Nat) (fail : X) (next : Bool → Int → Int → Int → Int → Int → ((List (List UInt8)) × ((List (Int × ((List UInt8) × Unit))) × Unit)) → List Bool → X) (ex0 : Bool → Int → Int → Int → Int → Int → ((List (List UInt8)) × ((List (Int × ((List UInt8) × Unit))) × Unit)) → List Bool → X) (ex1 : Bool → Int → Int → Int → Int → Int → ((List (List UInt8)) × ((List (Int × ((List UInt8) × Unit))) × Unit)) → List Bool → X) (s4 : Bool) (k : Int) (at_ : Int) (place : Int) (version : Int) (i : Int) (d_ : ((List (List UInt8)) × ((List (Int × ((List UInt8) × Unit))) × Unit))) (seen : List Bool) : X :=
  bif (decide (i < ((d_.2.1.length : Nat) : Int))) then
    bif ((decide ((0 : Int) ≤ i)) && (decide (i < ((d_.2.1.length : Nat) : Int)))) then
    bif (decide ((List.getD d_.2.1 (i).toNat ((0 : Int), (z16, ()))).1 < (0 : Int))) then
      ex0 false k at_ place version i d_ seen
    else
    bif (decide ((List.getD d_.2.1 (i).toNat ((0 : Int), (z16, ()))).1 ≥ (8 : Int))) then
      ex0 false k at_ place version i d_ seen
    else
    bif (decide (at_ < (0 : Int))) then
      ex0 false k at_ place version i d_ seen
    else
    bif (decide (at_ ≥ (8 : Int))) then
      ex0 false k at_ place version i d_ seen
    else
    bif ((List.getD d_.2.1 (i).toNat ((0 : Int), (z16, ()))).1 == at_) then
      bif (decide (i < k)) then
        bif ((decide ((0 : Int) ≤ (List.getD d_.2.1 (i).toNat ((0 : Int), (z16, ()))).1)) && (decide ((List.getD d_.2.1 (i).toNat ((0 : Int), (z16, ()))).1 < ((8 : Nat) : Int)))) then
        bif (!(List.getD seen ((List.getD d_.2.1 (i).toNat ((0 : Int), (z16, ()))).1).toNat false)) then
          bif ((decide ((0 : Int) ≤ at_)) && (decide (at_ < ((8 : Nat) : Int)))) then
          bif (!(List.getD seen (at_).toNat false)) then
            bif ((List.getD d_.2.1 (i).toNat ((0 : Int), (z16, ()))).1 != at_) then
              bif ((decide ((0 : Int) ≤ (List.getD d_.2.1 (i).toNat ((0 : Int), (z16, ()))).1)) && (decide ((List.getD d_.2.1 (i).toNat ((0 : Int), (z16, ()))).1 < ((8 : Nat) : Int)))) then
              next s4 k at_ (addI place (1 : Int)) (addI version (1 : Int)) (addI i (1 : Int)) d_ (List.set seen ((List.getD d_.2.1 (i).toNat ((0 : Int), (z16, ()))).1).toNat true)
              else fail
            else
            bif ((decide ((0 : Int) ≤ (List.getD d_.2.1 (i).toNat ((0 : Int), (z16, ()))).1)) && (decide ((List.getD d_.2.1 (i).toNat ((0 : Int), (z16, ()))).1 < ((8 : Nat) : Int)))) then
            next s4 k at_ place (addI version (1 : Int)) (addI i (1 : Int)) d_ (List.set seen ((List.getD d_.2.1 (i).toNat ((0 : Int), (z16, ()))).1).toNat true)
            else fail
          else
          bif ((decide ((0 : Int) ≤ (List.getD d_.2.1 (i).toNat ((0 : Int), (z16, ()))).1)) && (decide ((List.getD d_.2.1 (i).toNat ((0 : Int), (z16, ()))).1 < ((8 : Nat) : Int)))) then
          next s4 k at_ place (addI version (1 : Int)) (addI i (1 : Int)) d_ (List.set seen ((List.getD d_.2.1 (i).toNat ((0 : Int), (z16, ()))).1).toNat true)
          else fail
          else fail
        else
        bif ((decide ((0 : Int) ≤ (List.getD d_.2.1 (i).toNat ((0 : Int), (z16, ()))).1)) && (decide ((List.getD d_.2.1 (i).toNat ((0 : Int), (z16, ()))).1 < ((8 : Nat) : Int)))) then
        next s4 k at_ place (addI version (1 : Int)) (addI i (1 : Int)) d_ (List.set seen ((List.getD d_.2.1 (i).toNat ((0 : Int), (z16, ()))).1).toNat true)
        else fail
        else fail
      else
      bif ((decide ((0 : Int) ≤ (List.getD d_.2.1 (i).toNat ((0 : Int), (z16, ()))).1)) && (decide ((List.getD d_.2.1 (i).toNat ((0 : Int), (z16, ()))).1 < ((8 : Nat) : Int)))) then
      bif (!(List.getD seen ((List.getD d_.2.1 (i).toNat ((0 : Int), (z16, ()))).1).toNat false)) then
        bif ((decide ((0 : Int) ≤ at_)) && (decide (at_ < ((8 : Nat) : Int)))) then
        bif (!(List.getD seen (at_).toNat false)) then
          bif ((List.getD d_.2.1 (i).toNat ((0 : Int), (z16, ()))).1 != at_) then
            bif ((decide ((0 : Int) ≤ (List.getD d_.2.1 (i).toNat ((0 : Int), (z16, ()))).1)) && (decide ((List.getD d_.2.1 (i).toNat ((0 : Int), (z16, ()))).1 < ((8 : Nat) : Int)))) then
            next s4 k at_ (addI place (1 : Int)) version (addI i (1 : Int)) d_ (List.set seen ((List.getD d_.2.1 (i).toNat ((0 : Int), (z16, ()))).1).toNat true)
            else fail
          else
          bif ((decide ((0 : Int) ≤ (List.getD d_.2.1 (i).toNat ((0 : Int), (z16, ()))).1)) && (decide ((List.getD d_.2.1 (i).toNat ((0 : Int), (z16, ()))).1 < ((8 : Nat) : Int)))) then
          next s4 k at_ place version (addI i (1 : Int)) d_ (List.set seen ((List.getD d_.2.1 (i).toNat ((0 : Int), (z16, ()))).1).toNat true)
          else fail
        else
        bif ((decide ((0 : Int) ≤ (List.getD d_.2.1 (i).toNat ((0 : Int), (z16, ()))).1)) && (decide ((List.getD d_.2.1 (i).toNat ((0 : Int), (z16, ()))).1 < ((8 : Nat) : Int)))) then
        next s4 k at_ place version (addI i (1 : Int)) d_ (List.set seen ((List.getD d_.2.1 (i).toNat ((0 : Int), (z16, ()))).1).toNat true)
        else fail
        else fail
      else
      bif ((decide ((0 : Int) ≤ (List.getD d_.2.1 (i).toNat ((0 : Int), (z16, ()))).1)) && (decide ((List.getD d_.2.1 (i).toNat ((0 : Int), (z16, ()))).1 < ((8 : Nat) : Int)))) then
      next s4 k at_ place version (addI i (1 : Int)) d_ (List.set seen ((List.getD d_.2.1 (i).toNat ((0 : Int), (z16, ()))).1).toNat true)
      else fail
      else fail
    else
    bif ((decide ((0 : Int) ≤ (List.getD d_.2.1 (i).toNat ((0 : Int), (z16, ()))).1)) && (decide ((List.getD d_.2.1 (i).toNat ((0 : Int), (z16, ()))).1 < ((8 : Nat) : Int)))) then
    bif (!(List.getD seen ((List.getD d_.2.1 (i).toNat ((0 : Int), (z16, ()))).1).toNat false)) then
      bif ((decide ((0 : Int) ≤ at_)) && (decide (at_ < ((8 : Nat) : Int)))) then
      bif (!(List.getD seen (at_).toNat false)) then
        bif ((List.getD d_.2.1 (i).toNat ((0 : Int), (z16, ()))).1 != at_) then
          bif ((decide ((0 : Int) ≤ (List.getD d_.2.1 (i).toNat ((0 : Int), (z16, ()))).1)) && (decide ((List.getD d_.2.1 (i).toNat ((0 : Int), (z16, ()))).1 < ((8 : Nat) : Int)))) then
          next s4 k at_ (addI place (1 : Int)) version (addI i (1 : Int)) d_ (List.set seen ((List.getD d_.2.1 (i).toNat ((0 : Int), (z16, ()))).1).toNat true)
          else fail
        else
        bif ((decide ((0 : Int) ≤ (List.getD d_.2.1 (i).toNat ((0 : Int), (z16, ()))).1)) && (decide ((List.getD d_.2.1 (i).toNat ((0 : Int), (z16, ()))).1 < ((8 : Nat) : Int)))) then
        next s4 k at_ place version (addI i (1 : Int)) d_ (List.set seen ((List.getD d_.2.1 (i).toNat ((0 : Int), (z16, ()))).1).toNat true)
        else fail
      else
      bif ((decide ((0 : Int) ≤ (List.getD d_.2.1 (i).toNat ((0 : Int), (z16, ()))).1)) && (decide ((List.getD d_.2.1 (i).toNat ((0 : Int), (z16, ()))).1 < ((8 : Nat) : Int)))) then
      next s4 k at_ place version (addI i (1 : Int)) d_ (List.set seen ((List.getD d_.2.1 (i).toNat ((0 : Int), (z16, ()))).1).toNat true)
      else fail
      else fail
    else
    bif ((decide ((0 : Int) ≤ (List.getD d_.2.1 (i).toNat ((0 : Int), (z16, ()))).1)) && (decide ((List.getD d_.2.1 (i).toNat ((0 : Int), (z16, ()))).1 < ((8 : Nat) : Int)))) then
    next s4 k at_ place version (addI i (1 : Int)) d_ (List.set seen ((List.getD d_.2.1 (i).toNat ((0 : Int), (z16, ()))).1).toNat true)
    else fail
    else fail
    else fail
  else
  ex1 s4 k at_ place version i d_ seen
def DiskChooses_l1F {X : Type} (F : Nat) (fail : X) (ex0 : Bool → Int → Int → Int → Int → Int → ((List (List UInt8)) × ((List (Int × ((List UInt8) × Unit))) × Unit)) → List Bool → X) (ex1 : Bool → Int → Int → Int → Int → Int → ((List (List UInt8)) × ((List (Int × ((List UInt8) × Unit))) × Unit)) → List Bool → X) : Nat → Bool → Int → Int → Int → Int → Int → ((List (List UInt8)) × ((List (Int × ((List UInt8) × Unit))) × Unit)) → List Bool → X
  | 0, _, _, _, _, _, _, _, _ => fail
  | m + 1, s4, k, at_, place, version, i, d_, seen => DiskChooses_l1 F fail (DiskChooses_l1F F fail ex0 ex1 m) ex0 ex1 s4 k at_ place version i d_ seen

def DiskChooses {X : Type} (F : Nat) (l : List (UInt8 × (UInt8 × (Bool × Unit)))) (which : UInt8) (fail : X) (ret : Bool → X) : X :=
  bif (decide (((l.length : Nat) : Int) > (20 : Int))) then
    ret (law48_awake_r)
  else
  bif (lBehind_P l) then
  bif (!(lBehind_r1 l)) then
    bif (law48_awake_r) then
      ret (lBehind_r1 l)
    else
    ret false
  else
  bif ((((lBehind_r0 l).2.1.length : Nat) : Int) == (0 : Int)) then
    bif (law48_awake_r) then
      ret (lBehind_r1 l)
    else
    ret false
  else
  bif ((((lBehind_r0 l).2.1.length : Nat) : Int) != (0 : Int)) then
  bif ((decide ((0 : Int) ≤ (remI (cvBI which) (((lBehind_r0 l).2.1.length : Nat) : Int)))) && (decide ((remI (cvBI which) (((lBehind_r0 l).2.1.length : Nat) : Int)) < (((lBehind_r0 l).2.1.length : Nat) : Int)))) then
  DiskChooses_l1F F fail
    (fun (s4 : Bool) (k : Int) (at_ : Int) (place : Int) (version : Int) (i : Int) (d_ : ((List (List UInt8)) × ((List (Int × ((List UInt8) × Unit))) × Unit))) (seen : List Bool) =>
      ret s4)
    (fun (s41 : Bool) (k1 : Int) (at_1 : Int) (place1 : Int) (version1 : Int) (i1 : Int) (d_1 : ((List (List UInt8)) × ((List (Int × ((List UInt8) × Unit))) × Unit))) (seen1 : List Bool) =>
      bif (((decide ((0 : Int) ≤ (addI place1 (1 : Int)))) && true) && (decide ((addI place1 (1 : Int)) ≤ ((big : Nat) : Int)))) then
      bif ((decide ((0 : Int) ≤ place1)) && (decide (place1 < (((List.replicate ((addI place1 (1 : Int))).toNat (0 : Int)).length : Nat) : Int)))) then
      bif (dCrash_P d_1 (List.set (List.replicate ((addI place1 (1 : Int))).toNat (0 : Int)) (place1).toNat version1)) then
      bif (dCrash_P d_1 ([] : List Int)) then
      bif (law48_awake_r) then
        bif ((dCrash_r2 d_1 (List.set (List.replicate ((addI place1 (1 : Int))).toNat (0 : Int)) (place1).toNat version1)) == (0 : Int)) then
          bif ((dCrash_r2 d_1 ([] : List Int)) == (0 : Int)) then
            bif ((((dCrash_r0 d_1 (List.set (List.replicate ((addI place1 (1 : Int))).toNat (0 : Int)) (place1).toNat version1)).1.length : Nat) : Int) == (8 : Int)) then
              bif ((decide ((0 : Int) ≤ at_1)) && (decide (at_1 < (((dCrash_r0 d_1 (List.set (List.replicate ((addI place1 (1 : Int))).toNat (0 : Int)) (place1).toNat version1)).1.length : Nat) : Int)))) then
              bif ((decide ((0 : Int) ≤ k1)) && (decide (k1 < ((d_1.2.1.length : Nat) : Int)))) then
              bif (beqT (.arr 16 (.int .u8)) (List.getD (dCrash_r0 d_1 (List.set (List.replicate ((addI place1 (1 : Int))).toNat (0 : Int)) (place1).toNat version1)).1 (at_1).toNat z16) (List.getD d_1.2.1 (k1).toNat ((0 : Int), (z16, ()))).2.1) then
                bif (rSamePages_P (dCrash_r0 d_1 ([] : List Int)).1 d_1.1) then
                ret (rSamePages_r (dCrash_r0 d_1 ([] : List Int)).1 d_1.1)
                else fail
              else
              ret false
              else fail
              else fail
            else
            ret false
          else
          ret false
        else
        ret false
      else
      ret false
      else fail
      else fail
      else fail
      else fail)
    F false (remI (cvBI which) (((lBehind_r0 l).2.1.length : Nat) : Int)) (List.getD (lBehind_r0 l).2.1 ((remI (cvBI which) (((lBehind_r0 l).2.1.length : Nat) : Int))).toNat ((0 : Int), (z16, ()))).1 (0 : Int) (1 : Int) (0 : Int) (lBehind_r0 l) ([false, false, false, false, false, false, false, false] : List Bool)
  else fail
  else fail
  else fail

def DiskCrashes {X : Type} (F : Nat) (d_ : ((List (List UInt8)) × ((List (Int × ((List UInt8) × Unit))) × Unit))) (l : List (Int × (Int × ((List (List UInt8)) × Unit)))) (b : (Int × ((List Int) × Unit))) (fail : X) (ret : Bool → X) : X :=
  bif (!(rFew_r d_)) then
    ret (law48_awake_r)
  else
  bif (rFewOps_P l) then
  bif (!(rFewOps_r l)) then
    ret (law48_awake_r)
  else
  bif (decide (((b.2.1.length : Nat) : Int) > (200 : Int))) then
    ret (law48_awake_r)
  else
  bif (dInterrupt_P d_ l b.1 b.2.1) then
  bif (rInterrupt_P d_ l b.1 b.2.1) then
  bif (rSame_P (dInterrupt_r0 d_ l b.1 b.2.1) (rInterrupt_r0 d_ l b.1 b.2.1)) then
  bif (!(rSame_r (dInterrupt_r0 d_ l b.1 b.2.1) (rInterrupt_r0 d_ l b.1 b.2.1))) then
    ret false
  else
  bif (rSameInts_P (dInterrupt_r1 d_ l b.1 b.2.1) (rInterrupt_r1 d_ l b.1 b.2.1)) then
  bif (!(rSameInts_r (dInterrupt_r1 d_ l b.1 b.2.1) (rInterrupt_r1 d_ l b.1 b.2.1))) then
    ret false
  else
  bif ((dInterrupt_r2 d_ l b.1 b.2.1) != (rInterrupt_r2 d_ l b.1 b.2.1)) then
    ret false
  else
  bif (dCrash_P d_ b.2.1) then
  bif (rCrash_P d_ b.2.1) then
  bif (law48_awake_r) then
    bif (rSame_P (dCrash_r0 d_ b.2.1) (rCrash_r0 d_ b.2.1)) then
    bif (rSame_r (dCrash_r0 d_ b.2.1) (rCrash_r0 d_ b.2.1)) then
      bif (rSameInts_P (dCrash_r1 d_ b.2.1) (rCrash_r1 d_ b.2.1)) then
      bif (rSameInts_r (dCrash_r1 d_ b.2.1) (rCrash_r1 d_ b.2.1)) then
        ret ((dCrash_r2 d_ b.2.1) == (rCrash_r2 d_ b.2.1))
      else
      ret false
      else fail
    else
    ret false
    else fail
  else
  ret false
  else fail
  else fail
  else fail
  else fail
  else fail
  else fail
  else fail

def DiskParts_l2 {X : Type} (F : Nat) (fail : X) (next : List (UInt8 × (UInt8 × (Bool × Unit))) → Bool → Int → Int → Bool → Int → ((List (List UInt8)) × ((List (Int × ((List UInt8) × Unit))) × Unit)) → ((List (List UInt8)) × ((List (Int × ((List UInt8) × Unit))) × Unit)) → List (List UInt8) → X) (ex0 : List (UInt8 × (UInt8 × (Bool × Unit))) → Bool → Int → Int → Bool → Int → ((List (List UInt8)) × ((List (Int × ((List UInt8) × Unit))) × Unit)) → ((List (List UInt8)) × ((List (Int × ((List UInt8) × Unit))) × Unit)) → List (List UInt8) → X) (m_ : List (UInt8 × (UInt8 × (Bool × Unit)))) (s6 : Bool) (at_ : Int) (h : Int) (written : Bool) (i : Int) (a : ((List (List UInt8)) × ((List (Int × ((List UInt8) × Unit))) × Unit))) (x_ : ((List (List UInt8)) × ((List (Int × ((List UInt8) × Unit))) × Unit))) (want : List (List UInt8)) : X :=
  bif (decide (i < ((m_.length : Nat) : Int))) then
    bif written then
      next m_ s6 at_ h true (addI i (1 : Int)) a x_ want
    else
    bif ((decide ((0 : Int) ≤ i)) && (decide (i < ((m_.length : Nat) : Int)))) then
    bif (!(List.getD m_ (i).toNat ((0 : UInt8), ((0 : UInt8), (false, ())))).2.2.1) then
      bif ((decide ((0 : Int) ≤ i)) && (decide (i < ((m_.length : Nat) : Int)))) then
      next m_ s6 at_ h ((cvBI (remB (List.getD m_ (i).toNat ((0 : UInt8), ((0 : UInt8), (false, ())))).1 (8 : UInt8))) == at_) (addI i (1 : Int)) a x_ want
      else fail
    else
    next m_ s6 at_ h false (addI i (1 : Int)) a x_ want
    else fail
  else
  ex0 m_ s6 at_ h written i a x_ want
def DiskParts_l2F {X : Type} (F : Nat) (fail : X) (ex0 : List (UInt8 × (UInt8 × (Bool × Unit))) → Bool → Int → Int → Bool → Int → ((List (List UInt8)) × ((List (Int × ((List UInt8) × Unit))) × Unit)) → ((List (List UInt8)) × ((List (Int × ((List UInt8) × Unit))) × Unit)) → List (List UInt8) → X) : Nat → List (UInt8 × (UInt8 × (Bool × Unit))) → Bool → Int → Int → Bool → Int → ((List (List UInt8)) × ((List (Int × ((List UInt8) × Unit))) × Unit)) → ((List (List UInt8)) × ((List (Int × ((List UInt8) × Unit))) × Unit)) → List (List UInt8) → X
  | 0, _, _, _, _, _, _, _, _, _ => fail
  | m + 1, m_, s6, at_, h, written, i, a, x_, want => DiskParts_l2 F fail (DiskParts_l2F F fail ex0 m) ex0 m_ s6 at_ h written i a x_ want

def DiskParts_l1 {X : Type} (F : Nat) (fail : X) (next : List (UInt8 × (UInt8 × (Bool × Unit))) → Bool → Int → ((List (List UInt8)) × ((List (Int × ((List UInt8) × Unit))) × Unit)) → ((List (List UInt8)) × ((List (Int × ((List UInt8) × Unit))) × Unit)) → X) (ex0 : List (UInt8 × (UInt8 × (Bool × Unit))) → Bool → Int → ((List (List UInt8)) × ((List (Int × ((List UInt8) × Unit))) × Unit)) → ((List (List UInt8)) × ((List (Int × ((List UInt8) × Unit))) × Unit)) → X) (ex1 : List (UInt8 × (UInt8 × (Bool × Unit))) → Bool → Int → ((List (List UInt8)) × ((List (Int × ((List UInt8) × Unit))) × Unit)) → ((List (List UInt8)) × ((List (Int × ((List UInt8) × Unit))) × Unit)) → X) (m_ : List (UInt8 × (UInt8 × (Bool × Unit)))) (s6 : Bool) (at_ : Int) (a : ((List (List UInt8)) × ((List (Int × ((List UInt8) × Unit))) × Unit))) (x_ : ((List (List UInt8)) × ((List (Int × ((List UInt8) × Unit))) × Unit))) : X :=
  bif (decide (at_ < (8 : Int))) then
    bif (dRead_P a at_ (1 : Int)) then
    DiskParts_l2F F fail
      (fun (m_1 : List (UInt8 × (UInt8 × (Bool × Unit)))) (s61 : Bool) (at_1 : Int) (h : Int) (written : Bool) (i : Int) (a1 : ((List (List UInt8)) × ((List (Int × ((List UInt8) × Unit))) × Unit))) (x_1 : ((List (List UInt8)) × ((List (Int × ((List UInt8) × Unit))) × Unit))) (want : List (List UInt8)) =>
        bif (h != (0 : Int)) then
          ex0 m_1 false at_1 a1 x_1
        else
        bif (((want.length : Nat) : Int) != (1 : Int)) then
          ex0 m_1 false at_1 a1 x_1
        else
        bif (!written) then
          bif ((decide ((0 : Int) ≤ at_1)) && (decide (at_1 < ((x_1.1.length : Nat) : Int)))) then
          bif (decide ((0 : Int) < ((want.length : Nat) : Int))) then
          bif (!(beqT (.arr 16 (.int .u8)) (List.getD x_1.1 (at_1).toNat z16) (List.getD want 0 z16))) then
            ex0 m_1 false at_1 a1 x_1
          else
          next m_1 s61 (addI at_1 (1 : Int)) a1 x_1
          else fail
          else fail
        else
        next m_1 s61 (addI at_1 (1 : Int)) a1 x_1)
      F m_ s6 at_ (dRead_r1 a at_ (1 : Int)) false (0 : Int) a x_ (dRead_r0 a at_ (1 : Int))
    else fail
  else
  ex1 m_ s6 at_ a x_
def DiskParts_l1F {X : Type} (F : Nat) (fail : X) (ex0 : List (UInt8 × (UInt8 × (Bool × Unit))) → Bool → Int → ((List (List UInt8)) × ((List (Int × ((List UInt8) × Unit))) × Unit)) → ((List (List UInt8)) × ((List (Int × ((List UInt8) × Unit))) × Unit)) → X) (ex1 : List (UInt8 × (UInt8 × (Bool × Unit))) → Bool → Int → ((List (List UInt8)) × ((List (Int × ((List UInt8) × Unit))) × Unit)) → ((List (List UInt8)) × ((List (Int × ((List UInt8) × Unit))) × Unit)) → X) : Nat → List (UInt8 × (UInt8 × (Bool × Unit))) → Bool → Int → ((List (List UInt8)) × ((List (Int × ((List UInt8) × Unit))) × Unit)) → ((List (List UInt8)) × ((List (Int × ((List UInt8) × Unit))) × Unit)) → X
  | 0, _, _, _, _, _ => fail
  | m + 1, m_, s6, at_, a, x_ => DiskParts_l1 F fail (DiskParts_l1F F fail ex0 ex1 m) ex0 ex1 m_ s6 at_ a x_

def DiskParts {X : Type} (F : Nat) (l : List (UInt8 × (UInt8 × (Bool × Unit)))) (m_ : List (UInt8 × (UInt8 × (Bool × Unit)))) (choices : List Int) (fail : X) (ret : Bool → X) : X :=
  bif (decide (((l.length : Nat) : Int) > (20 : Int))) then
    ret (law48_awake_r)
  else
  bif (decide (((m_.length : Nat) : Int) > (20 : Int))) then
    ret (law48_awake_r)
  else
  bif (decide (((choices.length : Nat) : Int) > (60 : Int))) then
    ret (law48_awake_r)
  else
  bif (lBehind_P l) then
  bif (lOps_P m_) then
  bif (dRun_P (lBehind_r0 l) (lOps_r m_)) then
  bif (decide (l.length ≤ big)) then
  bif (decide ((l ++ m_).length ≤ big)) then
  bif (lBehind_P (l ++ m_)) then
  bif (!(lBehind_r1 l)) then
    ret false
  else
  bif (!(lBehind_r1 (l ++ m_))) then
    ret false
  else
  bif ((dRun_r2 (lBehind_r0 l) (lOps_r m_)) != (0 : Int)) then
    ret false
  else
  bif ((dRun_r1 (lBehind_r0 l) (lOps_r m_)) != ((m_.length : Nat) : Int)) then
    ret false
  else
  bif (rSame_P (dRun_r0 (lBehind_r0 l) (lOps_r m_)) (lBehind_r0 (l ++ m_))) then
  bif (!(rSame_r (dRun_r0 (lBehind_r0 l) (lOps_r m_)) (lBehind_r0 (l ++ m_)))) then
    ret false
  else
  bif (decide (l.length ≤ big)) then
  bif (decide ((l ++ ([((0 : UInt8), ((0 : UInt8), (true, ())))] : List (UInt8 × (UInt8 × (Bool × Unit))))).length ≤ big)) then
  bif (decide (((l ++ ([((0 : UInt8), ((0 : UInt8), (true, ())))] : List (UInt8 × (UInt8 × (Bool × Unit))))) ++ m_).length ≤ big)) then
  bif (dNew_P (8 : Int)) then
  bif (lOps_P ((l ++ ([((0 : UInt8), ((0 : UInt8), (true, ())))] : List (UInt8 × (UInt8 × (Bool × Unit))))) ++ m_)) then
  bif (dInterrupt_P (dNew_r0 (8 : Int)) (lOps_r ((l ++ ([((0 : UInt8), ((0 : UInt8), (true, ())))] : List (UInt8 × (UInt8 × (Bool × Unit))))) ++ m_)) ((((l ++ ([((0 : UInt8), ((0 : UInt8), (true, ())))] : List (UInt8 × (UInt8 × (Bool × Unit))))) ++ m_).length : Nat) : Int) choices) then
  bif ((dNew_r1 (8 : Int)) != (0 : Int)) then
    ret false
  else
  bif ((dInterrupt_r2 (dNew_r0 (8 : Int)) (lOps_r ((l ++ ([((0 : UInt8), ((0 : UInt8), (true, ())))] : List (UInt8 × (UInt8 × (Bool × Unit))))) ++ m_)) ((((l ++ ([((0 : UInt8), ((0 : UInt8), (true, ())))] : List (UInt8 × (UInt8 × (Bool × Unit))))) ++ m_).length : Nat) : Int) choices) != (0 : Int)) then
    ret false
  else
  bif ((((dInterrupt_r0 (dNew_r0 (8 : Int)) (lOps_r ((l ++ ([((0 : UInt8), ((0 : UInt8), (true, ())))] : List (UInt8 × (UInt8 × (Bool × Unit))))) ++ m_)) ((((l ++ ([((0 : UInt8), ((0 : UInt8), (true, ())))] : List (UInt8 × (UInt8 × (Bool × Unit))))) ++ m_).length : Nat) : Int) choices).1.length : Nat) : Int) != (8 : Int)) then
    ret false
  else
  DiskParts_l1F F fail
    (fun (m_1 : List (UInt8 × (UInt8 × (Bool × Unit)))) (s6 : Bool) (at_ : Int) (a : ((List (List UInt8)) × ((List (Int × ((List UInt8) × Unit))) × Unit))) (x_ : ((List (List UInt8)) × ((List (Int × ((List UInt8) × Unit))) × Unit))) =>
      ret s6)
    (fun (m_2 : List (UInt8 × (UInt8 × (Bool × Unit)))) (s61 : Bool) (at_1 : Int) (a1 : ((List (List UInt8)) × ((List (Int × ((List UInt8) × Unit))) × Unit))) (x_1 : ((List (List UInt8)) × ((List (Int × ((List UInt8) × Unit))) × Unit))) =>
      ret (law48_awake_r))
    F m_ false (0 : Int) (lBehind_r0 l) (dInterrupt_r0 (dNew_r0 (8 : Int)) (lOps_r ((l ++ ([((0 : UInt8), ((0 : UInt8), (true, ())))] : List (UInt8 × (UInt8 × (Bool × Unit))))) ++ m_)) ((((l ++ ([((0 : UInt8), ((0 : UInt8), (true, ())))] : List (UInt8 × (UInt8 × (Bool × Unit))))) ++ m_).length : Nat) : Int) choices)
  else fail
  else fail
  else fail
  else fail
  else fail
  else fail
  else fail
  else fail
  else fail
  else fail
  else fail
  else fail
  else fail

end Go.AI
