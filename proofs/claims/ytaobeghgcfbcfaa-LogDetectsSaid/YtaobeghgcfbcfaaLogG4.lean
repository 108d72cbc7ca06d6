/- Plain functions, printed by running the machine on symbols. -/
import Derived.Test.YtaobeghgcfbcfaaLogS
namespace Go.AI
open Go
set_option linter.unusedVariables false

def LogReturns_l1 {X : Type} (F : Nat) (fail : X) (next : List (List UInt8) → Bool → Bool → Int → ((List (List UInt8)) × ((List (Int × ((List UInt8) × Unit))) × Unit)) → (Int × (Int × (Int × Unit))) → List (List UInt8) → X) (ex0 : List (List UInt8) → Bool → Bool → Int → ((List (List UInt8)) × ((List (Int × ((List UInt8) × Unit))) × Unit)) → (Int × (Int × (Int × Unit))) → List (List UInt8) → X) (ex1 : List (List UInt8) → Bool → Bool → Int → ((List (List UInt8)) × ((List (Int × ((List UInt8) × Unit))) × Unit)) → (Int × (Int × (Int × Unit))) → List (List UInt8) → X) (l : List (List UInt8)) (s4 : Bool) (ok : Bool) (i : Int) (d_ : ((List (List UInt8)) × ((List (Int × ((List UInt8) × Unit))) × Unit))) (x_ : (Int × (Int × (Int × Unit)))) (done : List (List UInt8)) : X :=
  bif (decide (i < ((l.length : Nat) : Int))) then
    bif ok then
      bif ((decide ((0 : Int) ≤ i)) && (decide (i < ((l.length : Nat) : Int)))) then
      bif (lAppend_P x_ (List.getD l (i).toNat ([] : List UInt8))) then
      bif ((lAppend_r2 x_ (List.getD l (i).toNat ([] : List UInt8))) == (11 : Int)) then
        bif ((decide ((0 : Int) ≤ i)) && (decide (i < ((l.length : Nat) : Int)))) then
        bif (lPages_P (((List.getD l (i).toNat ([] : List UInt8)).length : Nat) : Int)) then
        bif (decide ((addI x_.1 (lPages_r (((List.getD l (i).toNat ([] : List UInt8)).length : Nat) : Int))) ≤ (100 : Int))) then
          ex0 l false ok i d_ x_ done
        else
        next l s4 ok (addI i (1 : Int)) d_ x_ done
        else fail
        else fail
      else
      bif (ran_P d_ (lAppend_r1 x_ (List.getD l (i).toNat ([] : List UInt8))) (lAppend_r2 x_ (List.getD l (i).toNat ([] : List UInt8)))) then
      bif ((decide ((0 : Int) ≤ i)) && (decide (i < ((l.length : Nat) : Int)))) then
      bif (decide ((done ++ ([(List.getD l (i).toNat ([] : List UInt8))] : List (List UInt8))).length ≤ big)) then
      next l s4 (ran_r1 d_ (lAppend_r1 x_ (List.getD l (i).toNat ([] : List UInt8))) (lAppend_r2 x_ (List.getD l (i).toNat ([] : List UInt8)))) (addI i (1 : Int)) (ran_r0 d_ (lAppend_r1 x_ (List.getD l (i).toNat ([] : List UInt8))) (lAppend_r2 x_ (List.getD l (i).toNat ([] : List UInt8)))) (lAppend_r0 x_ (List.getD l (i).toNat ([] : List UInt8))) (done ++ ([(List.getD l (i).toNat ([] : List UInt8))] : List (List UInt8)))
      else fail
      else fail
      else fail
      else fail
      else fail
    else
    ex1 l s4 ok i d_ x_ done
  else
  ex1 l s4 ok i d_ x_ done
def LogReturns_l1F {X : Type} (F : Nat) (fail : X) (ex0 : List (List UInt8) → Bool → Bool → Int → ((List (List UInt8)) × ((List (Int × ((List UInt8) × Unit))) × Unit)) → (Int × (Int × (Int × Unit))) → List (List UInt8) → X) (ex1 : List (List UInt8) → Bool → Bool → Int → ((List (List UInt8)) × ((List (Int × ((List UInt8) × Unit))) × Unit)) → (Int × (Int × (Int × Unit))) → List (List UInt8) → X) : Nat → List (List UInt8) → Bool → Bool → Int → ((List (List UInt8)) × ((List (Int × ((List UInt8) × Unit))) × Unit)) → (Int × (Int × (Int × Unit))) → List (List UInt8) → X
  | 0, _, _, _, _, _, _, _ => fail
  | m + 1, l, s4, ok, i, d_, x_, done => LogReturns_l1 F fail (LogReturns_l1F F fail ex0 ex1 m) ex0 ex1 l s4 ok i d_ x_ done

def LogReturns {X : Type} (F : Nat) (old : List (List UInt8)) (l : List (List UInt8)) (fail : X) (ret : Bool → X) : X :=
  bif (lfew_P l) then
  bif (!(lfew_r l)) then
    ret (law49_awake_r)
  else
  bif (decide (((old.length : Nat) : Int) > (100 : Int))) then
    ret (law49_awake_r)
  else
  bif (lBegin_P old) then
  LogReturns_l1F F fail
    (fun (l1 : List (List UInt8)) (s4 : Bool) (ok : Bool) (i : Int) (d_ : ((List (List UInt8)) × ((List (Int × ((List UInt8) × Unit))) × Unit))) (x_ : (Int × (Int × (Int × Unit)))) (done : List (List UInt8)) =>
      ret s4)
    (fun (l2 : List (List UInt8)) (s41 : Bool) (ok1 : Bool) (i1 : Int) (d_1 : ((List (List UInt8)) × ((List (Int × ((List UInt8) × Unit))) × Unit))) (x_1 : (Int × (Int × (Int × Unit)))) (done1 : List (List UInt8)) =>
      bif (lOpen_P d_1) then
      bif (law49_awake_r) then
        bif ok1 then
          bif ((lOpen_r2 d_1) == (0 : Int)) then
            bif (beqT (.pair (.int .i64) (.pair (.int .i64) (.pair (.int .i64) .unit))) (lOpen_r0 d_1) x_1) then
              bif (qSameB_P (lOpen_r1 d_1) done1) then
              bif (qSameB_r (lOpen_r1 d_1) done1) then
                ret ((lCheck_r x_1) == (0 : Int))
              else
              ret false
              else fail
            else
            ret false
          else
          ret false
        else
        ret false
      else
      ret false
      else fail)
    F l false (lBegin_r2 old) (0 : Int) (lBegin_r0 old) (lBegin_r1 old) ([] : List (List UInt8))
  else fail
  else fail

def LogCrashes_l1 {X : Type} (F : Nat) (fail : X) (next : List (List UInt8) → List UInt8 → List Int → Bool → Bool → Int → ((List (List UInt8)) × ((List (Int × ((List UInt8) × Unit))) × Unit)) → (Int × (Int × (Int × Unit))) → List (List UInt8) → X) (ex0 : List (List UInt8) → List UInt8 → List Int → Bool → Bool → Int → ((List (List UInt8)) × ((List (Int × ((List UInt8) × Unit))) × Unit)) → (Int × (Int × (Int × Unit))) → List (List UInt8) → X) (ex1 : List (List UInt8) → List UInt8 → List Int → Bool → Bool → Int → ((List (List UInt8)) × ((List (Int × ((List UInt8) × Unit))) × Unit)) → (Int × (Int × (Int × Unit))) → List (List UInt8) → X) (l : List (List UInt8)) (after : List UInt8) (choices : List Int) (s6 : Bool) (ok : Bool) (i : Int) (d_ : ((List (List UInt8)) × ((List (Int × ((List UInt8) × Unit))) × Unit))) (x_ : (Int × (Int × (Int × Unit)))) (done : List (List UInt8)) : X :=
  bif (decide (i < ((l.length : Nat) : Int))) then
    bif ok then
      bif ((decide ((0 : Int) ≤ i)) && (decide (i < ((l.length : Nat) : Int)))) then
      bif (lAppend_P x_ (List.getD l (i).toNat ([] : List UInt8))) then
      bif ((lAppend_r2 x_ (List.getD l (i).toNat ([] : List UInt8))) == (11 : Int)) then
        next l after choices s6 ok (addI i (1 : Int)) d_ x_ done
      else
      bif (decide (i ≥ ((after.length : Nat) : Int))) then
        bif (ran_P d_ (lAppend_r1 x_ (List.getD l (i).toNat ([] : List UInt8))) (lAppend_r2 x_ (List.getD l (i).toNat ([] : List UInt8)))) then
        bif ((decide ((0 : Int) ≤ i)) && (decide (i < ((l.length : Nat) : Int)))) then
        bif (decide ((done ++ ([(List.getD l (i).toNat ([] : List UInt8))] : List (List UInt8))).length ≤ big)) then
        next l after choices s6 (ran_r1 d_ (lAppend_r1 x_ (List.getD l (i).toNat ([] : List UInt8))) (lAppend_r2 x_ (List.getD l (i).toNat ([] : List UInt8)))) (addI i (1 : Int)) (ran_r0 d_ (lAppend_r1 x_ (List.getD l (i).toNat ([] : List UInt8))) (lAppend_r2 x_ (List.getD l (i).toNat ([] : List UInt8)))) (lAppend_r0 x_ (List.getD l (i).toNat ([] : List UInt8))) (done ++ ([(List.getD l (i).toNat ([] : List UInt8))] : List (List UInt8)))
        else fail
        else fail
        else fail
      else
      bif ((decide ((0 : Int) ≤ i)) && (decide (i < ((after.length : Nat) : Int)))) then
      bif (decide ((cvBI (List.getD after (i).toNat (0 : UInt8))) > (((lAppend_r1 x_ (List.getD l (i).toNat ([] : List UInt8))).length : Nat) : Int))) then
        bif (ran_P d_ (lAppend_r1 x_ (List.getD l (i).toNat ([] : List UInt8))) (lAppend_r2 x_ (List.getD l (i).toNat ([] : List UInt8)))) then
        bif ((decide ((0 : Int) ≤ i)) && (decide (i < ((l.length : Nat) : Int)))) then
        bif (decide ((done ++ ([(List.getD l (i).toNat ([] : List UInt8))] : List (List UInt8))).length ≤ big)) then
        next l after choices s6 (ran_r1 d_ (lAppend_r1 x_ (List.getD l (i).toNat ([] : List UInt8))) (lAppend_r2 x_ (List.getD l (i).toNat ([] : List UInt8)))) (addI i (1 : Int)) (ran_r0 d_ (lAppend_r1 x_ (List.getD l (i).toNat ([] : List UInt8))) (lAppend_r2 x_ (List.getD l (i).toNat ([] : List UInt8)))) (lAppend_r0 x_ (List.getD l (i).toNat ([] : List UInt8))) (done ++ ([(List.getD l (i).toNat ([] : List UInt8))] : List (List UInt8)))
        else fail
        else fail
        else fail
      else
      bif ((decide ((0 : Int) ≤ i)) && (decide (i < ((after.length : Nat) : Int)))) then
      bif (dInterrupt_P d_ (lAppend_r1 x_ (List.getD l (i).toNat ([] : List UInt8))) (cvBI (List.getD after (i).toNat (0 : UInt8))) choices) then
      bif (lOpen_P (dInterrupt_r0 d_ (lAppend_r1 x_ (List.getD l (i).toNat ([] : List UInt8))) (cvBI (List.getD after (i).toNat (0 : UInt8))) choices)) then
      bif ((lAppend_r2 x_ (List.getD l (i).toNat ([] : List UInt8))) != (0 : Int)) then
        ex0 l after choices false ok i d_ x_ done
      else
      bif ((dInterrupt_r2 d_ (lAppend_r1 x_ (List.getD l (i).toNat ([] : List UInt8))) (cvBI (List.getD after (i).toNat (0 : UInt8))) choices) != (0 : Int)) then
        ex0 l after choices false ok i d_ x_ done
      else
      bif ((lOpen_r2 (dInterrupt_r0 d_ (lAppend_r1 x_ (List.getD l (i).toNat ([] : List UInt8))) (cvBI (List.getD after (i).toNat (0 : UInt8))) choices)) != (0 : Int)) then
        ex0 l after choices false ok i d_ x_ done
      else
      bif (decide (done.length ≤ big)) then
      bif ((decide ((0 : Int) ≤ i)) && (decide (i < ((l.length : Nat) : Int)))) then
      bif (decide ((done ++ ([(List.getD l (i).toNat ([] : List UInt8))] : List (List UInt8))).length ≤ big)) then
      bif (beqT (.pair (.int .i64) (.pair (.int .i64) (.pair (.int .i64) .unit))) (lOpen_r0 (dInterrupt_r0 d_ (lAppend_r1 x_ (List.getD l (i).toNat ([] : List UInt8))) (cvBI (List.getD after (i).toNat (0 : UInt8))) choices)) (lAppend_r0 x_ (List.getD l (i).toNat ([] : List UInt8)))) then
        bif (qSameB_P (lOpen_r1 (dInterrupt_r0 d_ (lAppend_r1 x_ (List.getD l (i).toNat ([] : List UInt8))) (cvBI (List.getD after (i).toNat (0 : UInt8))) choices)) (done ++ ([(List.getD l (i).toNat ([] : List UInt8))] : List (List UInt8)))) then
        bif (qSameB_r (lOpen_r1 (dInterrupt_r0 d_ (lAppend_r1 x_ (List.getD l (i).toNat ([] : List UInt8))) (cvBI (List.getD after (i).toNat (0 : UInt8))) choices)) (done ++ ([(List.getD l (i).toNat ([] : List UInt8))] : List (List UInt8)))) then
          next l after (dInterrupt_r1 d_ (lAppend_r1 x_ (List.getD l (i).toNat ([] : List UInt8))) (cvBI (List.getD after (i).toNat (0 : UInt8))) choices) s6 ok (addI i (1 : Int)) (dInterrupt_r0 d_ (lAppend_r1 x_ (List.getD l (i).toNat ([] : List UInt8))) (cvBI (List.getD after (i).toNat (0 : UInt8))) choices) (lOpen_r0 (dInterrupt_r0 d_ (lAppend_r1 x_ (List.getD l (i).toNat ([] : List UInt8))) (cvBI (List.getD after (i).toNat (0 : UInt8))) choices)) (done ++ ([(List.getD l (i).toNat ([] : List UInt8))] : List (List UInt8)))
        else
        bif (!(beqT (.pair (.int .i64) (.pair (.int .i64) (.pair (.int .i64) .unit))) (lOpen_r0 (dInterrupt_r0 d_ (lAppend_r1 x_ (List.getD l (i).toNat ([] : List UInt8))) (cvBI (List.getD after (i).toNat (0 : UInt8))) choices)) x_)) then
          ex0 l after choices false ok i d_ x_ done
        else
        bif (qSameB_P (lOpen_r1 (dInterrupt_r0 d_ (lAppend_r1 x_ (List.getD l (i).toNat ([] : List UInt8))) (cvBI (List.getD after (i).toNat (0 : UInt8))) choices)) done) then
        bif (!(qSameB_r (lOpen_r1 (dInterrupt_r0 d_ (lAppend_r1 x_ (List.getD l (i).toNat ([] : List UInt8))) (cvBI (List.getD after (i).toNat (0 : UInt8))) choices)) done)) then
          ex0 l after choices false ok i d_ x_ done
        else
        bif ((decide ((0 : Int) ≤ i)) && (decide (i < ((after.length : Nat) : Int)))) then
        bif ((cvBI (List.getD after (i).toNat (0 : UInt8))) == (((lAppend_r1 x_ (List.getD l (i).toNat ([] : List UInt8))).length : Nat) : Int)) then
          ex0 l after choices false ok i d_ x_ done
        else
        next l after (dInterrupt_r1 d_ (lAppend_r1 x_ (List.getD l (i).toNat ([] : List UInt8))) (cvBI (List.getD after (i).toNat (0 : UInt8))) choices) s6 ok (addI i (1 : Int)) (dInterrupt_r0 d_ (lAppend_r1 x_ (List.getD l (i).toNat ([] : List UInt8))) (cvBI (List.getD after (i).toNat (0 : UInt8))) choices) (lOpen_r0 (dInterrupt_r0 d_ (lAppend_r1 x_ (List.getD l (i).toNat ([] : List UInt8))) (cvBI (List.getD after (i).toNat (0 : UInt8))) choices)) done
        else fail
        else fail
        else fail
      else
      bif (!(beqT (.pair (.int .i64) (.pair (.int .i64) (.pair (.int .i64) .unit))) (lOpen_r0 (dInterrupt_r0 d_ (lAppend_r1 x_ (List.getD l (i).toNat ([] : List UInt8))) (cvBI (List.getD after (i).toNat (0 : UInt8))) choices)) x_)) then
        ex0 l after choices false ok i d_ x_ done
      else
      bif (qSameB_P (lOpen_r1 (dInterrupt_r0 d_ (lAppend_r1 x_ (List.getD l (i).toNat ([] : List UInt8))) (cvBI (List.getD after (i).toNat (0 : UInt8))) choices)) done) then
      bif (!(qSameB_r (lOpen_r1 (dInterrupt_r0 d_ (lAppend_r1 x_ (List.getD l (i).toNat ([] : List UInt8))) (cvBI (List.getD after (i).toNat (0 : UInt8))) choices)) done)) then
        ex0 l after choices false ok i d_ x_ done
      else
      bif ((decide ((0 : Int) ≤ i)) && (decide (i < ((after.length : Nat) : Int)))) then
      bif ((cvBI (List.getD after (i).toNat (0 : UInt8))) == (((lAppend_r1 x_ (List.getD l (i).toNat ([] : List UInt8))).length : Nat) : Int)) then
        ex0 l after choices false ok i d_ x_ done
      else
      next l after (dInterrupt_r1 d_ (lAppend_r1 x_ (List.getD l (i).toNat ([] : List UInt8))) (cvBI (List.getD after (i).toNat (0 : UInt8))) choices) s6 ok (addI i (1 : Int)) (dInterrupt_r0 d_ (lAppend_r1 x_ (List.getD l (i).toNat ([] : List UInt8))) (cvBI (List.getD after (i).toNat (0 : UInt8))) choices) (lOpen_r0 (dInterrupt_r0 d_ (lAppend_r1 x_ (List.getD l (i).toNat ([] : List UInt8))) (cvBI (List.getD after (i).toNat (0 : UInt8))) choices)) done
      else fail
      else fail
      else fail
      else fail
      else fail
      else fail
      else fail
      else fail
      else fail
      else fail
      else fail
    else
    ex1 l after choices s6 ok i d_ x_ done
  else
  ex1 l after choices s6 ok i d_ x_ done
def LogCrashes_l1F {X : Type} (F : Nat) (fail : X) (ex0 : List (List UInt8) → List UInt8 → List Int → Bool → Bool → Int → ((List (List UInt8)) × ((List (Int × ((List UInt8) × Unit))) × Unit)) → (Int × (Int × (Int × Unit))) → List (List UInt8) → X) (ex1 : List (List UInt8) → List UInt8 → List Int → Bool → Bool → Int → ((List (List UInt8)) × ((List (Int × ((List UInt8) × Unit))) × Unit)) → (Int × (Int × (Int × Unit))) → List (List UInt8) → X) : Nat → List (List UInt8) → List UInt8 → List Int → Bool → Bool → Int → ((List (List UInt8)) × ((List (Int × ((List UInt8) × Unit))) × Unit)) → (Int × (Int × (Int × Unit))) → List (List UInt8) → X
  | 0, _, _, _, _, _, _, _, _, _ => fail
  | m + 1, l, after, choices, s6, ok, i, d_, x_, done => LogCrashes_l1 F fail (LogCrashes_l1F F fail ex0 ex1 m) ex0 ex1 l after choices s6 ok i d_ x_ done

def LogCrashes {X : Type} (F : Nat) (l : List (List UInt8)) (after : List UInt8) (choices : List Int) (fail : X) (ret : Bool → X) : X :=
  bif (lfew_P l) then
  bif (!(lfew_r l)) then
    ret (law49_awake_r)
  else
  bif (decide (((after.length : Nat) : Int) > (20 : Int))) then
    ret (law49_awake_r)
  else
  bif (decide (((choices.length : Nat) : Int) > (300 : Int))) then
    ret (law49_awake_r)
  else
  bif (lBegin_P ([] : List (List UInt8))) then
  LogCrashes_l1F F fail
    (fun (l1 : List (List UInt8)) (after1 : List UInt8) (choices1 : List Int) (s6 : Bool) (ok : Bool) (i : Int) (d_ : ((List (List UInt8)) × ((List (Int × ((List UInt8) × Unit))) × Unit))) (x_ : (Int × (Int × (Int × Unit)))) (done : List (List UInt8)) =>
      ret s6)
    (fun (l2 : List (List UInt8)) (after2 : List UInt8) (choices2 : List Int) (s61 : Bool) (ok1 : Bool) (i1 : Int) (d_1 : ((List (List UInt8)) × ((List (Int × ((List UInt8) × Unit))) × Unit))) (x_1 : (Int × (Int × (Int × Unit)))) (done1 : List (List UInt8)) =>
      bif (law49_awake_r) then
        ret ok1
      else
      ret false)
    F l after choices false (lBegin_r2 ([] : List (List UInt8))) (0 : Int) (lBegin_r0 ([] : List (List UInt8))) (lBegin_r1 ([] : List (List UInt8))) ([] : List (List UInt8))
  else fail
  else fail

end Go.AI
