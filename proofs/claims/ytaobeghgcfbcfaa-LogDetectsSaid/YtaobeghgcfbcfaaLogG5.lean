/- Plain functions, printed by running the machine on symbols. -/
import Derived.Test.YtaobeghgcfbcfaaLogS
namespace Go.AI
open Go
set_option linter.unusedVariables false

def LogDetects_l1 {X : Type} (F : Nat) (fail : X) (next : List (List UInt8) → Bool → Int → (UInt8 × (UInt8 × (UInt8 × Unit))) → ((List (List UInt8)) × ((List (Int × ((List UInt8) × Unit))) × Unit)) → (Int × (Int × (Int × Unit))) → List Int → List (List UInt8) → X) (ex0 : List (List UInt8) → Bool → Int → (UInt8 × (UInt8 × (UInt8 × Unit))) → ((List (List UInt8)) × ((List (Int × ((List UInt8) × Unit))) × Unit)) → (Int × (Int × (Int × Unit))) → List Int → List (List UInt8) → X) (l : List (List UInt8)) (ok : Bool) (i : Int) (s : (UInt8 × (UInt8 × (UInt8 × Unit)))) (d_ : ((List (List UInt8)) × ((List (Int × ((List UInt8) × Unit))) × Unit))) (x_ : (Int × (Int × (Int × Unit)))) (ends : List Int) (done : List (List UInt8)) : X :=
  bif (decide (i < ((l.length : Nat) : Int))) then
    bif ok then
      bif ((decide ((0 : Int) ≤ i)) && (decide (i < ((l.length : Nat) : Int)))) then
      bif (lAppend_P x_ (List.getD l (i).toNat ([] : List UInt8))) then
      bif ((lAppend_r2 x_ (List.getD l (i).toNat ([] : List UInt8))) == (11 : Int)) then
        next l ok (addI i (1 : Int)) s d_ x_ ends done
      else
      bif (ran_P d_ (lAppend_r1 x_ (List.getD l (i).toNat ([] : List UInt8))) (lAppend_r2 x_ (List.getD l (i).toNat ([] : List UInt8)))) then
      bif (decide ((ends ++ ([(lAppend_r0 x_ (List.getD l (i).toNat ([] : List UInt8))).1] : List Int)).length ≤ big)) then
      bif ((decide ((0 : Int) ≤ i)) && (decide (i < ((l.length : Nat) : Int)))) then
      bif (decide ((done ++ ([(List.getD l (i).toNat ([] : List UInt8))] : List (List UInt8))).length ≤ big)) then
      next l (ran_r1 d_ (lAppend_r1 x_ (List.getD l (i).toNat ([] : List UInt8))) (lAppend_r2 x_ (List.getD l (i).toNat ([] : List UInt8)))) (addI i (1 : Int)) s (ran_r0 d_ (lAppend_r1 x_ (List.getD l (i).toNat ([] : List UInt8))) (lAppend_r2 x_ (List.getD l (i).toNat ([] : List UInt8)))) (lAppend_r0 x_ (List.getD l (i).toNat ([] : List UInt8))) (ends ++ ([(lAppend_r0 x_ (List.getD l (i).toNat ([] : List UInt8))).1] : List Int)) (done ++ ([(List.getD l (i).toNat ([] : List UInt8))] : List (List UInt8)))
      else fail
      else fail
      else fail
      else fail
      else fail
      else fail
    else
    ex0 l ok i s d_ x_ ends done
  else
  ex0 l ok i s d_ x_ ends done
def LogDetects_l1F {X : Type} (F : Nat) (fail : X) (ex0 : List (List UInt8) → Bool → Int → (UInt8 × (UInt8 × (UInt8 × Unit))) → ((List (List UInt8)) × ((List (Int × ((List UInt8) × Unit))) × Unit)) → (Int × (Int × (Int × Unit))) → List Int → List (List UInt8) → X) : Nat → List (List UInt8) → Bool → Int → (UInt8 × (UInt8 × (UInt8 × Unit))) → ((List (List UInt8)) × ((List (Int × ((List UInt8) × Unit))) × Unit)) → (Int × (Int × (Int × Unit))) → List Int → List (List UInt8) → X
  | 0, _, _, _, _, _, _, _, _ => fail
  | m + 1, l, ok, i, s, d_, x_, ends, done => LogDetects_l1 F fail (LogDetects_l1F F fail ex0 m) ex0 l ok i s d_ x_ ends done

def LogDetects_l2 {X : Type} (F : Nat) (fail : X) (next : Int → List (List UInt8) → Int → Int → List Int → List (List UInt8) → X) (ex0 : Int → List (List UInt8) → Int → Int → List Int → List (List UInt8) → X) (page : Int) (payloads : List (List UInt8)) (e_ : Int) (before : Int) (ends : List Int) (done : List (List UInt8)) : X :=
  bif (decide ((addI before (1 : Int)) < ((ends.length : Nat) : Int))) then
    bif ((decide ((0 : Int) ≤ (addI before (1 : Int)))) && (decide ((addI before (1 : Int)) < ((ends.length : Nat) : Int)))) then
    bif (decide ((List.getD ends ((addI before (1 : Int))).toNat (0 : Int)) ≤ page)) then
      next page payloads e_ (addI before (1 : Int)) ends done
    else
    ex0 page payloads e_ before ends done
    else fail
  else
  ex0 page payloads e_ before ends done
def LogDetects_l2F {X : Type} (F : Nat) (fail : X) (ex0 : Int → List (List UInt8) → Int → Int → List Int → List (List UInt8) → X) : Nat → Int → List (List UInt8) → Int → Int → List Int → List (List UInt8) → X
  | 0, _, _, _, _, _, _ => fail
  | m + 1, page, payloads, e_, before, ends, done => LogDetects_l2 F fail (LogDetects_l2F F fail ex0 m) ex0 page payloads e_ before ends done

def LogDetects {X : Type} (F : Nat) (l : List (List UInt8)) (s : (UInt8 × (UInt8 × (UInt8 × Unit)))) (fail : X) (ret : Bool → X) : X :=
  bif (lfew_P l) then
  bif (!(lfew_r l)) then
    ret (law49_awake_r)
  else
  bif ((((s.2.2.1).toNat : Nat) : Int) == (0 : Int)) then
    ret (law49_awake_r)
  else
  bif (lBegin_P ([] : List (List UInt8))) then
  LogDetects_l1F F fail
    (fun (l1 : List (List UInt8)) (ok : Bool) (i : Int) (s1 : (UInt8 × (UInt8 × (UInt8 × Unit)))) (d_ : ((List (List UInt8)) × ((List (Int × ((List UInt8) × Unit))) × Unit))) (x_ : (Int × (Int × (Int × Unit)))) (ends : List Int) (done : List (List UInt8)) =>
      bif (!ok) then
        bif (law49_awake_r) then
          bif ok then
            ret (x_.1 == (1 : Int))
          else
          ret false
        else
        ret false
      else
      bif (decide (x_.1 < (2 : Int))) then
        bif (law49_awake_r) then
          bif ok then
            ret (x_.1 == (1 : Int))
          else
          ret false
        else
        ret false
      else
      bif (decide (x_.1 > ((d_.1.length : Nat) : Int))) then
        bif (law49_awake_r) then
          bif ok then
            ret (x_.1 == (1 : Int))
          else
          ret false
        else
        ret false
      else
      bif (((d_.2.1.length : Nat) : Int) != (0 : Int)) then
        bif (law49_awake_r) then
          bif ok then
            ret (x_.1 == (1 : Int))
          else
          ret false
        else
        ret false
      else
      bif ((subI x_.1 (1 : Int)) != (0 : Int)) then
      bif ((decide ((0 : Int) ≤ (addI (1 : Int) (remI (cvBI s1.1) (subI x_.1 (1 : Int)))))) && (decide ((addI (1 : Int) (remI (cvBI s1.1) (subI x_.1 (1 : Int)))) < ((d_.1.length : Nat) : Int)))) then
      bif (((((List.getD (List.getD d_.1 ((addI (1 : Int) (remI (cvBI s1.1) (subI x_.1 (1 : Int))))).toNat z16) 0 (0 : UInt8))).toNat : Nat) : Int) == (2 : Int)) then
        bif (decide ((cvBI (remB s1.2.1 (16 : UInt8))) ≥ (8 : Int))) then
          bif (decide ((cvBI (remB s1.2.1 (16 : UInt8))) < (12 : Int))) then
            ret (law49_awake_r)
          else
          bif ((decide ((0 : Int) ≤ (addI (1 : Int) (remI (cvBI s1.1) (subI x_.1 (1 : Int)))))) && (decide ((addI (1 : Int) (remI (cvBI s1.1) (subI x_.1 (1 : Int)))) < ((d_.1.length : Nat) : Int)))) then
          bif (((((List.getD (List.getD d_.1 ((addI (1 : Int) (remI (cvBI s1.1) (subI x_.1 (1 : Int))))).toNat z16) 0 (0 : UInt8))).toNat : Nat) : Int) == (1 : Int)) then
            bif ((cvBI (remB s1.2.1 (16 : UInt8))) == (0 : Int)) then
              ret (law49_awake_r)
            else
            bif (decide (d_.1.length ≤ big)) then
            bif ((decide ((0 : Int) ≤ (addI (1 : Int) (remI (cvBI s1.1) (subI x_.1 (1 : Int)))))) && (decide ((addI (1 : Int) (remI (cvBI s1.1) (subI x_.1 (1 : Int)))) < ((d_.1.length : Nat) : Int)))) then
            bif ((decide ((0 : Int) ≤ (cvBI (remB s1.2.1 (16 : UInt8))))) && (decide ((cvBI (remB s1.2.1 (16 : UInt8))) < ((16 : Nat) : Int)))) then
            bif ((decide ((0 : Int) ≤ (addI (1 : Int) (remI (cvBI s1.1) (subI x_.1 (1 : Int)))))) && (decide ((addI (1 : Int) (remI (cvBI s1.1) (subI x_.1 (1 : Int)))) < ((d_.1.length : Nat) : Int)))) then
            bif ((decide ((0 : Int) ≤ (cvBI (remB s1.2.1 (16 : UInt8))))) && (decide ((cvBI (remB s1.2.1 (16 : UInt8))) < ((16 : Nat) : Int)))) then
            bif (lOpen_P ((List.set d_.1 ((addI (1 : Int) (remI (cvBI s1.1) (subI x_.1 (1 : Int))))).toNat (List.set (List.getD d_.1 ((addI (1 : Int) (remI (cvBI s1.1) (subI x_.1 (1 : Int))))).toNat z16) ((cvBI (remB s1.2.1 (16 : UInt8)))).toNat (xorB (List.getD (List.getD d_.1 ((addI (1 : Int) (remI (cvBI s1.1) (subI x_.1 (1 : Int))))).toNat z16) ((cvBI (remB s1.2.1 (16 : UInt8)))).toNat (0 : UInt8)) s1.2.2.1))), (([] : List (Int × ((List UInt8) × Unit))), ()))) then
            LogDetects_l2F F fail
              (fun (page : Int) (payloads : List (List UInt8)) (e_ : Int) (before : Int) (ends1 : List Int) (done1 : List (List UInt8)) =>
                bif (law49_awake_r) then
                  bif (e_ == (0 : Int)) then
                    bif (decide (before ≤ ((done1.length : Nat) : Int))) then
                      bif ((decide ((0 : Int) ≤ before)) && (decide (before ≤ ((done1.length : Nat) : Int)))) then
                      bif (qSameB_P payloads (List.take (before).toNat done1)) then
                      ret (qSameB_r payloads (List.take (before).toNat done1))
                      else fail
                      else fail
                    else
                    ret false
                  else
                  ret false
                else
                ret false)
              F (addI (1 : Int) (remI (cvBI s1.1) (subI x_.1 (1 : Int)))) (lOpen_r1 ((List.set d_.1 ((addI (1 : Int) (remI (cvBI s1.1) (subI x_.1 (1 : Int))))).toNat (List.set (List.getD d_.1 ((addI (1 : Int) (remI (cvBI s1.1) (subI x_.1 (1 : Int))))).toNat z16) ((cvBI (remB s1.2.1 (16 : UInt8)))).toNat (xorB (List.getD (List.getD d_.1 ((addI (1 : Int) (remI (cvBI s1.1) (subI x_.1 (1 : Int))))).toNat z16) ((cvBI (remB s1.2.1 (16 : UInt8)))).toNat (0 : UInt8)) s1.2.2.1))), (([] : List (Int × ((List UInt8) × Unit))), ()))) (lOpen_r2 ((List.set d_.1 ((addI (1 : Int) (remI (cvBI s1.1) (subI x_.1 (1 : Int))))).toNat (List.set (List.getD d_.1 ((addI (1 : Int) (remI (cvBI s1.1) (subI x_.1 (1 : Int))))).toNat z16) ((cvBI (remB s1.2.1 (16 : UInt8)))).toNat (xorB (List.getD (List.getD d_.1 ((addI (1 : Int) (remI (cvBI s1.1) (subI x_.1 (1 : Int))))).toNat z16) ((cvBI (remB s1.2.1 (16 : UInt8)))).toNat (0 : UInt8)) s1.2.2.1))), (([] : List (Int × ((List UInt8) × Unit))), ()))) (0 : Int) ends done
            else fail
            else fail
            else fail
            else fail
            else fail
            else fail
          else
          bif (decide (d_.1.length ≤ big)) then
          bif ((decide ((0 : Int) ≤ (addI (1 : Int) (remI (cvBI s1.1) (subI x_.1 (1 : Int)))))) && (decide ((addI (1 : Int) (remI (cvBI s1.1) (subI x_.1 (1 : Int)))) < ((d_.1.length : Nat) : Int)))) then
          bif ((decide ((0 : Int) ≤ (cvBI (remB s1.2.1 (16 : UInt8))))) && (decide ((cvBI (remB s1.2.1 (16 : UInt8))) < ((16 : Nat) : Int)))) then
          bif ((decide ((0 : Int) ≤ (addI (1 : Int) (remI (cvBI s1.1) (subI x_.1 (1 : Int)))))) && (decide ((addI (1 : Int) (remI (cvBI s1.1) (subI x_.1 (1 : Int)))) < ((d_.1.length : Nat) : Int)))) then
          bif ((decide ((0 : Int) ≤ (cvBI (remB s1.2.1 (16 : UInt8))))) && (decide ((cvBI (remB s1.2.1 (16 : UInt8))) < ((16 : Nat) : Int)))) then
          bif (lOpen_P ((List.set d_.1 ((addI (1 : Int) (remI (cvBI s1.1) (subI x_.1 (1 : Int))))).toNat (List.set (List.getD d_.1 ((addI (1 : Int) (remI (cvBI s1.1) (subI x_.1 (1 : Int))))).toNat z16) ((cvBI (remB s1.2.1 (16 : UInt8)))).toNat (xorB (List.getD (List.getD d_.1 ((addI (1 : Int) (remI (cvBI s1.1) (subI x_.1 (1 : Int))))).toNat z16) ((cvBI (remB s1.2.1 (16 : UInt8)))).toNat (0 : UInt8)) s1.2.2.1))), (([] : List (Int × ((List UInt8) × Unit))), ()))) then
          LogDetects_l2F F fail
            (fun (page1 : Int) (payloads1 : List (List UInt8)) (e_1 : Int) (before1 : Int) (ends2 : List Int) (done2 : List (List UInt8)) =>
              bif (law49_awake_r) then
                bif (e_1 == (0 : Int)) then
                  bif (decide (before1 ≤ ((done2.length : Nat) : Int))) then
                    bif ((decide ((0 : Int) ≤ before1)) && (decide (before1 ≤ ((done2.length : Nat) : Int)))) then
                    bif (qSameB_P payloads1 (List.take (before1).toNat done2)) then
                    ret (qSameB_r payloads1 (List.take (before1).toNat done2))
                    else fail
                    else fail
                  else
                  ret false
                else
                ret false
              else
              ret false)
            F (addI (1 : Int) (remI (cvBI s1.1) (subI x_.1 (1 : Int)))) (lOpen_r1 ((List.set d_.1 ((addI (1 : Int) (remI (cvBI s1.1) (subI x_.1 (1 : Int))))).toNat (List.set (List.getD d_.1 ((addI (1 : Int) (remI (cvBI s1.1) (subI x_.1 (1 : Int))))).toNat z16) ((cvBI (remB s1.2.1 (16 : UInt8)))).toNat (xorB (List.getD (List.getD d_.1 ((addI (1 : Int) (remI (cvBI s1.1) (subI x_.1 (1 : Int))))).toNat z16) ((cvBI (remB s1.2.1 (16 : UInt8)))).toNat (0 : UInt8)) s1.2.2.1))), (([] : List (Int × ((List UInt8) × Unit))), ()))) (lOpen_r2 ((List.set d_.1 ((addI (1 : Int) (remI (cvBI s1.1) (subI x_.1 (1 : Int))))).toNat (List.set (List.getD d_.1 ((addI (1 : Int) (remI (cvBI s1.1) (subI x_.1 (1 : Int))))).toNat z16) ((cvBI (remB s1.2.1 (16 : UInt8)))).toNat (xorB (List.getD (List.getD d_.1 ((addI (1 : Int) (remI (cvBI s1.1) (subI x_.1 (1 : Int))))).toNat z16) ((cvBI (remB s1.2.1 (16 : UInt8)))).toNat (0 : UInt8)) s1.2.2.1))), (([] : List (Int × ((List UInt8) × Unit))), ()))) (0 : Int) ends done
          else fail
          else fail
          else fail
          else fail
          else fail
          else fail
          else fail
        else
        bif ((decide ((0 : Int) ≤ (addI (1 : Int) (remI (cvBI s1.1) (subI x_.1 (1 : Int)))))) && (decide ((addI (1 : Int) (remI (cvBI s1.1) (subI x_.1 (1 : Int)))) < ((d_.1.length : Nat) : Int)))) then
        bif (((((List.getD (List.getD d_.1 ((addI (1 : Int) (remI (cvBI s1.1) (subI x_.1 (1 : Int))))).toNat z16) 0 (0 : UInt8))).toNat : Nat) : Int) == (1 : Int)) then
          bif ((cvBI (remB s1.2.1 (16 : UInt8))) == (0 : Int)) then
            ret (law49_awake_r)
          else
          bif (decide (d_.1.length ≤ big)) then
          bif ((decide ((0 : Int) ≤ (addI (1 : Int) (remI (cvBI s1.1) (subI x_.1 (1 : Int)))))) && (decide ((addI (1 : Int) (remI (cvBI s1.1) (subI x_.1 (1 : Int)))) < ((d_.1.length : Nat) : Int)))) then
          bif ((decide ((0 : Int) ≤ (cvBI (remB s1.2.1 (16 : UInt8))))) && (decide ((cvBI (remB s1.2.1 (16 : UInt8))) < ((16 : Nat) : Int)))) then
          bif ((decide ((0 : Int) ≤ (addI (1 : Int) (remI (cvBI s1.1) (subI x_.1 (1 : Int)))))) && (decide ((addI (1 : Int) (remI (cvBI s1.1) (subI x_.1 (1 : Int)))) < ((d_.1.length : Nat) : Int)))) then
          bif ((decide ((0 : Int) ≤ (cvBI (remB s1.2.1 (16 : UInt8))))) && (decide ((cvBI (remB s1.2.1 (16 : UInt8))) < ((16 : Nat) : Int)))) then
          bif (lOpen_P ((List.set d_.1 ((addI (1 : Int) (remI (cvBI s1.1) (subI x_.1 (1 : Int))))).toNat (List.set (List.getD d_.1 ((addI (1 : Int) (remI (cvBI s1.1) (subI x_.1 (1 : Int))))).toNat z16) ((cvBI (remB s1.2.1 (16 : UInt8)))).toNat (xorB (List.getD (List.getD d_.1 ((addI (1 : Int) (remI (cvBI s1.1) (subI x_.1 (1 : Int))))).toNat z16) ((cvBI (remB s1.2.1 (16 : UInt8)))).toNat (0 : UInt8)) s1.2.2.1))), (([] : List (Int × ((List UInt8) × Unit))), ()))) then
          LogDetects_l2F F fail
            (fun (page2 : Int) (payloads2 : List (List UInt8)) (e_2 : Int) (before2 : Int) (ends3 : List Int) (done3 : List (List UInt8)) =>
              bif (law49_awake_r) then
                bif (e_2 == (0 : Int)) then
                  bif (decide (before2 ≤ ((done3.length : Nat) : Int))) then
                    bif ((decide ((0 : Int) ≤ before2)) && (decide (before2 ≤ ((done3.length : Nat) : Int)))) then
                    bif (qSameB_P payloads2 (List.take (before2).toNat done3)) then
                    ret (qSameB_r payloads2 (List.take (before2).toNat done3))
                    else fail
                    else fail
                  else
                  ret false
                else
                ret false
              else
              ret false)
            F (addI (1 : Int) (remI (cvBI s1.1) (subI x_.1 (1 : Int)))) (lOpen_r1 ((List.set d_.1 ((addI (1 : Int) (remI (cvBI s1.1) (subI x_.1 (1 : Int))))).toNat (List.set (List.getD d_.1 ((addI (1 : Int) (remI (cvBI s1.1) (subI x_.1 (1 : Int))))).toNat z16) ((cvBI (remB s1.2.1 (16 : UInt8)))).toNat (xorB (List.getD (List.getD d_.1 ((addI (1 : Int) (remI (cvBI s1.1) (subI x_.1 (1 : Int))))).toNat z16) ((cvBI (remB s1.2.1 (16 : UInt8)))).toNat (0 : UInt8)) s1.2.2.1))), (([] : List (Int × ((List UInt8) × Unit))), ()))) (lOpen_r2 ((List.set d_.1 ((addI (1 : Int) (remI (cvBI s1.1) (subI x_.1 (1 : Int))))).toNat (List.set (List.getD d_.1 ((addI (1 : Int) (remI (cvBI s1.1) (subI x_.1 (1 : Int))))).toNat z16) ((cvBI (remB s1.2.1 (16 : UInt8)))).toNat (xorB (List.getD (List.getD d_.1 ((addI (1 : Int) (remI (cvBI s1.1) (subI x_.1 (1 : Int))))).toNat z16) ((cvBI (remB s1.2.1 (16 : UInt8)))).toNat (0 : UInt8)) s1.2.2.1))), (([] : List (Int × ((List UInt8) × Unit))), ()))) (0 : Int) ends done
          else fail
          else fail
          else fail
          else fail
          else fail
          else fail
        else
        bif (decide (d_.1.length ≤ big)) then
        bif ((decide ((0 : Int) ≤ (addI (1 : Int) (remI (cvBI s1.1) (subI x_.1 (1 : Int)))))) && (decide ((addI (1 : Int) (remI (cvBI s1.1) (subI x_.1 (1 : Int)))) < ((d_.1.length : Nat) : Int)))) then
        bif ((decide ((0 : Int) ≤ (cvBI (remB s1.2.1 (16 : UInt8))))) && (decide ((cvBI (remB s1.2.1 (16 : UInt8))) < ((16 : Nat) : Int)))) then
        bif ((decide ((0 : Int) ≤ (addI (1 : Int) (remI (cvBI s1.1) (subI x_.1 (1 : Int)))))) && (decide ((addI (1 : Int) (remI (cvBI s1.1) (subI x_.1 (1 : Int)))) < ((d_.1.length : Nat) : Int)))) then
        bif ((decide ((0 : Int) ≤ (cvBI (remB s1.2.1 (16 : UInt8))))) && (decide ((cvBI (remB s1.2.1 (16 : UInt8))) < ((16 : Nat) : Int)))) then
        bif (lOpen_P ((List.set d_.1 ((addI (1 : Int) (remI (cvBI s1.1) (subI x_.1 (1 : Int))))).toNat (List.set (List.getD d_.1 ((addI (1 : Int) (remI (cvBI s1.1) (subI x_.1 (1 : Int))))).toNat z16) ((cvBI (remB s1.2.1 (16 : UInt8)))).toNat (xorB (List.getD (List.getD d_.1 ((addI (1 : Int) (remI (cvBI s1.1) (subI x_.1 (1 : Int))))).toNat z16) ((cvBI (remB s1.2.1 (16 : UInt8)))).toNat (0 : UInt8)) s1.2.2.1))), (([] : List (Int × ((List UInt8) × Unit))), ()))) then
        LogDetects_l2F F fail
          (fun (page3 : Int) (payloads3 : List (List UInt8)) (e_3 : Int) (before3 : Int) (ends4 : List Int) (done4 : List (List UInt8)) =>
            bif (law49_awake_r) then
              bif (e_3 == (0 : Int)) then
                bif (decide (before3 ≤ ((done4.length : Nat) : Int))) then
                  bif ((decide ((0 : Int) ≤ before3)) && (decide (before3 ≤ ((done4.length : Nat) : Int)))) then
                  bif (qSameB_P payloads3 (List.take (before3).toNat done4)) then
                  ret (qSameB_r payloads3 (List.take (before3).toNat done4))
                  else fail
                  else fail
                else
                ret false
              else
              ret false
            else
            ret false)
          F (addI (1 : Int) (remI (cvBI s1.1) (subI x_.1 (1 : Int)))) (lOpen_r1 ((List.set d_.1 ((addI (1 : Int) (remI (cvBI s1.1) (subI x_.1 (1 : Int))))).toNat (List.set (List.getD d_.1 ((addI (1 : Int) (remI (cvBI s1.1) (subI x_.1 (1 : Int))))).toNat z16) ((cvBI (remB s1.2.1 (16 : UInt8)))).toNat (xorB (List.getD (List.getD d_.1 ((addI (1 : Int) (remI (cvBI s1.1) (subI x_.1 (1 : Int))))).toNat z16) ((cvBI (remB s1.2.1 (16 : UInt8)))).toNat (0 : UInt8)) s1.2.2.1))), (([] : List (Int × ((List UInt8) × Unit))), ()))) (lOpen_r2 ((List.set d_.1 ((addI (1 : Int) (remI (cvBI s1.1) (subI x_.1 (1 : Int))))).toNat (List.set (List.getD d_.1 ((addI (1 : Int) (remI (cvBI s1.1) (subI x_.1 (1 : Int))))).toNat z16) ((cvBI (remB s1.2.1 (16 : UInt8)))).toNat (xorB (List.getD (List.getD d_.1 ((addI (1 : Int) (remI (cvBI s1.1) (subI x_.1 (1 : Int))))).toNat z16) ((cvBI (remB s1.2.1 (16 : UInt8)))).toNat (0 : UInt8)) s1.2.2.1))), (([] : List (Int × ((List UInt8) × Unit))), ()))) (0 : Int) ends done
        else fail
        else fail
        else fail
        else fail
        else fail
        else fail
        else fail
      else
      bif ((decide ((0 : Int) ≤ (addI (1 : Int) (remI (cvBI s1.1) (subI x_.1 (1 : Int)))))) && (decide ((addI (1 : Int) (remI (cvBI s1.1) (subI x_.1 (1 : Int)))) < ((d_.1.length : Nat) : Int)))) then
      bif (((((List.getD (List.getD d_.1 ((addI (1 : Int) (remI (cvBI s1.1) (subI x_.1 (1 : Int))))).toNat z16) 0 (0 : UInt8))).toNat : Nat) : Int) == (1 : Int)) then
        bif ((cvBI (remB s1.2.1 (16 : UInt8))) == (0 : Int)) then
          ret (law49_awake_r)
        else
        bif (decide (d_.1.length ≤ big)) then
        bif ((decide ((0 : Int) ≤ (addI (1 : Int) (remI (cvBI s1.1) (subI x_.1 (1 : Int)))))) && (decide ((addI (1 : Int) (remI (cvBI s1.1) (subI x_.1 (1 : Int)))) < ((d_.1.length : Nat) : Int)))) then
        bif ((decide ((0 : Int) ≤ (cvBI (remB s1.2.1 (16 : UInt8))))) && (decide ((cvBI (remB s1.2.1 (16 : UInt8))) < ((16 : Nat) : Int)))) then
        bif ((decide ((0 : Int) ≤ (addI (1 : Int) (remI (cvBI s1.1) (subI x_.1 (1 : Int)))))) && (decide ((addI (1 : Int) (remI (cvBI s1.1) (subI x_.1 (1 : Int)))) < ((d_.1.length : Nat) : Int)))) then
        bif ((decide ((0 : Int) ≤ (cvBI (remB s1.2.1 (16 : UInt8))))) && (decide ((cvBI (remB s1.2.1 (16 : UInt8))) < ((16 : Nat) : Int)))) then
        bif (lOpen_P ((List.set d_.1 ((addI (1 : Int) (remI (cvBI s1.1) (subI x_.1 (1 : Int))))).toNat (List.set (List.getD d_.1 ((addI (1 : Int) (remI (cvBI s1.1) (subI x_.1 (1 : Int))))).toNat z16) ((cvBI (remB s1.2.1 (16 : UInt8)))).toNat (xorB (List.getD (List.getD d_.1 ((addI (1 : Int) (remI (cvBI s1.1) (subI x_.1 (1 : Int))))).toNat z16) ((cvBI (remB s1.2.1 (16 : UInt8)))).toNat (0 : UInt8)) s1.2.2.1))), (([] : List (Int × ((List UInt8) × Unit))), ()))) then
        LogDetects_l2F F fail
          (fun (page4 : Int) (payloads4 : List (List UInt8)) (e_4 : Int) (before4 : Int) (ends5 : List Int) (done5 : List (List UInt8)) =>
            bif (law49_awake_r) then
              bif (e_4 == (0 : Int)) then
                bif (decide (before4 ≤ ((done5.length : Nat) : Int))) then
                  bif ((decide ((0 : Int) ≤ before4)) && (decide (before4 ≤ ((done5.length : Nat) : Int)))) then
                  bif (qSameB_P payloads4 (List.take (before4).toNat done5)) then
                  ret (qSameB_r payloads4 (List.take (before4).toNat done5))
                  else fail
                  else fail
                else
                ret false
              else
              ret false
            else
            ret false)
          F (addI (1 : Int) (remI (cvBI s1.1) (subI x_.1 (1 : Int)))) (lOpen_r1 ((List.set d_.1 ((addI (1 : Int) (remI (cvBI s1.1) (subI x_.1 (1 : Int))))).toNat (List.set (List.getD d_.1 ((addI (1 : Int) (remI (cvBI s1.1) (subI x_.1 (1 : Int))))).toNat z16) ((cvBI (remB s1.2.1 (16 : UInt8)))).toNat (xorB (List.getD (List.getD d_.1 ((addI (1 : Int) (remI (cvBI s1.1) (subI x_.1 (1 : Int))))).toNat z16) ((cvBI (remB s1.2.1 (16 : UInt8)))).toNat (0 : UInt8)) s1.2.2.1))), (([] : List (Int × ((List UInt8) × Unit))), ()))) (lOpen_r2 ((List.set d_.1 ((addI (1 : Int) (remI (cvBI s1.1) (subI x_.1 (1 : Int))))).toNat (List.set (List.getD d_.1 ((addI (1 : Int) (remI (cvBI s1.1) (subI x_.1 (1 : Int))))).toNat z16) ((cvBI (remB s1.2.1 (16 : UInt8)))).toNat (xorB (List.getD (List.getD d_.1 ((addI (1 : Int) (remI (cvBI s1.1) (subI x_.1 (1 : Int))))).toNat z16) ((cvBI (remB s1.2.1 (16 : UInt8)))).toNat (0 : UInt8)) s1.2.2.1))), (([] : List (Int × ((List UInt8) × Unit))), ()))) (0 : Int) ends done
        else fail
        else fail
        else fail
        else fail
        else fail
        else fail
      else
      bif (decide (d_.1.length ≤ big)) then
      bif ((decide ((0 : Int) ≤ (addI (1 : Int) (remI (cvBI s1.1) (subI x_.1 (1 : Int)))))) && (decide ((addI (1 : Int) (remI (cvBI s1.1) (subI x_.1 (1 : Int)))) < ((d_.1.length : Nat) : Int)))) then
      bif ((decide ((0 : Int) ≤ (cvBI (remB s1.2.1 (16 : UInt8))))) && (decide ((cvBI (remB s1.2.1 (16 : UInt8))) < ((16 : Nat) : Int)))) then
      bif ((decide ((0 : Int) ≤ (addI (1 : Int) (remI (cvBI s1.1) (subI x_.1 (1 : Int)))))) && (decide ((addI (1 : Int) (remI (cvBI s1.1) (subI x_.1 (1 : Int)))) < ((d_.1.length : Nat) : Int)))) then
      bif ((decide ((0 : Int) ≤ (cvBI (remB s1.2.1 (16 : UInt8))))) && (decide ((cvBI (remB s1.2.1 (16 : UInt8))) < ((16 : Nat) : Int)))) then
      bif (lOpen_P ((List.set d_.1 ((addI (1 : Int) (remI (cvBI s1.1) (subI x_.1 (1 : Int))))).toNat (List.set (List.getD d_.1 ((addI (1 : Int) (remI (cvBI s1.1) (subI x_.1 (1 : Int))))).toNat z16) ((cvBI (remB s1.2.1 (16 : UInt8)))).toNat (xorB (List.getD (List.getD d_.1 ((addI (1 : Int) (remI (cvBI s1.1) (subI x_.1 (1 : Int))))).toNat z16) ((cvBI (remB s1.2.1 (16 : UInt8)))).toNat (0 : UInt8)) s1.2.2.1))), (([] : List (Int × ((List UInt8) × Unit))), ()))) then
      LogDetects_l2F F fail
        (fun (page5 : Int) (payloads5 : List (List UInt8)) (e_5 : Int) (before5 : Int) (ends6 : List Int) (done6 : List (List UInt8)) =>
          bif (law49_awake_r) then
            bif (e_5 == (0 : Int)) then
              bif (decide (before5 ≤ ((done6.length : Nat) : Int))) then
                bif ((decide ((0 : Int) ≤ before5)) && (decide (before5 ≤ ((done6.length : Nat) : Int)))) then
                bif (qSameB_P payloads5 (List.take (before5).toNat done6)) then
                ret (qSameB_r payloads5 (List.take (before5).toNat done6))
                else fail
                else fail
              else
              ret false
            else
            ret false
          else
          ret false)
        F (addI (1 : Int) (remI (cvBI s1.1) (subI x_.1 (1 : Int)))) (lOpen_r1 ((List.set d_.1 ((addI (1 : Int) (remI (cvBI s1.1) (subI x_.1 (1 : Int))))).toNat (List.set (List.getD d_.1 ((addI (1 : Int) (remI (cvBI s1.1) (subI x_.1 (1 : Int))))).toNat z16) ((cvBI (remB s1.2.1 (16 : UInt8)))).toNat (xorB (List.getD (List.getD d_.1 ((addI (1 : Int) (remI (cvBI s1.1) (subI x_.1 (1 : Int))))).toNat z16) ((cvBI (remB s1.2.1 (16 : UInt8)))).toNat (0 : UInt8)) s1.2.2.1))), (([] : List (Int × ((List UInt8) × Unit))), ()))) (lOpen_r2 ((List.set d_.1 ((addI (1 : Int) (remI (cvBI s1.1) (subI x_.1 (1 : Int))))).toNat (List.set (List.getD d_.1 ((addI (1 : Int) (remI (cvBI s1.1) (subI x_.1 (1 : Int))))).toNat z16) ((cvBI (remB s1.2.1 (16 : UInt8)))).toNat (xorB (List.getD (List.getD d_.1 ((addI (1 : Int) (remI (cvBI s1.1) (subI x_.1 (1 : Int))))).toNat z16) ((cvBI (remB s1.2.1 (16 : UInt8)))).toNat (0 : UInt8)) s1.2.2.1))), (([] : List (Int × ((List UInt8) × Unit))), ()))) (0 : Int) ends done
      else fail
      else fail
      else fail
      else fail
      else fail
      else fail
      else fail
      else fail
      else fail)
    F l (lBegin_r2 ([] : List (List UInt8))) (0 : Int) s (lBegin_r0 ([] : List (List UInt8))) (lBegin_r1 ([] : List (List UInt8))) ([(1 : Int)] : List Int) ([] : List (List UInt8))
  else fail
  else fail

end Go.AI
