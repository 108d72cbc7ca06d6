/- Plain functions, printed by running the machine on symbols. -/
import Derived.Test.YtaobeghgcfbcfaaDiskS
namespace Go.AI
open Go
set_option linter.unusedVariables false

def clPage {X : Type} (F : Nat) (s : List (List UInt8)) (fail : X) (both : X → X → X) (ret : List (List UInt8) → X) : X :=
  bif (List.isEmpty s) then
    both (
      ret ([] : List (List UInt8))) (
      bif (decide (s.length ≤ big)) then
      ret s
      else fail)
  else
  bif (decide (s.length ≤ big)) then
  ret s
  else fail

def clPend {X : Type} (F : Nat) (s : List (Int × ((List UInt8) × Unit))) (fail : X) (both : X → X → X) (ret : List (Int × ((List UInt8) × Unit)) → X) : X :=
  bif (List.isEmpty s) then
    both (
      ret ([] : List (Int × ((List UInt8) × Unit)))) (
      bif (decide (s.length ≤ big)) then
      ret s
      else fail)
  else
  bif (decide (s.length ≤ big)) then
  ret s
  else fail

def clInt {X : Type} (F : Nat) (s : List Int) (fail : X) (both : X → X → X) (ret : List Int → X) : X :=
  bif (List.isEmpty s) then
    both (
      ret ([] : List Int)) (
      bif (decide (s.length ≤ big)) then
      ret s
      else fail)
  else
  bif (decide (s.length ≤ big)) then
  ret s
  else fail

def dFits {X : Type} (F : Nat) (d_ : ((List (List UInt8)) × ((List (Int × ((List UInt8) × Unit))) × Unit))) (at_ : Int) (count : Int) (fail : X) (ret : Bool → X) : X :=
  bif (decide (at_ ≥ (0 : Int))) then
    bif (decide (count ≥ (0 : Int))) then
      bif (decide (at_ ≤ ((d_.1.length : Nat) : Int))) then
        ret (decide (count ≤ (subI ((d_.1.length : Nat) : Int) at_)))
      else
      ret false
    else
    ret false
  else
  ret false

def dNew {X : Type} (F : Nat) (pages : Int) (fail : X) (ret : ((List (List UInt8)) × ((List (Int × ((List UInt8) × Unit))) × Unit)) → Int → X) : X :=
  bif (decide (pages < (1 : Int))) then
    ret (([] : List (List UInt8)), (([] : List (Int × ((List UInt8) × Unit))), ())) (2 : Int)
  else
  bif (decide (pages > (8192 : Int))) then
    ret (([] : List (List UInt8)), (([] : List (Int × ((List UInt8) × Unit))), ())) (2 : Int)
  else
  bif (((decide ((0 : Int) ≤ pages)) && true) && (decide (pages ≤ ((big : Nat) : Int)))) then
  ret ((List.replicate (pages).toNat z16), (([] : List (Int × ((List UInt8) × Unit))), ())) (0 : Int)
  else fail

def dCheck_l1 {X : Type} (F : Nat) (fail : X) (next : List (Int × ((List UInt8) × Unit)) → Int → Int → Int → ((List (List UInt8)) × ((List (Int × ((List UInt8) × Unit))) × Unit)) → X) (ex0 : List (Int × ((List UInt8) × Unit)) → Int → Int → Int → ((List (List UInt8)) × ((List (Int × ((List UInt8) × Unit))) × Unit)) → X) (ex1 : List (Int × ((List UInt8) × Unit)) → Int → Int → Int → ((List (List UInt8)) × ((List (Int × ((List UInt8) × Unit))) × Unit)) → X) (s : List (Int × ((List UInt8) × Unit))) (s4 : Int) (s7 : Int) (s8 : Int) (f : ((List (List UInt8)) × ((List (Int × ((List UInt8) × Unit))) × Unit))) : X :=
  bif (decide (s8 < s7)) then
    bif ((decide ((0 : Int) ≤ s8)) && (decide (s8 < ((s.length : Nat) : Int)))) then
    bif (decide ((List.getD s (s8).toNat ((0 : Int), (z16, ()))).1 < (0 : Int))) then
      ex0 s s8 s7 s8 f
    else
    bif (decide ((List.getD s (s8).toNat ((0 : Int), (z16, ()))).1 ≥ ((f.1.length : Nat) : Int))) then
      ex0 s s8 s7 s8 f
    else
    next s s4 s7 (addI s8 (1 : Int)) f
    else fail
  else
  ex1 s s4 s7 s8 f
def dCheck_l1F {X : Type} (F : Nat) (fail : X) (ex0 : List (Int × ((List UInt8) × Unit)) → Int → Int → Int → ((List (List UInt8)) × ((List (Int × ((List UInt8) × Unit))) × Unit)) → X) (ex1 : List (Int × ((List UInt8) × Unit)) → Int → Int → Int → ((List (List UInt8)) × ((List (Int × ((List UInt8) × Unit))) × Unit)) → X) : Nat → List (Int × ((List UInt8) × Unit)) → Int → Int → Int → ((List (List UInt8)) × ((List (Int × ((List UInt8) × Unit))) × Unit)) → X
  | 0, _, _, _, _, _ => fail
  | m + 1, s, s4, s7, s8, f => dCheck_l1 F fail (dCheck_l1F F fail ex0 ex1 m) ex0 ex1 s s4 s7 s8 f

def dCheck {X : Type} (F : Nat) (d_ : ((List (List UInt8)) × ((List (Int × ((List UInt8) × Unit))) × Unit))) (fail : X) (ret : Int → X) : X :=
  bif (decide (((d_.1.length : Nat) : Int) < (1 : Int))) then
    ret (2 : Int)
  else
  bif (decide (((d_.1.length : Nat) : Int) > (8192 : Int))) then
    ret (2 : Int)
  else
  dCheck_l1F F fail
    (fun (s : List (Int × ((List UInt8) × Unit))) (s4 : Int) (s7 : Int) (s8 : Int) (f : ((List (List UInt8)) × ((List (Int × ((List UInt8) × Unit))) × Unit))) =>
      bif (decide (s4 ≥ (0 : Int))) then
        ret (2 : Int)
      else
      ret (0 : Int))
    (fun (s1 : List (Int × ((List UInt8) × Unit))) (s41 : Int) (s71 : Int) (s81 : Int) (f1 : ((List (List UInt8)) × ((List (Int × ((List UInt8) × Unit))) × Unit))) =>
      ret (0 : Int))
    F d_.2.1 (0 : Int) ((d_.2.1.length : Nat) : Int) (0 : Int) d_

def contents_l1 {X : Type} (F : Nat) (fail : X) (next : List (Int × ((List UInt8) × Unit)) → Int → Int → List (List UInt8) → X) (ex0 : List (Int × ((List UInt8) × Unit)) → Int → Int → List (List UInt8) → X) (s10 : List (Int × ((List UInt8) × Unit))) (s11 : Int) (s12 : Int) (out : List (List UInt8)) : X :=
  bif (decide (s12 < s11)) then
    bif ((decide ((0 : Int) ≤ s12)) && (decide (s12 < ((s10.length : Nat) : Int)))) then
    bif ((decide ((0 : Int) ≤ (List.getD s10 (s12).toNat ((0 : Int), (z16, ()))).1)) && (decide ((List.getD s10 (s12).toNat ((0 : Int), (z16, ()))).1 < ((out.length : Nat) : Int)))) then
    next s10 s11 (addI s12 (1 : Int)) (List.set out ((List.getD s10 (s12).toNat ((0 : Int), (z16, ()))).1).toNat (List.getD s10 (s12).toNat ((0 : Int), (z16, ()))).2.1)
    else fail
    else fail
  else
  ex0 s10 s11 s12 out
def contents_l1F {X : Type} (F : Nat) (fail : X) (ex0 : List (Int × ((List UInt8) × Unit)) → Int → Int → List (List UInt8) → X) : Nat → List (Int × ((List UInt8) × Unit)) → Int → Int → List (List UInt8) → X
  | 0, _, _, _, _ => fail
  | m + 1, s10, s11, s12, out => contents_l1 F fail (contents_l1F F fail ex0 m) ex0 s10 s11 s12 out

def contents {X : Type} (F : Nat) (d_ : ((List (List UInt8)) × ((List (Int × ((List UInt8) × Unit))) × Unit))) (fail : X) (ret : List (List UInt8) → X) : X :=
  bif (clPage_P d_.1) then
  contents_l1F F fail
    (fun (s10 : List (Int × ((List UInt8) × Unit))) (s11 : Int) (s12 : Int) (out : List (List UInt8)) =>
      ret out)
    F d_.2.1 ((d_.2.1.length : Nat) : Int) (0 : Int) (clPage_r d_.1)
  else fail

def dRead {X : Type} (F : Nat) (d_ : ((List (List UInt8)) × ((List (Int × ((List UInt8) × Unit))) × Unit))) (at_ : Int) (count : Int) (fail : X) (ret : List (List UInt8) → Int → X) : X :=
  bif (dCheck_P d_) then
  bif ((dCheck_r d_) != (0 : Int)) then
    ret ([] : List (List UInt8)) (dCheck_r d_)
  else
  bif (dFits_P d_ at_ count) then
  bif (!(dFits_r d_ at_ count)) then
    ret ([] : List (List UInt8)) (2 : Int)
  else
  bif (contents_P d_) then
  bif (((decide ((0 : Int) ≤ at_)) && (decide (at_ ≤ (addI at_ count)))) && (decide ((addI at_ count) ≤ (((contents_r d_).length : Nat) : Int)))) then
  bif (clPage_P (List.take (((addI at_ count)).toNat - (at_).toNat) (List.drop (at_).toNat (contents_r d_)))) then
  ret (clPage_r (List.take (((addI at_ count)).toNat - (at_).toNat) (List.drop (at_).toNat (contents_r d_)))) (0 : Int)
  else fail
  else fail
  else fail
  else fail
  else fail

def dRun_l2 {X : Type} (F : Nat) (fail : X) (next : List (List UInt8) → Int → Int → List (Int × (Int × ((List (List UInt8)) × Unit))) → Int → Int → Int → List (Int × (Int × ((List (List UInt8)) × Unit))) → Int → Int → List (List UInt8) → List (Int × ((List UInt8) × Unit)) → (Int × (Int × ((List (List UInt8)) × Unit))) → ((List (List UInt8)) × ((List (Int × ((List UInt8) × Unit))) × Unit)) → X) (ex0 : List (List UInt8) → Int → Int → List (Int × (Int × ((List (List UInt8)) × Unit))) → Int → Int → Int → List (Int × (Int × ((List (List UInt8)) × Unit))) → Int → Int → List (List UInt8) → List (Int × ((List UInt8) × Unit)) → (Int × (Int × ((List (List UInt8)) × Unit))) → ((List (List UInt8)) × ((List (Int × ((List UInt8) × Unit))) × Unit)) → X) (s18 : List (List UInt8)) (s19 : Int) (s20 : Int) (l : List (Int × (Int × ((List (List UInt8)) × Unit)))) (s5 : Int) (s6 : Int) (i : Int) (s22 : List (Int × (Int × ((List (List UInt8)) × Unit)))) (s23 : Int) (s24 : Int) (h1 : List (List UInt8)) (h2 : List (Int × ((List UInt8) × Unit))) (op : (Int × (Int × ((List (List UInt8)) × Unit)))) (s4 : ((List (List UInt8)) × ((List (Int × ((List UInt8) × Unit))) × Unit))) : X :=
  bif (decide (s20 < s19)) then
    bif ((decide ((0 : Int) ≤ s20)) && (decide (s20 < ((s18.length : Nat) : Int)))) then
    bif (decide ((h2 ++ ([((addI op.2.1 s20), ((List.getD s18 (s20).toNat z16), ()))] : List (Int × ((List UInt8) × Unit)))).length ≤ big)) then
    next s18 s19 (addI s20 (1 : Int)) l s5 s6 i s22 s23 s24 h1 (h2 ++ ([((addI op.2.1 s20), ((List.getD s18 (s20).toNat z16), ()))] : List (Int × ((List UInt8) × Unit)))) op s4
    else fail
    else fail
  else
  ex0 s18 s19 s20 l s5 s6 i s22 s23 s24 h1 h2 op s4
def dRun_l2F {X : Type} (F : Nat) (fail : X) (ex0 : List (List UInt8) → Int → Int → List (Int × (Int × ((List (List UInt8)) × Unit))) → Int → Int → Int → List (Int × (Int × ((List (List UInt8)) × Unit))) → Int → Int → List (List UInt8) → List (Int × ((List UInt8) × Unit)) → (Int × (Int × ((List (List UInt8)) × Unit))) → ((List (List UInt8)) × ((List (Int × ((List UInt8) × Unit))) × Unit)) → X) : Nat → List (List UInt8) → Int → Int → List (Int × (Int × ((List (List UInt8)) × Unit))) → Int → Int → Int → List (Int × (Int × ((List (List UInt8)) × Unit))) → Int → Int → List (List UInt8) → List (Int × ((List UInt8) × Unit)) → (Int × (Int × ((List (List UInt8)) × Unit))) → ((List (List UInt8)) × ((List (Int × ((List UInt8) × Unit))) × Unit)) → X
  | 0, _, _, _, _, _, _, _, _, _, _, _, _, _, _ => fail
  | m + 1, s18, s19, s20, l, s5, s6, i, s22, s23, s24, h1, h2, op, s4 => dRun_l2 F fail (dRun_l2F F fail ex0 m) ex0 s18 s19 s20 l s5 s6 i s22 s23 s24 h1 h2 op s4

def dRun_l1 {X : Type} (F : Nat) (fail : X) (next : List (Int × (Int × ((List (List UInt8)) × Unit))) → Int → Int → List (Int × (Int × ((List (List UInt8)) × Unit))) → Int → Int → ((List (List UInt8)) × ((List (Int × ((List UInt8) × Unit))) × Unit)) → List (List UInt8) → List (Int × ((List UInt8) × Unit)) → X) (ex0 : List (Int × (Int × ((List (List UInt8)) × Unit))) → Int → Int → List (Int × (Int × ((List (List UInt8)) × Unit))) → Int → Int → ((List (List UInt8)) × ((List (Int × ((List UInt8) × Unit))) × Unit)) → List (List UInt8) → List (Int × ((List UInt8) × Unit)) → X) (ex1 : List (Int × (Int × ((List (List UInt8)) × Unit))) → Int → Int → List (Int × (Int × ((List (List UInt8)) × Unit))) → Int → Int → ((List (List UInt8)) × ((List (Int × ((List UInt8) × Unit))) × Unit)) → List (List UInt8) → List (Int × ((List UInt8) × Unit)) → X) (l : List (Int × (Int × ((List (List UInt8)) × Unit)))) (s5 : Int) (s6 : Int) (s22 : List (Int × (Int × ((List (List UInt8)) × Unit)))) (s23 : Int) (s24 : Int) (s4 : ((List (List UInt8)) × ((List (Int × ((List UInt8) × Unit))) × Unit))) (h2 : List (List UInt8)) (h3 : List (Int × ((List UInt8) × Unit))) : X :=
  bif (decide (s24 < s23)) then
    bif ((decide ((0 : Int) ≤ s24)) && (decide (s24 < ((s22.length : Nat) : Int)))) then
    bif (decide ((List.getD s22 (s24).toNat ((0 : Int), ((0 : Int), (([] : List (List UInt8)), ())))).1 ≥ (0 : Int))) then
      bif (decide ((List.getD s22 (s24).toNat ((0 : Int), ((0 : Int), (([] : List (List UInt8)), ())))).1 < (2 : Int))) then
        bif ((decide ((0 : Int) ≤ (List.getD s22 (s24).toNat ((0 : Int), ((0 : Int), (([] : List (List UInt8)), ())))).1)) && (decide ((List.getD s22 (s24).toNat ((0 : Int), ((0 : Int), (([] : List (List UInt8)), ())))).1 < ((2 : Nat) : Int)))) then
        bif (Nat.beq ((List.getD s22 (s24).toNat ((0 : Int), ((0 : Int), (([] : List (List UInt8)), ())))).1).toNat 0) then
          bif (dFits_P (h2, (h3, ())) (List.getD s22 (s24).toNat ((0 : Int), ((0 : Int), (([] : List (List UInt8)), ())))).2.1 (((List.getD s22 (s24).toNat ((0 : Int), ((0 : Int), (([] : List (List UInt8)), ())))).2.2.1.length : Nat) : Int)) then
          bif (!(dFits_r (h2, (h3, ())) (List.getD s22 (s24).toNat ((0 : Int), ((0 : Int), (([] : List (List UInt8)), ())))).2.1 (((List.getD s22 (s24).toNat ((0 : Int), ((0 : Int), (([] : List (List UInt8)), ())))).2.2.1.length : Nat) : Int))) then
            ex0 l s24 (2 : Int) s22 s23 s24 (([] : List (List UInt8)), (([] : List (Int × ((List UInt8) × Unit))), ())) h2 h3
          else
          dRun_l2F F fail
            (fun (s18 : List (List UInt8)) (s19 : Int) (s20 : Int) (l1 : List (Int × (Int × ((List (List UInt8)) × Unit)))) (s51 : Int) (s61 : Int) (i : Int) (s221 : List (Int × (Int × ((List (List UInt8)) × Unit)))) (s231 : Int) (s241 : Int) (h1 : List (List UInt8)) (h21 : List (Int × ((List UInt8) × Unit))) (op : (Int × (Int × ((List (List UInt8)) × Unit)))) (s41 : ((List (List UInt8)) × ((List (Int × ((List UInt8) × Unit))) × Unit))) =>
              next l1 s51 s61 s221 s231 (addI s241 (1 : Int)) s41 h1 h21)
            F (List.getD s22 (s24).toNat ((0 : Int), ((0 : Int), (([] : List (List UInt8)), ())))).2.2.1 (((List.getD s22 (s24).toNat ((0 : Int), ((0 : Int), (([] : List (List UInt8)), ())))).2.2.1.length : Nat) : Int) (0 : Int) l s5 s6 s24 s22 s23 s24 h2 h3 (List.getD s22 (s24).toNat ((0 : Int), ((0 : Int), (([] : List (List UInt8)), ())))) s4
          else fail
        else
        bif (Nat.beq ((List.getD s22 (s24).toNat ((0 : Int), ((0 : Int), (([] : List (List UInt8)), ())))).1).toNat 1) then
        bif (contents_P (h2, (h3, ()))) then
        next l s5 s6 s22 s23 (addI s24 (1 : Int)) s4 (contents_r (h2, (h3, ()))) ([] : List (Int × ((List UInt8) × Unit)))
        else fail
        else fail
        else fail
      else
      ex0 l s24 (1 : Int) s22 s23 s24 (([] : List (List UInt8)), (([] : List (Int × ((List UInt8) × Unit))), ())) h2 h3
    else
    ex0 l s24 (1 : Int) s22 s23 s24 (([] : List (List UInt8)), (([] : List (Int × ((List UInt8) × Unit))), ())) h2 h3
    else fail
  else
  ex1 l s5 s6 s22 s23 s24 s4 h2 h3
def dRun_l1F {X : Type} (F : Nat) (fail : X) (ex0 : List (Int × (Int × ((List (List UInt8)) × Unit))) → Int → Int → List (Int × (Int × ((List (List UInt8)) × Unit))) → Int → Int → ((List (List UInt8)) × ((List (Int × ((List UInt8) × Unit))) × Unit)) → List (List UInt8) → List (Int × ((List UInt8) × Unit)) → X) (ex1 : List (Int × (Int × ((List (List UInt8)) × Unit))) → Int → Int → List (Int × (Int × ((List (List UInt8)) × Unit))) → Int → Int → ((List (List UInt8)) × ((List (Int × ((List UInt8) × Unit))) × Unit)) → List (List UInt8) → List (Int × ((List UInt8) × Unit)) → X) : Nat → List (Int × (Int × ((List (List UInt8)) × Unit))) → Int → Int → List (Int × (Int × ((List (List UInt8)) × Unit))) → Int → Int → ((List (List UInt8)) × ((List (Int × ((List UInt8) × Unit))) × Unit)) → List (List UInt8) → List (Int × ((List UInt8) × Unit)) → X
  | 0, _, _, _, _, _, _, _, _, _ => fail
  | m + 1, l, s5, s6, s22, s23, s24, s4, h2, h3 => dRun_l1 F fail (dRun_l1F F fail ex0 ex1 m) ex0 ex1 l s5 s6 s22 s23 s24 s4 h2 h3

def dRun {X : Type} (F : Nat) (d_ : ((List (List UInt8)) × ((List (Int × ((List UInt8) × Unit))) × Unit))) (l : List (Int × (Int × ((List (List UInt8)) × Unit)))) (fail : X) (ret : ((List (List UInt8)) × ((List (Int × ((List UInt8) × Unit))) × Unit)) → Int → Int → X) : X :=
  bif (dCheck_P d_) then
  bif ((dCheck_r d_) != (0 : Int)) then
    ret (([] : List (List UInt8)), (([] : List (Int × ((List UInt8) × Unit))), ())) (0 : Int) (dCheck_r d_)
  else
  bif (clPage_P d_.1) then
  bif (clPend_P d_.2.1) then
  dRun_l1F F fail
    (fun (l1 : List (Int × (Int × ((List (List UInt8)) × Unit)))) (s5 : Int) (s6 : Int) (s22 : List (Int × (Int × ((List (List UInt8)) × Unit)))) (s23 : Int) (s24 : Int) (s4 : ((List (List UInt8)) × ((List (Int × ((List UInt8) × Unit))) × Unit))) (h2 : List (List UInt8)) (h3 : List (Int × ((List UInt8) × Unit))) =>
      ret s4 s5 s6)
    (fun (l2 : List (Int × (Int × ((List (List UInt8)) × Unit)))) (s51 : Int) (s61 : Int) (s221 : List (Int × (Int × ((List (List UInt8)) × Unit)))) (s231 : Int) (s241 : Int) (s41 : ((List (List UInt8)) × ((List (Int × ((List UInt8) × Unit))) × Unit))) (h21 : List (List UInt8)) (h31 : List (Int × ((List UInt8) × Unit))) =>
      ret (h21, (h31, ())) ((l2.length : Nat) : Int) (0 : Int))
    F l (0 : Int) (0 : Int) l ((l.length : Nat) : Int) (0 : Int) (([] : List (List UInt8)), (([] : List (Int × ((List UInt8) × Unit))), ())) (clPage_r d_.1) (clPend_r d_.2.1)
  else fail
  else fail
  else fail

def dDecide {X : Type} (F : Nat) (choices : List Int) (n : Int) (fail : X) (ret : Int → List Int → X) : X :=
  bif (((choices.length : Nat) : Int) == (0 : Int)) then
    ret (0 : Int) ([] : List Int)
  else
  bif (decide ((0 : Int) < ((choices.length : Nat) : Int))) then
  bif (n != (0 : Int)) then
  bif (decide ((remI (List.getD choices 0 (0 : Int)) n) < (0 : Int))) then
    bif (decide ((1 : Int) ≤ ((choices.length : Nat) : Int))) then
    ret (addI (remI (List.getD choices 0 (0 : Int)) n) n) (List.drop 1 choices)
    else fail
  else
  bif (decide ((1 : Int) ≤ ((choices.length : Nat) : Int))) then
  ret (remI (List.getD choices 0 (0 : Int)) n) (List.drop 1 choices)
  else fail
  else fail
  else fail

def dCrash_l1 {X : Type} (F : Nat) (fail : X) (next : List Int → List (Int × ((List UInt8) × Unit)) → Int → Int → ((List (List UInt8)) × ((List (Int × ((List UInt8) × Unit))) × Unit)) → ((List (List UInt8)) × ((List (Int × ((List UInt8) × Unit))) × Unit)) → List (Int × (List (List UInt8))) → List Int → X) (ex0 : List Int → List (Int × ((List UInt8) × Unit)) → Int → Int → ((List (List UInt8)) × ((List (Int × ((List UInt8) × Unit))) × Unit)) → ((List (List UInt8)) × ((List (Int × ((List UInt8) × Unit))) × Unit)) → List (Int × (List (List UInt8))) → List Int → X) (choices : List Int) (s24 : List (Int × ((List UInt8) × Unit))) (s25 : Int) (s26 : Int) (d_ : ((List (List UInt8)) × ((List (Int × ((List UInt8) × Unit))) × Unit))) (s4 : ((List (List UInt8)) × ((List (Int × ((List UInt8) × Unit))) × Unit))) (versions : List (Int × (List (List UInt8)))) (places : List Int) : X :=
  bif (decide (s26 < s25)) then
    bif ((decide ((0 : Int) ≤ s26)) && (decide (s26 < ((s24.length : Nat) : Int)))) then
    bif (Option.isNone (mfind (beqT (.int .i64)) (List.getD s24 (s26).toNat ((0 : Int), (z16, ()))).1 versions)) then
      bif (decide ((places ++ ([(List.getD s24 (s26).toNat ((0 : Int), (z16, ()))).1] : List Int)).length ≤ big)) then
      bif ((decide ((0 : Int) ≤ (List.getD s24 (s26).toNat ((0 : Int), (z16, ()))).1)) && (decide ((List.getD s24 (s26).toNat ((0 : Int), (z16, ()))).1 < ((d_.1.length : Nat) : Int)))) then
      bif (decide (versions.length < big)) then
      bif (Option.isSome (mfind (beqT (.int .i64)) (List.getD s24 (s26).toNat ((0 : Int), (z16, ()))).1 (mput (beqT (.int .i64)) (List.getD s24 (s26).toNat ((0 : Int), (z16, ()))).1 ([(List.getD d_.1 ((List.getD s24 (s26).toNat ((0 : Int), (z16, ()))).1).toNat z16)] : List (List UInt8)) versions))) then
      bif (decide (((Option.getD (mfind (beqT (.int .i64)) (List.getD s24 (s26).toNat ((0 : Int), (z16, ()))).1 (mput (beqT (.int .i64)) (List.getD s24 (s26).toNat ((0 : Int), (z16, ()))).1 ([(List.getD d_.1 ((List.getD s24 (s26).toNat ((0 : Int), (z16, ()))).1).toNat z16)] : List (List UInt8)) versions)) ([] : List (List UInt8))) ++ ([(List.getD s24 (s26).toNat ((0 : Int), (z16, ()))).2.1] : List (List UInt8))).length ≤ big)) then
      bif (((beqT (.int .i64) (List.getD s24 (s26).toNat ((0 : Int), (z16, ()))).1 (List.getD s24 (s26).toNat ((0 : Int), (z16, ()))).1) && (decide (0 < ((Option.getD (mfind (beqT (.int .i64)) (List.getD s24 (s26).toNat ((0 : Int), (z16, ()))).1 (mput (beqT (.int .i64)) (List.getD s24 (s26).toNat ((0 : Int), (z16, ()))).1 ([(List.getD d_.1 ((List.getD s24 (s26).toNat ((0 : Int), (z16, ()))).1).toNat z16)] : List (List UInt8)) versions)) ([] : List (List UInt8))) ++ ([(List.getD s24 (s26).toNat ((0 : Int), (z16, ()))).2.1] : List (List UInt8))).length))) && (decide ((mput (beqT (.int .i64)) (List.getD s24 (s26).toNat ((0 : Int), (z16, ()))).1 ([(List.getD d_.1 ((List.getD s24 (s26).toNat ((0 : Int), (z16, ()))).1).toNat z16)] : List (List UInt8)) versions).length < big))) then
      next choices s24 s25 (addI s26 (1 : Int)) d_ s4 (mput (beqT (.int .i64)) (List.getD s24 (s26).toNat ((0 : Int), (z16, ()))).1 ((Option.getD (mfind (beqT (.int .i64)) (List.getD s24 (s26).toNat ((0 : Int), (z16, ()))).1 (mput (beqT (.int .i64)) (List.getD s24 (s26).toNat ((0 : Int), (z16, ()))).1 ([(List.getD d_.1 ((List.getD s24 (s26).toNat ((0 : Int), (z16, ()))).1).toNat z16)] : List (List UInt8)) versions)) ([] : List (List UInt8))) ++ ([(List.getD s24 (s26).toNat ((0 : Int), (z16, ()))).2.1] : List (List UInt8))) (mput (beqT (.int .i64)) (List.getD s24 (s26).toNat ((0 : Int), (z16, ()))).1 ([(List.getD d_.1 ((List.getD s24 (s26).toNat ((0 : Int), (z16, ()))).1).toNat z16)] : List (List UInt8)) versions)) (places ++ ([(List.getD s24 (s26).toNat ((0 : Int), (z16, ()))).1] : List Int))
      else fail
      else fail
      else fail
      else fail
      else fail
      else fail
    else
    bif (Option.isSome (mfind (beqT (.int .i64)) (List.getD s24 (s26).toNat ((0 : Int), (z16, ()))).1 versions)) then
    bif (decide (((Option.getD (mfind (beqT (.int .i64)) (List.getD s24 (s26).toNat ((0 : Int), (z16, ()))).1 versions) ([] : List (List UInt8))) ++ ([(List.getD s24 (s26).toNat ((0 : Int), (z16, ()))).2.1] : List (List UInt8))).length ≤ big)) then
    bif (((beqT (.int .i64) (List.getD s24 (s26).toNat ((0 : Int), (z16, ()))).1 (List.getD s24 (s26).toNat ((0 : Int), (z16, ()))).1) && (decide (0 < ((Option.getD (mfind (beqT (.int .i64)) (List.getD s24 (s26).toNat ((0 : Int), (z16, ()))).1 versions) ([] : List (List UInt8))) ++ ([(List.getD s24 (s26).toNat ((0 : Int), (z16, ()))).2.1] : List (List UInt8))).length))) && (decide (versions.length < big))) then
    next choices s24 s25 (addI s26 (1 : Int)) d_ s4 (mput (beqT (.int .i64)) (List.getD s24 (s26).toNat ((0 : Int), (z16, ()))).1 ((Option.getD (mfind (beqT (.int .i64)) (List.getD s24 (s26).toNat ((0 : Int), (z16, ()))).1 versions) ([] : List (List UInt8))) ++ ([(List.getD s24 (s26).toNat ((0 : Int), (z16, ()))).2.1] : List (List UInt8))) versions) places
    else fail
    else fail
    else fail
    else fail
  else
  ex0 choices s24 s25 s26 d_ s4 versions places
def dCrash_l1F {X : Type} (F : Nat) (fail : X) (ex0 : List Int → List (Int × ((List UInt8) × Unit)) → Int → Int → ((List (List UInt8)) × ((List (Int × ((List UInt8) × Unit))) × Unit)) → ((List (List UInt8)) × ((List (Int × ((List UInt8) × Unit))) × Unit)) → List (Int × (List (List UInt8))) → List Int → X) : Nat → List Int → List (Int × ((List UInt8) × Unit)) → Int → Int → ((List (List UInt8)) × ((List (Int × ((List UInt8) × Unit))) × Unit)) → ((List (List UInt8)) × ((List (Int × ((List UInt8) × Unit))) × Unit)) → List (Int × (List (List UInt8))) → List Int → X
  | 0, _, _, _, _, _, _, _, _ => fail
  | m + 1, choices, s24, s25, s26, d_, s4, versions, places => dCrash_l1 F fail (dCrash_l1F F fail ex0 m) ex0 choices s24 s25 s26 d_ s4 versions places

def dCrash_l2 {X : Type} (F : Nat) (fail : X) (next : List Int → Int → Int → ((List (List UInt8)) × ((List (Int × ((List UInt8) × Unit))) × Unit)) → List (Int × (List (List UInt8))) → ((List (Int × ((List UInt8) × Unit))) × Unit) → List (List UInt8) → List Int → X) (ex0 : List Int → Int → Int → ((List (List UInt8)) × ((List (Int × ((List UInt8) × Unit))) × Unit)) → List (Int × (List (List UInt8))) → ((List (Int × ((List UInt8) × Unit))) × Unit) → List (List UInt8) → List Int → X) (choices : List Int) (s67 : Int) (s68 : Int) (s4 : ((List (List UInt8)) × ((List (Int × ((List UInt8) × Unit))) × Unit))) (versions : List (Int × (List (List UInt8)))) (out : ((List (Int × ((List UInt8) × Unit))) × Unit)) (h3 : List (List UInt8)) (s66 : List Int) : X :=
  bif (decide (s68 < s67)) then
    bif ((decide ((0 : Int) ≤ s68)) && (decide (s68 < ((s66.length : Nat) : Int)))) then
    bif (dDecide_P choices (((Option.getD (mfind (beqT (.int .i64)) (List.getD s66 (s68).toNat (0 : Int)) versions) ([] : List (List UInt8))).length : Nat) : Int)) then
    bif ((decide ((0 : Int) ≤ (dDecide_r0 choices (((Option.getD (mfind (beqT (.int .i64)) (List.getD s66 (s68).toNat (0 : Int)) versions) ([] : List (List UInt8))).length : Nat) : Int)))) && (decide ((dDecide_r0 choices (((Option.getD (mfind (beqT (.int .i64)) (List.getD s66 (s68).toNat (0 : Int)) versions) ([] : List (List UInt8))).length : Nat) : Int)) < (((Option.getD (mfind (beqT (.int .i64)) (List.getD s66 (s68).toNat (0 : Int)) versions) ([] : List (List UInt8))).length : Nat) : Int)))) then
    bif ((decide ((0 : Int) ≤ (List.getD s66 (s68).toNat (0 : Int)))) && (decide ((List.getD s66 (s68).toNat (0 : Int)) < ((h3.length : Nat) : Int)))) then
    next (dDecide_r1 choices (((Option.getD (mfind (beqT (.int .i64)) (List.getD s66 (s68).toNat (0 : Int)) versions) ([] : List (List UInt8))).length : Nat) : Int)) s67 (addI s68 (1 : Int)) s4 versions out (List.set h3 ((List.getD s66 (s68).toNat (0 : Int))).toNat (List.getD (Option.getD (mfind (beqT (.int .i64)) (List.getD s66 (s68).toNat (0 : Int)) versions) ([] : List (List UInt8))) ((dDecide_r0 choices (((Option.getD (mfind (beqT (.int .i64)) (List.getD s66 (s68).toNat (0 : Int)) versions) ([] : List (List UInt8))).length : Nat) : Int))).toNat z16)) s66
    else fail
    else fail
    else fail
    else fail
  else
  ex0 choices s67 s68 s4 versions out h3 s66
def dCrash_l2F {X : Type} (F : Nat) (fail : X) (ex0 : List Int → Int → Int → ((List (List UInt8)) × ((List (Int × ((List UInt8) × Unit))) × Unit)) → List (Int × (List (List UInt8))) → ((List (Int × ((List UInt8) × Unit))) × Unit) → List (List UInt8) → List Int → X) : Nat → List Int → Int → Int → ((List (List UInt8)) × ((List (Int × ((List UInt8) × Unit))) × Unit)) → List (Int × (List (List UInt8))) → ((List (Int × ((List UInt8) × Unit))) × Unit) → List (List UInt8) → List Int → X
  | 0, _, _, _, _, _, _, _, _ => fail
  | m + 1, choices, s67, s68, s4, versions, out, h3, s66 => dCrash_l2 F fail (dCrash_l2F F fail ex0 m) ex0 choices s67 s68 s4 versions out h3 s66

def dCrash {X : Type} (F : Nat) (d_ : ((List (List UInt8)) × ((List (Int × ((List UInt8) × Unit))) × Unit))) (choices : List Int) (fail : X) (ret : ((List (List UInt8)) × ((List (Int × ((List UInt8) × Unit))) × Unit)) → List Int → Int → X) : X :=
  bif (dCheck_P d_) then
  bif ((dCheck_r d_) != (0 : Int)) then
    ret (([] : List (List UInt8)), (([] : List (Int × ((List UInt8) × Unit))), ())) ([] : List Int) (dCheck_r d_)
  else
  dCrash_l1F F fail
    (fun (choices1 : List Int) (s24 : List (Int × ((List UInt8) × Unit))) (s25 : Int) (s26 : Int) (d_1 : ((List (List UInt8)) × ((List (Int × ((List UInt8) × Unit))) × Unit))) (s4 : ((List (List UInt8)) × ((List (Int × ((List UInt8) × Unit))) × Unit))) (versions : List (Int × (List (List UInt8)))) (places : List Int) =>
      bif (clPage_P d_1.1) then
      dCrash_l2F F fail
        (fun (choices2 : List Int) (s67 : Int) (s68 : Int) (s41 : ((List (List UInt8)) × ((List (Int × ((List UInt8) × Unit))) × Unit))) (versions1 : List (Int × (List (List UInt8)))) (out : ((List (Int × ((List UInt8) × Unit))) × Unit)) (h3 : List (List UInt8)) (s66 : List Int) =>
          bif (clInt_P choices2) then
          ret (h3, out) (clInt_r choices2) (0 : Int)
          else fail)
        F choices1 ((places.length : Nat) : Int) (0 : Int) s4 versions (([] : List (Int × ((List UInt8) × Unit))), ()) (clPage_r d_1.1) places
      else fail)
    F choices d_.2.1 ((d_.2.1.length : Nat) : Int) (0 : Int) d_ (([] : List (List UInt8)), (([] : List (Int × ((List UInt8) × Unit))), ())) ([] : List (Int × (List (List UInt8)))) ([] : List Int)
  else fail

def dInterrupt {X : Type} (F : Nat) (d_ : ((List (List UInt8)) × ((List (Int × ((List UInt8) × Unit))) × Unit))) (l : List (Int × (Int × ((List (List UInt8)) × Unit)))) (after : Int) (choices : List Int) (fail : X) (ret : ((List (List UInt8)) × ((List (Int × ((List UInt8) × Unit))) × Unit)) → List Int → Int → X) : X :=
  bif (dCheck_P d_) then
  bif ((dCheck_r d_) != (0 : Int)) then
    ret (([] : List (List UInt8)), (([] : List (Int × ((List UInt8) × Unit))), ())) ([] : List Int) (dCheck_r d_)
  else
  bif (decide (after < (0 : Int))) then
    ret (([] : List (List UInt8)), (([] : List (Int × ((List UInt8) × Unit))), ())) ([] : List Int) (2 : Int)
  else
  bif (decide (after > ((l.length : Nat) : Int))) then
    ret (([] : List (List UInt8)), (([] : List (Int × ((List UInt8) × Unit))), ())) ([] : List Int) (2 : Int)
  else
  bif ((decide ((0 : Int) ≤ after)) && (decide (after ≤ ((l.length : Nat) : Int)))) then
  bif (dRun_P d_ (List.take (after).toNat l)) then
  bif ((dRun_r2 d_ (List.take (after).toNat l)) != (0 : Int)) then
    ret (([] : List (List UInt8)), (([] : List (Int × ((List UInt8) × Unit))), ())) ([] : List Int) (dRun_r2 d_ (List.take (after).toNat l))
  else
  bif (dCrash_P (dRun_r0 d_ (List.take (after).toNat l)) choices) then
  ret (dCrash_r0 (dRun_r0 d_ (List.take (after).toNat l)) choices) (dCrash_r1 (dRun_r0 d_ (List.take (after).toNat l)) choices) (dCrash_r2 (dRun_r0 d_ (List.take (after).toNat l)) choices)
  else fail
  else fail
  else fail
  else fail

def rCheck_l1 {X : Type} (F : Nat) (fail : X) (next : Int → Int → ((List (List UInt8)) × ((List (Int × ((List UInt8) × Unit))) × Unit)) → X) (ex0 : Int → Int → ((List (List UInt8)) × ((List (Int × ((List UInt8) × Unit))) × Unit)) → X) (ex1 : Int → Int → ((List (List UInt8)) × ((List (Int × ((List UInt8) × Unit))) × Unit)) → X) (s2 : Int) (i : Int) (d_ : ((List (List UInt8)) × ((List (Int × ((List UInt8) × Unit))) × Unit))) : X :=
  bif (decide (i < ((d_.2.1.length : Nat) : Int))) then
    bif ((decide ((0 : Int) ≤ i)) && (decide (i < ((d_.2.1.length : Nat) : Int)))) then
    bif (decide ((List.getD d_.2.1 (i).toNat ((0 : Int), (z16, ()))).1 < (0 : Int))) then
      ex0 (2 : Int) i d_
    else
    bif ((decide ((0 : Int) ≤ i)) && (decide (i < ((d_.2.1.length : Nat) : Int)))) then
    bif (decide ((List.getD d_.2.1 (i).toNat ((0 : Int), (z16, ()))).1 ≥ ((d_.1.length : Nat) : Int))) then
      ex0 (2 : Int) i d_
    else
    next s2 (addI i (1 : Int)) d_
    else fail
    else fail
  else
  ex1 s2 i d_
def rCheck_l1F {X : Type} (F : Nat) (fail : X) (ex0 : Int → Int → ((List (List UInt8)) × ((List (Int × ((List UInt8) × Unit))) × Unit)) → X) (ex1 : Int → Int → ((List (List UInt8)) × ((List (Int × ((List UInt8) × Unit))) × Unit)) → X) : Nat → Int → Int → ((List (List UInt8)) × ((List (Int × ((List UInt8) × Unit))) × Unit)) → X
  | 0, _, _, _ => fail
  | m + 1, s2, i, d_ => rCheck_l1 F fail (rCheck_l1F F fail ex0 ex1 m) ex0 ex1 s2 i d_

def rCheck {X : Type} (F : Nat) (d_ : ((List (List UInt8)) × ((List (Int × ((List UInt8) × Unit))) × Unit))) (fail : X) (ret : Int → X) : X :=
  bif (decide (((d_.1.length : Nat) : Int) < (1 : Int))) then
    ret (2 : Int)
  else
  bif (decide (((d_.1.length : Nat) : Int) > (8192 : Int))) then
    ret (2 : Int)
  else
  rCheck_l1F F fail
    (fun (s2 : Int) (i : Int) (d_1 : ((List (List UInt8)) × ((List (Int × ((List UInt8) × Unit))) × Unit))) =>
      ret s2)
    (fun (s21 : Int) (i1 : Int) (d_2 : ((List (List UInt8)) × ((List (Int × ((List UInt8) × Unit))) × Unit))) =>
      ret (0 : Int))
    F (0 : Int) (0 : Int) d_

def rCopy {X : Type} (F : Nat) (d_ : ((List (List UInt8)) × ((List (Int × ((List UInt8) × Unit))) × Unit))) (fail : X) (ret : ((List (List UInt8)) × ((List (Int × ((List UInt8) × Unit))) × Unit)) → X) : X :=
  bif (decide (d_.1.length ≤ big)) then
  bif (decide (d_.2.1.length ≤ big)) then
  ret (d_.1, (d_.2.1, ()))
  else fail
  else fail

def rSync_l1 {X : Type} (F : Nat) (fail : X) (next : Int → ((List (List UInt8)) × ((List (Int × ((List UInt8) × Unit))) × Unit)) → ((List (List UInt8)) × ((List (Int × ((List UInt8) × Unit))) × Unit)) → List (List UInt8) → List (Int × ((List UInt8) × Unit)) → X) (ex0 : Int → ((List (List UInt8)) × ((List (Int × ((List UInt8) × Unit))) × Unit)) → ((List (List UInt8)) × ((List (Int × ((List UInt8) × Unit))) × Unit)) → List (List UInt8) → List (Int × ((List UInt8) × Unit)) → X) (i : Int) (d_ : ((List (List UInt8)) × ((List (Int × ((List UInt8) × Unit))) × Unit))) (s2 : ((List (List UInt8)) × ((List (Int × ((List UInt8) × Unit))) × Unit))) (h3 : List (List UInt8)) (h4 : List (Int × ((List UInt8) × Unit))) : X :=
  bif (decide (i < ((d_.2.1.length : Nat) : Int))) then
    bif ((decide ((0 : Int) ≤ i)) && (decide (i < ((d_.2.1.length : Nat) : Int)))) then
    bif ((decide ((0 : Int) ≤ i)) && (decide (i < ((d_.2.1.length : Nat) : Int)))) then
    bif ((decide ((0 : Int) ≤ (List.getD d_.2.1 (i).toNat ((0 : Int), (z16, ()))).1)) && (decide ((List.getD d_.2.1 (i).toNat ((0 : Int), (z16, ()))).1 < ((h3.length : Nat) : Int)))) then
    next (addI i (1 : Int)) d_ s2 (List.set h3 ((List.getD d_.2.1 (i).toNat ((0 : Int), (z16, ()))).1).toNat (List.getD d_.2.1 (i).toNat ((0 : Int), (z16, ()))).2.1) h4
    else fail
    else fail
    else fail
  else
  ex0 i d_ s2 h3 h4
def rSync_l1F {X : Type} (F : Nat) (fail : X) (ex0 : Int → ((List (List UInt8)) × ((List (Int × ((List UInt8) × Unit))) × Unit)) → ((List (List UInt8)) × ((List (Int × ((List UInt8) × Unit))) × Unit)) → List (List UInt8) → List (Int × ((List UInt8) × Unit)) → X) : Nat → Int → ((List (List UInt8)) × ((List (Int × ((List UInt8) × Unit))) × Unit)) → ((List (List UInt8)) × ((List (Int × ((List UInt8) × Unit))) × Unit)) → List (List UInt8) → List (Int × ((List UInt8) × Unit)) → X
  | 0, _, _, _, _, _ => fail
  | m + 1, i, d_, s2, h3, h4 => rSync_l1 F fail (rSync_l1F F fail ex0 m) ex0 i d_ s2 h3 h4

def rSync {X : Type} (F : Nat) (d_ : ((List (List UInt8)) × ((List (Int × ((List UInt8) × Unit))) × Unit))) (fail : X) (ret : ((List (List UInt8)) × ((List (Int × ((List UInt8) × Unit))) × Unit)) → X) : X :=
  bif (decide (d_.1.length ≤ big)) then
  bif (decide (d_.2.1.length ≤ big)) then
  rSync_l1F F fail
    (fun (i : Int) (d_1 : ((List (List UInt8)) × ((List (Int × ((List UInt8) × Unit))) × Unit))) (s2 : ((List (List UInt8)) × ((List (Int × ((List UInt8) × Unit))) × Unit))) (h3 : List (List UInt8)) (h4 : List (Int × ((List UInt8) × Unit))) =>
      ret (h3, (([] : List (Int × ((List UInt8) × Unit))), ())))
    F (0 : Int) d_ (([] : List (List UInt8)), (([] : List (Int × ((List UInt8) × Unit))), ())) d_.1 d_.2.1
  else fail
  else fail

def rFits {X : Type} (F : Nat) (d_ : ((List (List UInt8)) × ((List (Int × ((List UInt8) × Unit))) × Unit))) (at_ : Int) (count : Int) (fail : X) (ret : Bool → X) : X :=
  bif (decide (at_ ≥ (0 : Int))) then
    bif (decide (count ≥ (0 : Int))) then
      bif (decide (count ≤ ((d_.1.length : Nat) : Int))) then
        ret (decide (at_ ≤ (subI ((d_.1.length : Nat) : Int) count)))
      else
      ret false
    else
    ret false
  else
  ret false

def rRead {X : Type} (F : Nat) (d_ : ((List (List UInt8)) × ((List (Int × ((List UInt8) × Unit))) × Unit))) (at_ : Int) (count : Int) (fail : X) (ret : List (List UInt8) → Int → X) : X :=
  bif (rCheck_P d_) then
  bif ((rCheck_r d_) != (0 : Int)) then
    ret ([] : List (List UInt8)) (2 : Int)
  else
  bif (rFits_P d_ at_ count) then
  bif (!(rFits_r d_ at_ count)) then
    ret ([] : List (List UInt8)) (2 : Int)
  else
  bif (rSync_P d_) then
  bif (((decide ((0 : Int) ≤ at_)) && (decide (at_ ≤ (addI at_ count)))) && (decide ((addI at_ count) ≤ (((rSync_r d_).1.length : Nat) : Int)))) then
  bif (decide ((List.drop (at_).toNat (List.take ((addI at_ count)).toNat (rSync_r d_).1)).length ≤ big)) then
  ret (List.drop (at_).toNat (List.take ((addI at_ count)).toNat (rSync_r d_).1)) (0 : Int)
  else fail
  else fail
  else fail
  else fail
  else fail

def rSamePages_l1 {X : Type} (F : Nat) (fail : X) (next : List (List UInt8) → List (List UInt8) → Bool → Int → X) (ex0 : List (List UInt8) → List (List UInt8) → Bool → Int → X) (ex1 : List (List UInt8) → List (List UInt8) → Bool → Int → X) (a : List (List UInt8)) (b : List (List UInt8)) (s4 : Bool) (i : Int) : X :=
  bif (decide (i < ((a.length : Nat) : Int))) then
    bif ((decide ((0 : Int) ≤ i)) && (decide (i < ((a.length : Nat) : Int)))) then
    bif ((decide ((0 : Int) ≤ i)) && (decide (i < ((b.length : Nat) : Int)))) then
    bif (!(beqT (.arr 16 (.int .u8)) (List.getD a (i).toNat z16) (List.getD b (i).toNat z16))) then
      ex0 a b false i
    else
    next a b s4 (addI i (1 : Int))
    else fail
    else fail
  else
  ex1 a b s4 i
def rSamePages_l1F {X : Type} (F : Nat) (fail : X) (ex0 : List (List UInt8) → List (List UInt8) → Bool → Int → X) (ex1 : List (List UInt8) → List (List UInt8) → Bool → Int → X) : Nat → List (List UInt8) → List (List UInt8) → Bool → Int → X
  | 0, _, _, _, _ => fail
  | m + 1, a, b, s4, i => rSamePages_l1 F fail (rSamePages_l1F F fail ex0 ex1 m) ex0 ex1 a b s4 i

def rSamePages {X : Type} (F : Nat) (a : List (List UInt8)) (b : List (List UInt8)) (fail : X) (ret : Bool → X) : X :=
  bif (((a.length : Nat) : Int) != ((b.length : Nat) : Int)) then
    ret false
  else
  rSamePages_l1F F fail
    (fun (a1 : List (List UInt8)) (b1 : List (List UInt8)) (s4 : Bool) (i : Int) =>
      ret s4)
    (fun (a2 : List (List UInt8)) (b2 : List (List UInt8)) (s41 : Bool) (i1 : Int) =>
      ret true)
    F a b false (0 : Int)

def rFew {X : Type} (F : Nat) (d_ : ((List (List UInt8)) × ((List (Int × ((List UInt8) × Unit))) × Unit))) (fail : X) (ret : Bool → X) : X :=
  bif (decide (((d_.1.length : Nat) : Int) ≤ (500 : Int))) then
    ret (decide (((d_.2.1.length : Nat) : Int) ≤ (200 : Int)))
  else
  ret false

end Go.AI
