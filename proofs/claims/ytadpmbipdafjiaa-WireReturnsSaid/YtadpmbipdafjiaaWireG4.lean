/- Plain functions, printed by running the machine on symbols. -/
import Derived.Test.YtadpmbipdafjiaaWireS
namespace Go.AI
open Go
set_option linter.unusedVariables false

def law02_numbers_l1 {X : Type} (F : Nat) (fail : X) (next : Int → Int → Int → List Int → X) (ex0 : Int → Int → Int → List Int → X) (ex1 : Int → Int → Int → List Int → X) (s4 : Int) (s7 : Int) (s8 : Int) (s : List Int) : X :=
  bif (decide (s8 < s7)) then
    bif ((decide ((0 : Int) ≤ s8)) && (decide (s8 < ((s.length : Nat) : Int)))) then
    bif (decide ((List.getD s (s8).toNat (0 : Int)) < (0 : Int))) then
      ex0 s8 s7 s8 s
    else
    bif (decide ((List.getD s (s8).toNat (0 : Int)) > (9007199254740991 : Int))) then
      ex0 s8 s7 s8 s
    else
    next s4 s7 (addI s8 (1 : Int)) s
    else fail
  else
  ex1 s4 s7 s8 s
def law02_numbers_l1F {X : Type} (F : Nat) (fail : X) (ex0 : Int → Int → Int → List Int → X) (ex1 : Int → Int → Int → List Int → X) : Nat → Int → Int → Int → List Int → X
  | 0, _, _, _, _ => fail
  | m + 1, s4, s7, s8, s => law02_numbers_l1 F fail (law02_numbers_l1F F fail ex0 ex1 m) ex0 ex1 s4 s7 s8 s

def law02_numbers_l2 {X : Type} (F : Nat) (fail : X) (next : Int → Int → List Int → X) (ex0 : Int → Int → List Int → X) (i : Int) (j : Int) (s : List Int) : X :=
  bif (decide (j < ((s.length : Nat) : Int))) then
    bif ((decide ((0 : Int) ≤ j)) && (decide (j < ((s.length : Nat) : Int)))) then
    bif (decide ((List.getD s (j).toNat (0 : Int)) < (0 : Int))) then
      next i (addI j (1 : Int)) s
    else
    bif (!(decide ((List.getD s (j).toNat (0 : Int)) > (9007199254740991 : Int)))) then
      bif ((decide ((0 : Int) ≤ i)) && (decide (i < ((s.length : Nat) : Int)))) then
      next (addI i (1 : Int)) (addI j (1 : Int)) (List.set s (i).toNat (List.getD s (j).toNat (0 : Int)))
      else fail
    else
    next i (addI j (1 : Int)) s
    else fail
  else
  ex0 i j s
def law02_numbers_l2F {X : Type} (F : Nat) (fail : X) (ex0 : Int → Int → List Int → X) : Nat → Int → Int → List Int → X
  | 0, _, _, _ => fail
  | m + 1, i, j, s => law02_numbers_l2 F fail (law02_numbers_l2F F fail ex0 m) ex0 i j s

def law02_numbers {X : Type} (F : Nat) (l : List Int) (fail : X) (ret : List Int → X) : X :=
  bif (clone_int_P l) then
  law02_numbers_l1F F fail
    (fun (s4 : Int) (s7 : Int) (s8 : Int) (s : List Int) =>
      bif (s4 == (-1 : Int)) then
        ret s
      else
      law02_numbers_l2F F fail
        (fun (i : Int) (j : Int) (s1 : List Int) =>
          bif ((decide ((0 : Int) ≤ i)) && (decide (i ≤ ((s1.length : Nat) : Int)))) then
          bif ((decide ((0 : Int) ≤ i)) && (decide (i ≤ (((((List.take (i).toNat s1) ++ (List.replicate (s1.length - (i).toNat) (0 : Int))) ++ (List.drop ((i).toNat + (s1.length - (i).toNat)) s1)).length : Nat) : Int)))) then
          ret (List.take (i).toNat (((List.take (i).toNat s1) ++ (List.replicate (s1.length - (i).toNat) (0 : Int))) ++ (List.drop ((i).toNat + (s1.length - (i).toNat)) s1)))
          else fail
          else fail)
        F s4 (addI s4 (1 : Int)) s)
    (fun (s41 : Int) (s71 : Int) (s81 : Int) (s2 : List Int) =>
      ret s2)
    F (0 : Int) (((clone_int_r l).length : Nat) : Int) (0 : Int) (clone_int_r l)
  else fail

end Go.AI
