/- Plain functions, printed by running the machine on symbols. -/
import Derived.Test.YtaoimnfmhdmkmaaVolS2
noncomputable section
namespace Go.AI
open Go
set_option linter.unusedVariables false

def TopVolumesAlgebra_l1 {X : Type} (F : Nat) (fail : X) (next : List (List UInt8) → Int → Int → List (List UInt8) → List (List UInt8) → Int → List (List UInt8) → List UInt8 → Int → X) (ex0 : List (List UInt8) → Int → Int → List (List UInt8) → List (List UInt8) → Int → List (List UInt8) → List UInt8 → Int → X) (s11 : List (List UInt8)) (s12 : Int) (s13 : Int) (a : List (List UInt8)) (b : List (List UInt8)) (s2 : Int) (out : List (List UInt8)) (at_ : List UInt8) (n : Int) : X :=
  bif (decide (s13 < s12)) then
    bif ((decide ((0 : Int) ≤ s13)) && (decide (s13 < ((s11.length : Nat) : Int)))) then
    bif (((decide ((0 : Int) ≤ s2)) && true) && (decide (s2 ≤ ((big : Nat) : Int)))) then
    bif ((decide ((out.length + 1) ≤ big)) && (decide (0 < (((List.take 0 (List.replicate (s2).toNat (0 : UInt8))) ++ (List.take (min (List.getD s11 (s13).toNat ([] : List UInt8)).length (List.replicate (s2).toNat (0 : UInt8)).length) (List.getD s11 (s13).toNat ([] : List UInt8)))) ++ (List.drop (0 + (min (List.getD s11 (s13).toNat ([] : List UInt8)).length (List.replicate (s2).toNat (0 : UInt8)).length)) (List.replicate (s2).toNat (0 : UInt8)))).length))) then
    next s11 s12 (addI s13 (1 : Int)) a b s2 (out ++ ([(((List.take 0 (List.replicate (s2).toNat (0 : UInt8))) ++ (List.take (min (List.getD s11 (s13).toNat ([] : List UInt8)).length (List.replicate (s2).toNat (0 : UInt8)).length) (List.getD s11 (s13).toNat ([] : List UInt8)))) ++ (List.drop (0 + (min (List.getD s11 (s13).toNat ([] : List UInt8)).length (List.replicate (s2).toNat (0 : UInt8)).length)) (List.replicate (s2).toNat (0 : UInt8))))] : List (List UInt8))) at_ n
    else fail
    else fail
    else fail
  else
  ex0 s11 s12 s13 a b s2 out at_ n
def TopVolumesAlgebra_l1F {X : Type} (F : Nat) (fail : X) (ex0 : List (List UInt8) → Int → Int → List (List UInt8) → List (List UInt8) → Int → List (List UInt8) → List UInt8 → Int → X) : Nat → List (List UInt8) → Int → Int → List (List UInt8) → List (List UInt8) → Int → List (List UInt8) → List UInt8 → Int → X
  | 0, _, _, _, _, _, _, _, _, _ => fail
  | m + 1, s11, s12, s13, a, b, s2, out, at_, n => TopVolumesAlgebra_l1 F fail (TopVolumesAlgebra_l1F F fail ex0 m) ex0 s11 s12 s13 a b s2 out at_ n

def TopVolumesAlgebra_l2 {X : Type} (F : Nat) (fail : X) (next : List (List UInt8) → Int → Int → List (List UInt8) → List (List UInt8) → Int → List (List UInt8) → List UInt8 → Int → List (List UInt8) → X) (ex0 : List (List UInt8) → Int → Int → List (List UInt8) → List (List UInt8) → Int → List (List UInt8) → List UInt8 → Int → List (List UInt8) → X) (s11 : List (List UInt8)) (s12 : Int) (s13 : Int) (a : List (List UInt8)) (b : List (List UInt8)) (s2 : Int) (out : List (List UInt8)) (at_ : List UInt8) (n : Int) (s60 : List (List UInt8)) : X :=
  bif (decide (s13 < s12)) then
    bif ((decide ((0 : Int) ≤ s13)) && (decide (s13 < ((s11.length : Nat) : Int)))) then
    bif (((decide ((0 : Int) ≤ s2)) && true) && (decide (s2 ≤ ((big : Nat) : Int)))) then
    bif ((decide ((out.length + 1) ≤ big)) && (decide (0 < (((List.take 0 (List.replicate (s2).toNat (0 : UInt8))) ++ (List.take (min (List.getD s11 (s13).toNat ([] : List UInt8)).length (List.replicate (s2).toNat (0 : UInt8)).length) (List.getD s11 (s13).toNat ([] : List UInt8)))) ++ (List.drop (0 + (min (List.getD s11 (s13).toNat ([] : List UInt8)).length (List.replicate (s2).toNat (0 : UInt8)).length)) (List.replicate (s2).toNat (0 : UInt8)))).length))) then
    next s11 s12 (addI s13 (1 : Int)) a b s2 (out ++ ([(((List.take 0 (List.replicate (s2).toNat (0 : UInt8))) ++ (List.take (min (List.getD s11 (s13).toNat ([] : List UInt8)).length (List.replicate (s2).toNat (0 : UInt8)).length) (List.getD s11 (s13).toNat ([] : List UInt8)))) ++ (List.drop (0 + (min (List.getD s11 (s13).toNat ([] : List UInt8)).length (List.replicate (s2).toNat (0 : UInt8)).length)) (List.replicate (s2).toNat (0 : UInt8))))] : List (List UInt8))) at_ n s60
    else fail
    else fail
    else fail
  else
  ex0 s11 s12 s13 a b s2 out at_ n s60
def TopVolumesAlgebra_l2F {X : Type} (F : Nat) (fail : X) (ex0 : List (List UInt8) → Int → Int → List (List UInt8) → List (List UInt8) → Int → List (List UInt8) → List UInt8 → Int → List (List UInt8) → X) : Nat → List (List UInt8) → Int → Int → List (List UInt8) → List (List UInt8) → Int → List (List UInt8) → List UInt8 → Int → List (List UInt8) → X
  | 0, _, _, _, _, _, _, _, _, _, _ => fail
  | m + 1, s11, s12, s13, a, b, s2, out, at_, n, s60 => TopVolumesAlgebra_l2 F fail (TopVolumesAlgebra_l2F F fail ex0 m) ex0 s11 s12 s13 a b s2 out at_ n s60

def TopVolumesAlgebra_l3 {X : Type} (F : Nat) (fail : X) (next : List (List UInt8) → Int → Int → List (List UInt8) → List (List UInt8) → List (List UInt8) → List (List UInt8) → Int → List (List UInt8) → List UInt8 → Int → X) (ex0 : List (List UInt8) → Int → Int → List (List UInt8) → List (List UInt8) → List (List UInt8) → List (List UInt8) → Int → List (List UInt8) → List UInt8 → Int → X) (s11 : List (List UInt8)) (s12 : Int) (s13 : Int) (a : List (List UInt8)) (b : List (List UInt8)) (x_ : List (List UInt8)) (y : List (List UInt8)) (s2 : Int) (out : List (List UInt8)) (at_ : List UInt8) (n : Int) : X :=
  bif (decide (s13 < s12)) then
    bif ((decide ((0 : Int) ≤ s13)) && (decide (s13 < ((s11.length : Nat) : Int)))) then
    bif (((decide ((0 : Int) ≤ s2)) && true) && (decide (s2 ≤ ((big : Nat) : Int)))) then
    bif ((decide ((out.length + 1) ≤ big)) && (decide (0 < (((List.take 0 (List.replicate (s2).toNat (0 : UInt8))) ++ (List.take (min (List.getD s11 (s13).toNat ([] : List UInt8)).length (List.replicate (s2).toNat (0 : UInt8)).length) (List.getD s11 (s13).toNat ([] : List UInt8)))) ++ (List.drop (0 + (min (List.getD s11 (s13).toNat ([] : List UInt8)).length (List.replicate (s2).toNat (0 : UInt8)).length)) (List.replicate (s2).toNat (0 : UInt8)))).length))) then
    next s11 s12 (addI s13 (1 : Int)) a b x_ y s2 (out ++ ([(((List.take 0 (List.replicate (s2).toNat (0 : UInt8))) ++ (List.take (min (List.getD s11 (s13).toNat ([] : List UInt8)).length (List.replicate (s2).toNat (0 : UInt8)).length) (List.getD s11 (s13).toNat ([] : List UInt8)))) ++ (List.drop (0 + (min (List.getD s11 (s13).toNat ([] : List UInt8)).length (List.replicate (s2).toNat (0 : UInt8)).length)) (List.replicate (s2).toNat (0 : UInt8))))] : List (List UInt8))) at_ n
    else fail
    else fail
    else fail
  else
  ex0 s11 s12 s13 a b x_ y s2 out at_ n
def TopVolumesAlgebra_l3F {X : Type} (F : Nat) (fail : X) (ex0 : List (List UInt8) → Int → Int → List (List UInt8) → List (List UInt8) → List (List UInt8) → List (List UInt8) → Int → List (List UInt8) → List UInt8 → Int → X) : Nat → List (List UInt8) → Int → Int → List (List UInt8) → List (List UInt8) → List (List UInt8) → List (List UInt8) → Int → List (List UInt8) → List UInt8 → Int → X
  | 0, _, _, _, _, _, _, _, _, _, _, _ => fail
  | m + 1, s11, s12, s13, a, b, x_, y, s2, out, at_, n => TopVolumesAlgebra_l3 F fail (TopVolumesAlgebra_l3F F fail ex0 m) ex0 s11 s12 s13 a b x_ y s2 out at_ n

def TopVolumesAlgebra_l5 {X : Type} (F : Nat) (fail : X) (next : List (List UInt8) → Bool → List (List UInt8) → List (List UInt8) → Int → Int → Int → Int → Int → List UInt8 → Int → Int → List (List UInt8) → X) (ex0 : List (List UInt8) → Bool → List (List UInt8) → List (List UInt8) → Int → Int → Int → Int → Int → List UInt8 → Int → Int → List (List UInt8) → X) (a : List (List UInt8)) (s6 : Bool) (x_ : List (List UInt8)) (y : List (List UInt8)) (i : Int) (s68 : Int) (s69 : Int) (s76 : Int) (s77 : Int) (at_ : List UInt8) (n : Int) (size : Int) (sum : List (List UInt8)) : X :=
  bif (decide (s77 < s76)) then
    bif ((decide ((0 : Int) ≤ i)) && (decide (i < ((sum.length : Nat) : Int)))) then
    bif (decide ((i).toNat < sum.length)) then
    bif ((decide ((0 : Int) ≤ s77)) && (decide (s77 < (((List.getD sum (i).toNat ([] : List UInt8)).length : Nat) : Int)))) then
    bif (decide ((s77).toNat < (List.getD sum (i).toNat ([] : List UInt8)).length)) then
    bif ((decide ((0 : Int) ≤ i)) && (decide (i < ((y.length : Nat) : Int)))) then
    bif ((decide ((0 : Int) ≤ s77)) && (decide (s77 < (((List.getD y (i).toNat ([] : List UInt8)).length : Nat) : Int)))) then
    bif ((decide ((0 : Int) ≤ s77)) && (decide (s77 < (((List.getD sum (i).toNat ([] : List UInt8)).length : Nat) : Int)))) then
    bif (decide ((s77).toNat < (List.getD sum (i).toNat ([] : List UInt8)).length)) then
    next a s6 x_ y i s68 s69 s76 (addI s77 (1 : Int)) at_ n size (List.set sum (i).toNat (List.set (List.getD sum (i).toNat ([] : List UInt8)) (s77).toNat (xorB (List.getD (List.getD sum (i).toNat ([] : List UInt8)) (s77).toNat (0 : UInt8)) (List.getD (List.getD y (i).toNat ([] : List UInt8)) (s77).toNat (0 : UInt8)))))
    else fail
    else fail
    else fail
    else fail
    else fail
    else fail
    else fail
    else fail
  else
  ex0 a s6 x_ y i s68 s69 s76 s77 at_ n size sum
def TopVolumesAlgebra_l5F {X : Type} (F : Nat) (fail : X) (ex0 : List (List UInt8) → Bool → List (List UInt8) → List (List UInt8) → Int → Int → Int → Int → Int → List UInt8 → Int → Int → List (List UInt8) → X) : Nat → List (List UInt8) → Bool → List (List UInt8) → List (List UInt8) → Int → Int → Int → Int → Int → List UInt8 → Int → Int → List (List UInt8) → X
  | 0, _, _, _, _, _, _, _, _, _, _, _, _, _ => fail
  | m + 1, a, s6, x_, y, i, s68, s69, s76, s77, at_, n, size, sum => TopVolumesAlgebra_l5 F fail (TopVolumesAlgebra_l5F F fail ex0 m) ex0 a s6 x_ y i s68 s69 s76 s77 at_ n size sum

def TopVolumesAlgebra_l4 {X : Type} (F : Nat) (fail : X) (next : List (List UInt8) → Bool → List (List UInt8) → List (List UInt8) → Int → Int → List UInt8 → Int → Int → List (List UInt8) → X) (ex0 : List (List UInt8) → Bool → List (List UInt8) → List (List UInt8) → Int → Int → List UInt8 → Int → Int → List (List UInt8) → X) (a : List (List UInt8)) (s6 : Bool) (x_ : List (List UInt8)) (y : List (List UInt8)) (s68 : Int) (s69 : Int) (at_ : List UInt8) (n : Int) (size : Int) (sum : List (List UInt8)) : X :=
  bif (decide (s69 < s68)) then
    bif ((decide ((0 : Int) ≤ s69)) && (decide (s69 < ((sum.length : Nat) : Int)))) then
    bif (decide ((s69).toNat < sum.length)) then
    TopVolumesAlgebra_l5F F fail
      (fun (a1 : List (List UInt8)) (s61 : Bool) (x_1 : List (List UInt8)) (y1 : List (List UInt8)) (i : Int) (s681 : Int) (s691 : Int) (s76 : Int) (s77 : Int) (at_1 : List UInt8) (n1 : Int) (size1 : Int) (sum1 : List (List UInt8)) =>
        next a1 s61 x_1 y1 s681 (addI s691 (1 : Int)) at_1 n1 size1 sum1)
      F a s6 x_ y s69 s68 s69 (((List.getD sum (s69).toNat ([] : List UInt8)).length : Nat) : Int) (0 : Int) at_ n size sum
    else fail
    else fail
  else
  ex0 a s6 x_ y s68 s69 at_ n size sum
def TopVolumesAlgebra_l4F {X : Type} (F : Nat) (fail : X) (ex0 : List (List UInt8) → Bool → List (List UInt8) → List (List UInt8) → Int → Int → List UInt8 → Int → Int → List (List UInt8) → X) : Nat → List (List UInt8) → Bool → List (List UInt8) → List (List UInt8) → Int → Int → List UInt8 → Int → Int → List (List UInt8) → X
  | 0, _, _, _, _, _, _, _, _, _, _ => fail
  | m + 1, a, s6, x_, y, s68, s69, at_, n, size, sum => TopVolumesAlgebra_l4 F fail (TopVolumesAlgebra_l4F F fail ex0 m) ex0 a s6 x_ y s68 s69 at_ n size sum

def TopVolumesAlgebra_l7 {X : Type} (F : Nat) (fail : X) (next : List (List UInt8) → Bool → List (List UInt8) → List (List UInt8) → List (List UInt8) → List (List UInt8) → List (List UInt8) → Int → Int → Int → Int → Int → List UInt8 → Int → Int → X) (ex0 : List (List UInt8) → Bool → List (List UInt8) → List (List UInt8) → List (List UInt8) → List (List UInt8) → List (List UInt8) → Int → Int → Int → Int → Int → List UInt8 → Int → Int → X) (ex1 : List (List UInt8) → Bool → List (List UInt8) → List (List UInt8) → List (List UInt8) → List (List UInt8) → List (List UInt8) → Int → Int → Int → Int → Int → List UInt8 → Int → Int → X) (a : List (List UInt8)) (s6 : Bool) (x_ : List (List UInt8)) (p : List (List UInt8)) (q : List (List UInt8)) (r : List (List UInt8)) (product : List (List UInt8)) (k : Int) (s155 : Int) (s156 : Int) (s200 : Int) (s201 : Int) (at_ : List UInt8) (n : Int) (size : Int) : X :=
  bif (decide (s201 < s200)) then
    bif ((decide ((0 : Int) ≤ k)) && (decide (k < ((r.length : Nat) : Int)))) then
    bif ((decide ((0 : Int) ≤ s201)) && (decide (s201 < (((List.getD r (k).toNat ([] : List UInt8)).length : Nat) : Int)))) then
    bif ((decide ((0 : Int) ≤ k)) && (decide (k < ((p.length : Nat) : Int)))) then
    bif ((decide ((0 : Int) ≤ s201)) && (decide (s201 < (((List.getD p (k).toNat ([] : List UInt8)).length : Nat) : Int)))) then
    bif ((decide ((0 : Int) ≤ k)) && (decide (k < ((q.length : Nat) : Int)))) then
    bif ((decide ((0 : Int) ≤ s201)) && (decide (s201 < (((List.getD q (k).toNat ([] : List UInt8)).length : Nat) : Int)))) then
    bif (((((List.getD (List.getD r (k).toNat ([] : List UInt8)) (s201).toNat (0 : UInt8))).toNat : Nat) : Int) != ((((xorB (List.getD (List.getD p (k).toNat ([] : List UInt8)) (s201).toNat (0 : UInt8)) (List.getD (List.getD q (k).toNat ([] : List UInt8)) (s201).toNat (0 : UInt8)))).toNat : Nat) : Int)) then
      ex0 a false x_ p q r product k s155 s156 s200 s201 at_ n size
    else
    next a s6 x_ p q r product k s155 s156 s200 (addI s201 (1 : Int)) at_ n size
    else fail
    else fail
    else fail
    else fail
    else fail
    else fail
  else
  ex1 a s6 x_ p q r product k s155 s156 s200 s201 at_ n size
def TopVolumesAlgebra_l7F {X : Type} (F : Nat) (fail : X) (ex0 : List (List UInt8) → Bool → List (List UInt8) → List (List UInt8) → List (List UInt8) → List (List UInt8) → List (List UInt8) → Int → Int → Int → Int → Int → List UInt8 → Int → Int → X) (ex1 : List (List UInt8) → Bool → List (List UInt8) → List (List UInt8) → List (List UInt8) → List (List UInt8) → List (List UInt8) → Int → Int → Int → Int → Int → List UInt8 → Int → Int → X) : Nat → List (List UInt8) → Bool → List (List UInt8) → List (List UInt8) → List (List UInt8) → List (List UInt8) → List (List UInt8) → Int → Int → Int → Int → Int → List UInt8 → Int → Int → X
  | 0, _, _, _, _, _, _, _, _, _, _, _, _, _, _, _ => fail
  | m + 1, a, s6, x_, p, q, r, product, k, s155, s156, s200, s201, at_, n, size => TopVolumesAlgebra_l7 F fail (TopVolumesAlgebra_l7F F fail ex0 ex1 m) ex0 ex1 a s6 x_ p q r product k s155 s156 s200 s201 at_ n size

def TopVolumesAlgebra_l6 {X : Type} (F : Nat) (fail : X) (next : List (List UInt8) → Bool → List (List UInt8) → List (List UInt8) → List (List UInt8) → List (List UInt8) → List (List UInt8) → Int → Int → List UInt8 → Int → Int → X) (ex0 : List (List UInt8) → Bool → List (List UInt8) → List (List UInt8) → List (List UInt8) → List (List UInt8) → List (List UInt8) → Int → Int → List UInt8 → Int → Int → X) (ex1 : List (List UInt8) → Bool → List (List UInt8) → List (List UInt8) → List (List UInt8) → List (List UInt8) → List (List UInt8) → Int → Int → List UInt8 → Int → Int → X) (a : List (List UInt8)) (s6 : Bool) (x_ : List (List UInt8)) (p : List (List UInt8)) (q : List (List UInt8)) (r : List (List UInt8)) (product : List (List UInt8)) (s155 : Int) (s156 : Int) (at_ : List UInt8) (n : Int) (size : Int) : X :=
  bif (decide (s156 < s155)) then
    bif ((decide ((0 : Int) ≤ s156)) && (decide (s156 < ((p.length : Nat) : Int)))) then
    bif ((decide ((0 : Int) ≤ s156)) && (decide (s156 < ((product.length : Nat) : Int)))) then
    bif (bEqual_P (List.getD p (s156).toNat ([] : List UInt8)) (List.getD product (s156).toNat ([] : List UInt8))) then
    bif (!(bEqual_r (List.getD p (s156).toNat ([] : List UInt8)) (List.getD product (s156).toNat ([] : List UInt8)))) then
      ex0 a false x_ p q r product s155 s156 at_ n size
    else
    bif ((decide ((0 : Int) ≤ s156)) && (decide (s156 < ((p.length : Nat) : Int)))) then
    bif ((((List.getD p (s156).toNat ([] : List UInt8)).length : Nat) : Int) != size) then
      ex0 a false x_ p q r product s155 s156 at_ n size
    else
    bif ((decide ((0 : Int) ≤ s156)) && (decide (s156 < ((q.length : Nat) : Int)))) then
    bif ((((List.getD q (s156).toNat ([] : List UInt8)).length : Nat) : Int) != size) then
      ex0 a false x_ p q r product s155 s156 at_ n size
    else
    bif ((decide ((0 : Int) ≤ s156)) && (decide (s156 < ((r.length : Nat) : Int)))) then
    bif ((((List.getD r (s156).toNat ([] : List UInt8)).length : Nat) : Int) != size) then
      ex0 a false x_ p q r product s155 s156 at_ n size
    else
    bif ((decide ((0 : Int) ≤ s156)) && (decide (s156 < ((p.length : Nat) : Int)))) then
    TopVolumesAlgebra_l7F F fail
      (fun (a1 : List (List UInt8)) (s61 : Bool) (x_1 : List (List UInt8)) (p1 : List (List UInt8)) (q1 : List (List UInt8)) (r1 : List (List UInt8)) (product1 : List (List UInt8)) (k : Int) (s1551 : Int) (s1561 : Int) (s200 : Int) (s201 : Int) (at_1 : List UInt8) (n1 : Int) (size1 : Int) =>
        ex0 a1 s61 x_1 p1 q1 r1 product1 s1551 s1561 at_1 n1 size1)
      (fun (a2 : List (List UInt8)) (s62 : Bool) (x_2 : List (List UInt8)) (p2 : List (List UInt8)) (q2 : List (List UInt8)) (r2 : List (List UInt8)) (product2 : List (List UInt8)) (k1 : Int) (s1552 : Int) (s1562 : Int) (s2001 : Int) (s2011 : Int) (at_2 : List UInt8) (n2 : Int) (size2 : Int) =>
        next a2 s62 x_2 p2 q2 r2 product2 s1552 (addI s1562 (1 : Int)) at_2 n2 size2)
      F a s6 x_ p q r product s156 s155 s156 (((List.getD p (s156).toNat ([] : List UInt8)).length : Nat) : Int) (0 : Int) at_ n size
    else fail
    else fail
    else fail
    else fail
    else fail
    else fail
    else fail
  else
  ex1 a s6 x_ p q r product s155 s156 at_ n size
def TopVolumesAlgebra_l6F {X : Type} (F : Nat) (fail : X) (ex0 : List (List UInt8) → Bool → List (List UInt8) → List (List UInt8) → List (List UInt8) → List (List UInt8) → List (List UInt8) → Int → Int → List UInt8 → Int → Int → X) (ex1 : List (List UInt8) → Bool → List (List UInt8) → List (List UInt8) → List (List UInt8) → List (List UInt8) → List (List UInt8) → Int → Int → List UInt8 → Int → Int → X) : Nat → List (List UInt8) → Bool → List (List UInt8) → List (List UInt8) → List (List UInt8) → List (List UInt8) → List (List UInt8) → Int → Int → List UInt8 → Int → Int → X
  | 0, _, _, _, _, _, _, _, _, _, _, _, _ => fail
  | m + 1, a, s6, x_, p, q, r, product, s155, s156, at_, n, size => TopVolumesAlgebra_l6 F fail (TopVolumesAlgebra_l6F F fail ex0 ex1 m) ex0 ex1 a s6 x_ p q r product s155 s156 at_ n size

def TopVolumesAlgebra_l8 {X : Type} (F : Nat) (fail : X) (next : List (List UInt8) → Int → Int → List (List UInt8) → Bool → List (List UInt8) → List (List UInt8) → List (List UInt8) → List (List UInt8) → List (List UInt8) → Int → Int → Int → List (List UInt8) → List UInt8 → Int → X) (ex0 : List (List UInt8) → Int → Int → List (List UInt8) → Bool → List (List UInt8) → List (List UInt8) → List (List UInt8) → List (List UInt8) → List (List UInt8) → Int → Int → Int → List (List UInt8) → List UInt8 → Int → X) (s11 : List (List UInt8)) (s12 : Int) (s13 : Int) (a : List (List UInt8)) (s6 : Bool) (x_ : List (List UInt8)) (p : List (List UInt8)) (q : List (List UInt8)) (r : List (List UInt8)) (product : List (List UInt8)) (s155 : Int) (s156 : Int) (s2 : Int) (out : List (List UInt8)) (at_ : List UInt8) (n : Int) : X :=
  bif (decide (s13 < s12)) then
    bif ((decide ((0 : Int) ≤ s13)) && (decide (s13 < ((s11.length : Nat) : Int)))) then
    bif (((decide ((0 : Int) ≤ s2)) && true) && (decide (s2 ≤ ((big : Nat) : Int)))) then
    bif ((decide ((out.length + 1) ≤ big)) && (decide (0 < (((List.take 0 (List.replicate (s2).toNat (0 : UInt8))) ++ (List.take (min (List.getD s11 (s13).toNat ([] : List UInt8)).length (List.replicate (s2).toNat (0 : UInt8)).length) (List.getD s11 (s13).toNat ([] : List UInt8)))) ++ (List.drop (0 + (min (List.getD s11 (s13).toNat ([] : List UInt8)).length (List.replicate (s2).toNat (0 : UInt8)).length)) (List.replicate (s2).toNat (0 : UInt8)))).length))) then
    next s11 s12 (addI s13 (1 : Int)) a s6 x_ p q r product s155 s156 s2 (out ++ ([(((List.take 0 (List.replicate (s2).toNat (0 : UInt8))) ++ (List.take (min (List.getD s11 (s13).toNat ([] : List UInt8)).length (List.replicate (s2).toNat (0 : UInt8)).length) (List.getD s11 (s13).toNat ([] : List UInt8)))) ++ (List.drop (0 + (min (List.getD s11 (s13).toNat ([] : List UInt8)).length (List.replicate (s2).toNat (0 : UInt8)).length)) (List.replicate (s2).toNat (0 : UInt8))))] : List (List UInt8))) at_ n
    else fail
    else fail
    else fail
  else
  ex0 s11 s12 s13 a s6 x_ p q r product s155 s156 s2 out at_ n
def TopVolumesAlgebra_l8F {X : Type} (F : Nat) (fail : X) (ex0 : List (List UInt8) → Int → Int → List (List UInt8) → Bool → List (List UInt8) → List (List UInt8) → List (List UInt8) → List (List UInt8) → List (List UInt8) → Int → Int → Int → List (List UInt8) → List UInt8 → Int → X) : Nat → List (List UInt8) → Int → Int → List (List UInt8) → Bool → List (List UInt8) → List (List UInt8) → List (List UInt8) → List (List UInt8) → List (List UInt8) → Int → Int → Int → List (List UInt8) → List UInt8 → Int → X
  | 0, _, _, _, _, _, _, _, _, _, _, _, _, _, _, _, _ => fail
  | m + 1, s11, s12, s13, a, s6, x_, p, q, r, product, s155, s156, s2, out, at_, n => TopVolumesAlgebra_l8 F fail (TopVolumesAlgebra_l8F F fail ex0 m) ex0 s11 s12 s13 a s6 x_ p q r product s155 s156 s2 out at_ n

def TopVolumesAlgebra_l9 {X : Type} (F : Nat) (fail : X) (next : Bool → List (List UInt8) → List (List UInt8) → Int → Int → X) (ex0 : Bool → List (List UInt8) → List (List UInt8) → Int → Int → X) (ex1 : Bool → List (List UInt8) → List (List UInt8) → Int → Int → X) (s6 : Bool) (x_ : List (List UInt8)) (back : List (List UInt8)) (s264 : Int) (s265 : Int) : X :=
  bif (decide (s265 < s264)) then
    bif ((decide ((0 : Int) ≤ s265)) && (decide (s265 < ((back.length : Nat) : Int)))) then
    bif ((decide ((0 : Int) ≤ s265)) && (decide (s265 < ((x_.length : Nat) : Int)))) then
    bif (bEqual_P (List.getD back (s265).toNat ([] : List UInt8)) (List.getD x_ (s265).toNat ([] : List UInt8))) then
    bif (!(bEqual_r (List.getD back (s265).toNat ([] : List UInt8)) (List.getD x_ (s265).toNat ([] : List UInt8)))) then
      ex0 false x_ back s264 s265
    else
    next s6 x_ back s264 (addI s265 (1 : Int))
    else fail
    else fail
    else fail
  else
  ex1 s6 x_ back s264 s265
def TopVolumesAlgebra_l9F {X : Type} (F : Nat) (fail : X) (ex0 : Bool → List (List UInt8) → List (List UInt8) → Int → Int → X) (ex1 : Bool → List (List UInt8) → List (List UInt8) → Int → Int → X) : Nat → Bool → List (List UInt8) → List (List UInt8) → Int → Int → X
  | 0, _, _, _, _, _ => fail
  | m + 1, s6, x_, back, s264, s265 => TopVolumesAlgebra_l9 F fail (TopVolumesAlgebra_l9F F fail ex0 ex1 m) ex0 ex1 s6 x_ back s264 s265

def TopVolumesAlgebra {X : Type} (F : Nat) (a : List (List UInt8)) (b : List (List UInt8)) (at_ : List UInt8) (fail : X) (ret : Bool → X) : X :=
  bif (decide ((minI (minI ((a.length : Nat) : Int) ((b.length : Nat) : Int)) (6 : Int)) < (1 : Int))) then
    bif (caseRec_P) then
    ret (caseRec_r)
    else fail
  else
  bif (decide ((0 : Int) < ((a.length : Nat) : Int))) then
  bif (decide ((((List.getD a 0 ([] : List UInt8)).length : Nat) : Int) < (1 : Int))) then
    bif (caseRec_P) then
    ret (caseRec_r)
    else fail
  else
  bif (decide ((0 : Int) < ((a.length : Nat) : Int))) then
  bif (decide ((((List.getD a 0 ([] : List UInt8)).length : Nat) : Int) > (20 : Int))) then
    bif (caseRec_P) then
    ret (caseRec_r)
    else fail
  else
  bif (decide ((0 : Int) < ((a.length : Nat) : Int))) then
  bif ((decide ((0 : Int) ≤ (minI (minI ((a.length : Nat) : Int) ((b.length : Nat) : Int)) (6 : Int)))) && (decide ((minI (minI ((a.length : Nat) : Int) ((b.length : Nat) : Int)) (6 : Int)) ≤ ((a.length : Nat) : Int)))) then
  TopVolumesAlgebra_l1F F fail
    (fun (s11 : List (List UInt8)) (s12 : Int) (s13 : Int) (a1 : List (List UInt8)) (b1 : List (List UInt8)) (s2 : Int) (out : List (List UInt8)) (at_1 : List UInt8) (n : Int) =>
      bif ((decide ((0 : Int) ≤ n)) && (decide (n ≤ ((b1.length : Nat) : Int)))) then
      TopVolumesAlgebra_l2F F fail
        (fun (s111 : List (List UInt8)) (s121 : Int) (s131 : Int) (a2 : List (List UInt8)) (b2 : List (List UInt8)) (s21 : Int) (out1 : List (List UInt8)) (at_2 : List UInt8) (n1 : Int) (s60 : List (List UInt8)) =>
          bif ((decide ((0 : Int) ≤ n1)) && (decide (n1 ≤ ((a2.length : Nat) : Int)))) then
          TopVolumesAlgebra_l3F F fail
            (fun (s112 : List (List UInt8)) (s122 : Int) (s132 : Int) (a3 : List (List UInt8)) (b3 : List (List UInt8)) (x_ : List (List UInt8)) (y : List (List UInt8)) (s22 : Int) (out2 : List (List UInt8)) (at_3 : List UInt8) (n2 : Int) =>
              TopVolumesAlgebra_l4F F fail
                (fun (a4 : List (List UInt8)) (s6 : Bool) (x_1 : List (List UInt8)) (y1 : List (List UInt8)) (s68 : Int) (s69 : Int) (at_4 : List UInt8) (n3 : Int) (size : Int) (sum : List (List UInt8)) =>
                  bif (pRecovery_P x_1 (2 : Int)) then
                  bif (pRecovery_P y1 (2 : Int)) then
                  bif (pRecovery_P sum (2 : Int)) then
                  bif (gCauchy_P (2 : Int) n3) then
                  bif (gProduct_P (gCauchy_r0 (2 : Int) n3) x_1) then
                  bif ((addI (addI (addI (addI (pRecovery_r1 x_1 (2 : Int)) (pRecovery_r1 y1 (2 : Int))) (pRecovery_r1 sum (2 : Int))) (gCauchy_r1 (2 : Int) n3)) (gProduct_r1 (gCauchy_r0 (2 : Int) n3) x_1)) != (0 : Int)) then
                    ret false
                  else
                  bif ((((pRecovery_r0 x_1 (2 : Int)).length : Nat) : Int) != (2 : Int)) then
                    ret false
                  else
                  bif ((((pRecovery_r0 y1 (2 : Int)).length : Nat) : Int) != (2 : Int)) then
                    ret false
                  else
                  bif ((((pRecovery_r0 sum (2 : Int)).length : Nat) : Int) != (2 : Int)) then
                    ret false
                  else
                  bif ((((gProduct_r0 (gCauchy_r0 (2 : Int) n3) x_1).length : Nat) : Int) != (2 : Int)) then
                    ret false
                  else
                  TopVolumesAlgebra_l6F F fail
                    (fun (a5 : List (List UInt8)) (s61 : Bool) (x_2 : List (List UInt8)) (p : List (List UInt8)) (q : List (List UInt8)) (r : List (List UInt8)) (product : List (List UInt8)) (s155 : Int) (s156 : Int) (at_5 : List UInt8) (n4 : Int) (size1 : Int) =>
                      ret s61)
                    (fun (a6 : List (List UInt8)) (s62 : Bool) (x_3 : List (List UInt8)) (p1 : List (List UInt8)) (q1 : List (List UInt8)) (r1 : List (List UInt8)) (product1 : List (List UInt8)) (s1551 : Int) (s1561 : Int) (at_6 : List UInt8) (n5 : Int) (size2 : Int) =>
                      bif ((decide ((0 : Int) ≤ n5)) && (decide (n5 ≤ ((a6.length : Nat) : Int)))) then
                      TopVolumesAlgebra_l8F F fail
                        (fun (s113 : List (List UInt8)) (s123 : Int) (s133 : Int) (a7 : List (List UInt8)) (s63 : Bool) (x_4 : List (List UInt8)) (p2 : List (List UInt8)) (q2 : List (List UInt8)) (r2 : List (List UInt8)) (product2 : List (List UInt8)) (s1552 : Int) (s1562 : Int) (s23 : Int) (out3 : List (List UInt8)) (at_7 : List UInt8) (n6 : Int) =>
                          bif (decide ((out3 ++ p2).length ≤ big)) then
                          bif (n6 != (0 : Int)) then
                          bif (n6 != (0 : Int)) then
                          bif ((decide ((0 : Int) ≤ (remI (cvBI (List.getD at_7 0 (0 : UInt8))) n6))) && (decide ((remI (cvBI (List.getD at_7 0 (0 : UInt8))) n6) < (((out3 ++ p2).length : Nat) : Int)))) then
                          bif ((decide ((0 : Int) ≤ (remI (cvBI (List.getD at_7 1 (0 : UInt8))) n6))) && (decide ((remI (cvBI (List.getD at_7 1 (0 : UInt8))) n6) < (((List.set (out3 ++ p2) ((remI (cvBI (List.getD at_7 0 (0 : UInt8))) n6)).toNat ([] : List UInt8)).length : Nat) : Int)))) then
                          bif (pRepair_P (List.set (List.set (out3 ++ p2) ((remI (cvBI (List.getD at_7 0 (0 : UInt8))) n6)).toNat ([] : List UInt8)) ((remI (cvBI (List.getD at_7 1 (0 : UInt8))) n6)).toNat ([] : List UInt8)) n6) then
                          bif ((pRepair_r1 (List.set (List.set (out3 ++ p2) ((remI (cvBI (List.getD at_7 0 (0 : UInt8))) n6)).toNat ([] : List UInt8)) ((remI (cvBI (List.getD at_7 1 (0 : UInt8))) n6)).toNat ([] : List UInt8)) n6) != (0 : Int)) then
                            ret false
                          else
                          bif ((((pRepair_r0 (List.set (List.set (out3 ++ p2) ((remI (cvBI (List.getD at_7 0 (0 : UInt8))) n6)).toNat ([] : List UInt8)) ((remI (cvBI (List.getD at_7 1 (0 : UInt8))) n6)).toNat ([] : List UInt8)) n6).length : Nat) : Int) != (addI n6 (2 : Int))) then
                            ret false
                          else
                          TopVolumesAlgebra_l9F F fail
                            (fun (s64 : Bool) (x_5 : List (List UInt8)) (back : List (List UInt8)) (s264 : Int) (s265 : Int) =>
                              ret s64)
                            (fun (s65 : Bool) (x_6 : List (List UInt8)) (back1 : List (List UInt8)) (s2641 : Int) (s2651 : Int) =>
                              bif (caseRec_P) then
                              ret (caseRec_r)
                              else fail)
                            F s63 x_4 (pRepair_r0 (List.set (List.set (out3 ++ p2) ((remI (cvBI (List.getD at_7 0 (0 : UInt8))) n6)).toNat ([] : List UInt8)) ((remI (cvBI (List.getD at_7 1 (0 : UInt8))) n6)).toNat ([] : List UInt8)) n6) ((x_4.length : Nat) : Int) (0 : Int)
                          else fail
                          else fail
                          else fail
                          else fail
                          else fail
                          else fail)
                        F (List.take (n5).toNat a6) (((List.take (n5).toNat a6).length : Nat) : Int) (0 : Int) a6 s62 x_3 p1 q1 r1 product1 s1551 s1561 size2 ([] : List (List UInt8)) at_6 n5
                      else fail)
                    F a4 s6 x_1 (pRecovery_r0 x_1 (2 : Int)) (pRecovery_r0 y1 (2 : Int)) (pRecovery_r0 sum (2 : Int)) (gProduct_r0 (gCauchy_r0 (2 : Int) n3) x_1) (((pRecovery_r0 x_1 (2 : Int)).length : Nat) : Int) (0 : Int) at_4 n3 size
                  else fail
                  else fail
                  else fail
                  else fail
                  else fail)
                F a3 false x_ y ((out2.length : Nat) : Int) (0 : Int) at_3 n2 s22 out2)
            F (List.take (n1).toNat a2) (((List.take (n1).toNat a2).length : Nat) : Int) (0 : Int) a2 b2 s60 out1 s21 ([] : List (List UInt8)) at_2 n1
          else fail)
        F (List.take (n).toNat b1) (((List.take (n).toNat b1).length : Nat) : Int) (0 : Int) a1 b1 s2 ([] : List (List UInt8)) at_1 n out
      else fail)
    F (List.take ((minI (minI ((a.length : Nat) : Int) ((b.length : Nat) : Int)) (6 : Int))).toNat a) (((List.take ((minI (minI ((a.length : Nat) : Int) ((b.length : Nat) : Int)) (6 : Int))).toNat a).length : Nat) : Int) (0 : Int) a b (((List.getD a 0 ([] : List UInt8)).length : Nat) : Int) ([] : List (List UInt8)) at_ (minI (minI ((a.length : Nat) : Int) ((b.length : Nat) : Int)) (6 : Int))
  else fail
  else fail
  else fail
  else fail

end Go.AI
