/- Plain functions, printed by running the machine on symbols. -/
import Derived.Test.YtfpconfgbkoifaaCipherS
namespace Go.AI
open Go
set_option linter.unusedVariables false

def rol32 {X : Type} (F : Nat) (x_ : UInt32) (k : Int) (fail : X) (ret : UInt32 → X) : X :=
  ret (orW (shlW x_ (andU (cvIU k) (31 : Int))) (shrW x_ (subU (32 : Int) (andU (cvIU k) (31 : Int)))))

def cFirst_l2 {X : Type} (F : Nat) (fail : X) (next : Int → Int → Int → Int → Int → List UInt8 → List UInt32 → List UInt32 → X) (ex0 : Int → Int → Int → Int → Int → List UInt8 → List UInt32 → List UInt32 → X) (nonce : Int) (counter : Int) (i : Int) (s11 : Int) (s14 : Int) (key : List UInt8) (s6 : List UInt32) (w : List UInt32) : X :=
  bif (decide (s14 < (4 : Int))) then
    bif ((decide ((0 : Int) ≤ (addI (4 : Int) i))) && (decide ((addI (4 : Int) i) < ((16 : Nat) : Int)))) then
    bif ((decide ((0 : Int) ≤ (addI (mulI (4 : Int) i) s14))) && (decide ((addI (mulI (4 : Int) i) s14) < ((32 : Nat) : Int)))) then
    bif (decide ((0 : Int) ≤ (mulI (8 : Int) s14))) then
    bif ((decide ((0 : Int) ≤ (addI (4 : Int) i))) && (decide ((addI (4 : Int) i) < ((16 : Nat) : Int)))) then
    next nonce counter i s11 (addI s14 (1 : Int)) key s6 (List.set w ((addI (4 : Int) i)).toNat (orW (List.getD w ((addI (4 : Int) i)).toNat (0 : UInt32)) (shlW (cvBW (List.getD key ((addI (mulI (4 : Int) i) s14)).toNat (0 : UInt8))) (mulI (8 : Int) s14))))
    else fail
    else fail
    else fail
    else fail
  else
  ex0 nonce counter i s11 s14 key s6 w
def cFirst_l2F {X : Type} (F : Nat) (fail : X) (ex0 : Int → Int → Int → Int → Int → List UInt8 → List UInt32 → List UInt32 → X) : Nat → Int → Int → Int → Int → Int → List UInt8 → List UInt32 → List UInt32 → X
  | 0, _, _, _, _, _, _, _, _ => fail
  | m + 1, nonce, counter, i, s11, s14, key, s6, w => cFirst_l2 F fail (cFirst_l2F F fail ex0 m) ex0 nonce counter i s11 s14 key s6 w

def cFirst_l1 {X : Type} (F : Nat) (fail : X) (next : Int → Int → Int → List UInt8 → List UInt32 → List UInt32 → X) (ex0 : Int → Int → Int → List UInt8 → List UInt32 → List UInt32 → X) (nonce : Int) (counter : Int) (s11 : Int) (key : List UInt8) (s6 : List UInt32) (w : List UInt32) : X :=
  bif (decide (s11 < (8 : Int))) then
    cFirst_l2F F fail
      (fun (nonce1 : Int) (counter1 : Int) (i : Int) (s111 : Int) (s14 : Int) (key1 : List UInt8) (s61 : List UInt32) (w1 : List UInt32) =>
        next nonce1 counter1 (addI s111 (1 : Int)) key1 s61 w1)
      F nonce counter s11 s11 (0 : Int) key s6 w
  else
  ex0 nonce counter s11 key s6 w
def cFirst_l1F {X : Type} (F : Nat) (fail : X) (ex0 : Int → Int → Int → List UInt8 → List UInt32 → List UInt32 → X) : Nat → Int → Int → Int → List UInt8 → List UInt32 → List UInt32 → X
  | 0, _, _, _, _, _, _ => fail
  | m + 1, nonce, counter, s11, key, s6, w => cFirst_l1 F fail (cFirst_l1F F fail ex0 m) ex0 nonce counter s11 key s6 w

def cFirst {X : Type} (F : Nat) (key : List UInt8) (nonce : Int) (counter : Int) (fail : X) (ret : List UInt32 → X) : X :=
  cFirst_l1F F fail
    (fun (nonce1 : Int) (counter1 : Int) (s11 : Int) (key1 : List UInt8) (s6 : List UInt32) (w : List UInt32) =>
      ret (List.set (List.set (List.set w 12 (cvIW counter1)) 14 (cvIW nonce1)) 15 (cvIW (shrI nonce1 (32 : Int)))))
    F nonce counter (0 : Int) key ([(0 : UInt32), (0 : UInt32), (0 : UInt32), (0 : UInt32), (0 : UInt32), (0 : UInt32), (0 : UInt32), (0 : UInt32), (0 : UInt32), (0 : UInt32), (0 : UInt32), (0 : UInt32), (0 : UInt32), (0 : UInt32), (0 : UInt32), (0 : UInt32)] : List UInt32) ([(1634760805 : UInt32), (857760878 : UInt32), (2036477234 : UInt32), (1797285236 : UInt32), (0 : UInt32), (0 : UInt32), (0 : UInt32), (0 : UInt32), (0 : UInt32), (0 : UInt32), (0 : UInt32), (0 : UInt32), (0 : UInt32), (0 : UInt32), (0 : UInt32), (0 : UInt32)] : List UInt32)

def cBlk_l3 {X : Type} (F : Nat) (fail : X) (next : List (Int × (Int × (Int × (Int × Unit)))) → Int → Int → Int → List UInt32 → List UInt32 → X) (ex0 : List (Int × (Int × (Int × (Int × Unit)))) → Int → Int → Int → List UInt32 → List UInt32 → X) (s30 : List (Int × (Int × (Int × (Int × Unit))))) (s31 : Int) (s7 : Int) (s9 : Int) (w : List UInt32) (w1 : List UInt32) : X :=
  bif (decide (s31 < (4 : Int))) then
    bif ((decide ((0 : Int) ≤ s31)) && (decide (s31 < ((4 : Nat) : Int)))) then
    bif ((decide ((0 : Int) ≤ (List.getD s30 (s31).toNat ((0 : Int), ((0 : Int), ((0 : Int), ((0 : Int), ()))))).1)) && (decide ((List.getD s30 (s31).toNat ((0 : Int), ((0 : Int), ((0 : Int), ((0 : Int), ()))))).1 < ((16 : Nat) : Int)))) then
    bif ((decide ((0 : Int) ≤ (List.getD s30 (s31).toNat ((0 : Int), ((0 : Int), ((0 : Int), ((0 : Int), ()))))).2.1)) && (decide ((List.getD s30 (s31).toNat ((0 : Int), ((0 : Int), ((0 : Int), ((0 : Int), ()))))).2.1 < ((16 : Nat) : Int)))) then
    bif ((decide ((0 : Int) ≤ (List.getD s30 (s31).toNat ((0 : Int), ((0 : Int), ((0 : Int), ((0 : Int), ()))))).1)) && (decide ((List.getD s30 (s31).toNat ((0 : Int), ((0 : Int), ((0 : Int), ((0 : Int), ()))))).1 < ((16 : Nat) : Int)))) then
    bif ((decide ((0 : Int) ≤ (List.getD s30 (s31).toNat ((0 : Int), ((0 : Int), ((0 : Int), ((0 : Int), ()))))).2.2.1)) && (decide ((List.getD s30 (s31).toNat ((0 : Int), ((0 : Int), ((0 : Int), ((0 : Int), ()))))).2.2.1 < ((16 : Nat) : Int)))) then
    bif ((decide ((0 : Int) ≤ (List.getD s30 (s31).toNat ((0 : Int), ((0 : Int), ((0 : Int), ((0 : Int), ()))))).1)) && (decide ((List.getD s30 (s31).toNat ((0 : Int), ((0 : Int), ((0 : Int), ((0 : Int), ()))))).1 < ((16 : Nat) : Int)))) then
    bif (rol32_P (xorW (List.getD (List.set w ((List.getD s30 (s31).toNat ((0 : Int), ((0 : Int), ((0 : Int), ((0 : Int), ()))))).1).toNat (addW (List.getD w ((List.getD s30 (s31).toNat ((0 : Int), ((0 : Int), ((0 : Int), ((0 : Int), ()))))).1).toNat (0 : UInt32)) (List.getD w ((List.getD s30 (s31).toNat ((0 : Int), ((0 : Int), ((0 : Int), ((0 : Int), ()))))).2.1).toNat (0 : UInt32)))) ((List.getD s30 (s31).toNat ((0 : Int), ((0 : Int), ((0 : Int), ((0 : Int), ()))))).2.2.1).toNat (0 : UInt32)) (List.getD (List.set w ((List.getD s30 (s31).toNat ((0 : Int), ((0 : Int), ((0 : Int), ((0 : Int), ()))))).1).toNat (addW (List.getD w ((List.getD s30 (s31).toNat ((0 : Int), ((0 : Int), ((0 : Int), ((0 : Int), ()))))).1).toNat (0 : UInt32)) (List.getD w ((List.getD s30 (s31).toNat ((0 : Int), ((0 : Int), ((0 : Int), ((0 : Int), ()))))).2.1).toNat (0 : UInt32)))) ((List.getD s30 (s31).toNat ((0 : Int), ((0 : Int), ((0 : Int), ((0 : Int), ()))))).1).toNat (0 : UInt32))) (List.getD s30 (s31).toNat ((0 : Int), ((0 : Int), ((0 : Int), ((0 : Int), ()))))).2.2.2.1) then
    bif ((decide ((0 : Int) ≤ (List.getD s30 (s31).toNat ((0 : Int), ((0 : Int), ((0 : Int), ((0 : Int), ()))))).2.2.1)) && (decide ((List.getD s30 (s31).toNat ((0 : Int), ((0 : Int), ((0 : Int), ((0 : Int), ()))))).2.2.1 < ((16 : Nat) : Int)))) then
    next s30 (addI s31 (1 : Int)) s7 s9 (List.set (List.set w ((List.getD s30 (s31).toNat ((0 : Int), ((0 : Int), ((0 : Int), ((0 : Int), ()))))).1).toNat (addW (List.getD w ((List.getD s30 (s31).toNat ((0 : Int), ((0 : Int), ((0 : Int), ((0 : Int), ()))))).1).toNat (0 : UInt32)) (List.getD w ((List.getD s30 (s31).toNat ((0 : Int), ((0 : Int), ((0 : Int), ((0 : Int), ()))))).2.1).toNat (0 : UInt32)))) ((List.getD s30 (s31).toNat ((0 : Int), ((0 : Int), ((0 : Int), ((0 : Int), ()))))).2.2.1).toNat (rol32_r (xorW (List.getD (List.set w ((List.getD s30 (s31).toNat ((0 : Int), ((0 : Int), ((0 : Int), ((0 : Int), ()))))).1).toNat (addW (List.getD w ((List.getD s30 (s31).toNat ((0 : Int), ((0 : Int), ((0 : Int), ((0 : Int), ()))))).1).toNat (0 : UInt32)) (List.getD w ((List.getD s30 (s31).toNat ((0 : Int), ((0 : Int), ((0 : Int), ((0 : Int), ()))))).2.1).toNat (0 : UInt32)))) ((List.getD s30 (s31).toNat ((0 : Int), ((0 : Int), ((0 : Int), ((0 : Int), ()))))).2.2.1).toNat (0 : UInt32)) (List.getD (List.set w ((List.getD s30 (s31).toNat ((0 : Int), ((0 : Int), ((0 : Int), ((0 : Int), ()))))).1).toNat (addW (List.getD w ((List.getD s30 (s31).toNat ((0 : Int), ((0 : Int), ((0 : Int), ((0 : Int), ()))))).1).toNat (0 : UInt32)) (List.getD w ((List.getD s30 (s31).toNat ((0 : Int), ((0 : Int), ((0 : Int), ((0 : Int), ()))))).2.1).toNat (0 : UInt32)))) ((List.getD s30 (s31).toNat ((0 : Int), ((0 : Int), ((0 : Int), ((0 : Int), ()))))).1).toNat (0 : UInt32))) (List.getD s30 (s31).toNat ((0 : Int), ((0 : Int), ((0 : Int), ((0 : Int), ()))))).2.2.2.1)) w1
    else fail
    else fail
    else fail
    else fail
    else fail
    else fail
    else fail
    else fail
  else
  ex0 s30 s31 s7 s9 w w1
def cBlk_l3F {X : Type} (F : Nat) (fail : X) (ex0 : List (Int × (Int × (Int × (Int × Unit)))) → Int → Int → Int → List UInt32 → List UInt32 → X) : Nat → List (Int × (Int × (Int × (Int × Unit)))) → Int → Int → Int → List UInt32 → List UInt32 → X
  | 0, _, _, _, _, _, _ => fail
  | m + 1, s30, s31, s7, s9, w, w1 => cBlk_l3 F fail (cBlk_l3F F fail ex0 m) ex0 s30 s31 s7 s9 w w1

def cBlk_l2 {X : Type} (F : Nat) (fail : X) (next : Int → Int → List UInt32 → List UInt32 → X) (ex0 : Int → Int → List UInt32 → List UInt32 → X) (s7 : Int) (s9 : Int) (change : List UInt32) (w : List UInt32) : X :=
  bif (decide (s9 < (4 : Int))) then
    cBlk_l3F F fail
      (fun (s30 : List (Int × (Int × (Int × (Int × Unit))))) (s31 : Int) (s71 : Int) (s91 : Int) (w1 : List UInt32) (w2 : List UInt32) =>
        next s71 (addI s91 (1 : Int)) w1 w2)
      F ([(s9, ((addI (4 : Int) s9), ((addI (12 : Int) s9), ((16 : Int), ())))), ((addI (8 : Int) s9), ((addI (12 : Int) s9), ((addI (4 : Int) s9), ((12 : Int), ())))), (s9, ((addI (4 : Int) s9), ((addI (12 : Int) s9), ((8 : Int), ())))), ((addI (8 : Int) s9), ((addI (12 : Int) s9), ((addI (4 : Int) s9), ((7 : Int), ()))))] : List (Int × (Int × (Int × (Int × Unit))))) (0 : Int) s7 s9 change w
  else
  ex0 s7 s9 change w
def cBlk_l2F {X : Type} (F : Nat) (fail : X) (ex0 : Int → Int → List UInt32 → List UInt32 → X) : Nat → Int → Int → List UInt32 → List UInt32 → X
  | 0, _, _, _, _ => fail
  | m + 1, s7, s9, change, w => cBlk_l2 F fail (cBlk_l2F F fail ex0 m) ex0 s7 s9 change w

def cBlk_l5 {X : Type} (F : Nat) (fail : X) (next : List (Int × (Int × (Int × (Int × Unit)))) → Int → Int → Int → List UInt32 → List UInt32 → X) (ex0 : List (Int × (Int × (Int × (Int × Unit)))) → Int → Int → Int → List UInt32 → List UInt32 → X) (s30 : List (Int × (Int × (Int × (Int × Unit))))) (s31 : Int) (s7 : Int) (s22 : Int) (w : List UInt32) (w1 : List UInt32) : X :=
  bif (decide (s31 < (4 : Int))) then
    bif ((decide ((0 : Int) ≤ s31)) && (decide (s31 < ((4 : Nat) : Int)))) then
    bif ((decide ((0 : Int) ≤ (List.getD s30 (s31).toNat ((0 : Int), ((0 : Int), ((0 : Int), ((0 : Int), ()))))).1)) && (decide ((List.getD s30 (s31).toNat ((0 : Int), ((0 : Int), ((0 : Int), ((0 : Int), ()))))).1 < ((16 : Nat) : Int)))) then
    bif ((decide ((0 : Int) ≤ (List.getD s30 (s31).toNat ((0 : Int), ((0 : Int), ((0 : Int), ((0 : Int), ()))))).2.1)) && (decide ((List.getD s30 (s31).toNat ((0 : Int), ((0 : Int), ((0 : Int), ((0 : Int), ()))))).2.1 < ((16 : Nat) : Int)))) then
    bif ((decide ((0 : Int) ≤ (List.getD s30 (s31).toNat ((0 : Int), ((0 : Int), ((0 : Int), ((0 : Int), ()))))).1)) && (decide ((List.getD s30 (s31).toNat ((0 : Int), ((0 : Int), ((0 : Int), ((0 : Int), ()))))).1 < ((16 : Nat) : Int)))) then
    bif ((decide ((0 : Int) ≤ (List.getD s30 (s31).toNat ((0 : Int), ((0 : Int), ((0 : Int), ((0 : Int), ()))))).2.2.1)) && (decide ((List.getD s30 (s31).toNat ((0 : Int), ((0 : Int), ((0 : Int), ((0 : Int), ()))))).2.2.1 < ((16 : Nat) : Int)))) then
    bif ((decide ((0 : Int) ≤ (List.getD s30 (s31).toNat ((0 : Int), ((0 : Int), ((0 : Int), ((0 : Int), ()))))).1)) && (decide ((List.getD s30 (s31).toNat ((0 : Int), ((0 : Int), ((0 : Int), ((0 : Int), ()))))).1 < ((16 : Nat) : Int)))) then
    bif (rol32_P (xorW (List.getD (List.set w ((List.getD s30 (s31).toNat ((0 : Int), ((0 : Int), ((0 : Int), ((0 : Int), ()))))).1).toNat (addW (List.getD w ((List.getD s30 (s31).toNat ((0 : Int), ((0 : Int), ((0 : Int), ((0 : Int), ()))))).1).toNat (0 : UInt32)) (List.getD w ((List.getD s30 (s31).toNat ((0 : Int), ((0 : Int), ((0 : Int), ((0 : Int), ()))))).2.1).toNat (0 : UInt32)))) ((List.getD s30 (s31).toNat ((0 : Int), ((0 : Int), ((0 : Int), ((0 : Int), ()))))).2.2.1).toNat (0 : UInt32)) (List.getD (List.set w ((List.getD s30 (s31).toNat ((0 : Int), ((0 : Int), ((0 : Int), ((0 : Int), ()))))).1).toNat (addW (List.getD w ((List.getD s30 (s31).toNat ((0 : Int), ((0 : Int), ((0 : Int), ((0 : Int), ()))))).1).toNat (0 : UInt32)) (List.getD w ((List.getD s30 (s31).toNat ((0 : Int), ((0 : Int), ((0 : Int), ((0 : Int), ()))))).2.1).toNat (0 : UInt32)))) ((List.getD s30 (s31).toNat ((0 : Int), ((0 : Int), ((0 : Int), ((0 : Int), ()))))).1).toNat (0 : UInt32))) (List.getD s30 (s31).toNat ((0 : Int), ((0 : Int), ((0 : Int), ((0 : Int), ()))))).2.2.2.1) then
    bif ((decide ((0 : Int) ≤ (List.getD s30 (s31).toNat ((0 : Int), ((0 : Int), ((0 : Int), ((0 : Int), ()))))).2.2.1)) && (decide ((List.getD s30 (s31).toNat ((0 : Int), ((0 : Int), ((0 : Int), ((0 : Int), ()))))).2.2.1 < ((16 : Nat) : Int)))) then
    next s30 (addI s31 (1 : Int)) s7 s22 (List.set (List.set w ((List.getD s30 (s31).toNat ((0 : Int), ((0 : Int), ((0 : Int), ((0 : Int), ()))))).1).toNat (addW (List.getD w ((List.getD s30 (s31).toNat ((0 : Int), ((0 : Int), ((0 : Int), ((0 : Int), ()))))).1).toNat (0 : UInt32)) (List.getD w ((List.getD s30 (s31).toNat ((0 : Int), ((0 : Int), ((0 : Int), ((0 : Int), ()))))).2.1).toNat (0 : UInt32)))) ((List.getD s30 (s31).toNat ((0 : Int), ((0 : Int), ((0 : Int), ((0 : Int), ()))))).2.2.1).toNat (rol32_r (xorW (List.getD (List.set w ((List.getD s30 (s31).toNat ((0 : Int), ((0 : Int), ((0 : Int), ((0 : Int), ()))))).1).toNat (addW (List.getD w ((List.getD s30 (s31).toNat ((0 : Int), ((0 : Int), ((0 : Int), ((0 : Int), ()))))).1).toNat (0 : UInt32)) (List.getD w ((List.getD s30 (s31).toNat ((0 : Int), ((0 : Int), ((0 : Int), ((0 : Int), ()))))).2.1).toNat (0 : UInt32)))) ((List.getD s30 (s31).toNat ((0 : Int), ((0 : Int), ((0 : Int), ((0 : Int), ()))))).2.2.1).toNat (0 : UInt32)) (List.getD (List.set w ((List.getD s30 (s31).toNat ((0 : Int), ((0 : Int), ((0 : Int), ((0 : Int), ()))))).1).toNat (addW (List.getD w ((List.getD s30 (s31).toNat ((0 : Int), ((0 : Int), ((0 : Int), ((0 : Int), ()))))).1).toNat (0 : UInt32)) (List.getD w ((List.getD s30 (s31).toNat ((0 : Int), ((0 : Int), ((0 : Int), ((0 : Int), ()))))).2.1).toNat (0 : UInt32)))) ((List.getD s30 (s31).toNat ((0 : Int), ((0 : Int), ((0 : Int), ((0 : Int), ()))))).1).toNat (0 : UInt32))) (List.getD s30 (s31).toNat ((0 : Int), ((0 : Int), ((0 : Int), ((0 : Int), ()))))).2.2.2.1)) w1
    else fail
    else fail
    else fail
    else fail
    else fail
    else fail
    else fail
    else fail
  else
  ex0 s30 s31 s7 s22 w w1
def cBlk_l5F {X : Type} (F : Nat) (fail : X) (ex0 : List (Int × (Int × (Int × (Int × Unit)))) → Int → Int → Int → List UInt32 → List UInt32 → X) : Nat → List (Int × (Int × (Int × (Int × Unit)))) → Int → Int → Int → List UInt32 → List UInt32 → X
  | 0, _, _, _, _, _, _ => fail
  | m + 1, s30, s31, s7, s22, w, w1 => cBlk_l5 F fail (cBlk_l5F F fail ex0 m) ex0 s30 s31 s7 s22 w w1

def cBlk_l4 {X : Type} (F : Nat) (fail : X) (next : Int → Int → List UInt32 → List UInt32 → X) (ex0 : Int → Int → List UInt32 → List UInt32 → X) (s7 : Int) (s22 : Int) (change : List UInt32) (w : List UInt32) : X :=
  bif (decide (s22 < (4 : Int))) then
    cBlk_l5F F fail
      (fun (s30 : List (Int × (Int × (Int × (Int × Unit))))) (s31 : Int) (s71 : Int) (s221 : Int) (w1 : List UInt32) (w2 : List UInt32) =>
        next s71 (addI s221 (1 : Int)) w1 w2)
      F ([(s22, ((addI (4 : Int) (remI (addI s22 (1 : Int)) (4 : Int))), ((addI (12 : Int) (remI (addI s22 (3 : Int)) (4 : Int))), ((16 : Int), ())))), ((addI (8 : Int) (remI (addI s22 (2 : Int)) (4 : Int))), ((addI (12 : Int) (remI (addI s22 (3 : Int)) (4 : Int))), ((addI (4 : Int) (remI (addI s22 (1 : Int)) (4 : Int))), ((12 : Int), ())))), (s22, ((addI (4 : Int) (remI (addI s22 (1 : Int)) (4 : Int))), ((addI (12 : Int) (remI (addI s22 (3 : Int)) (4 : Int))), ((8 : Int), ())))), ((addI (8 : Int) (remI (addI s22 (2 : Int)) (4 : Int))), ((addI (12 : Int) (remI (addI s22 (3 : Int)) (4 : Int))), ((addI (4 : Int) (remI (addI s22 (1 : Int)) (4 : Int))), ((7 : Int), ()))))] : List (Int × (Int × (Int × (Int × Unit))))) (0 : Int) s7 s22 change w
  else
  ex0 s7 s22 change w
def cBlk_l4F {X : Type} (F : Nat) (fail : X) (ex0 : Int → Int → List UInt32 → List UInt32 → X) : Nat → Int → Int → List UInt32 → List UInt32 → X
  | 0, _, _, _, _ => fail
  | m + 1, s7, s22, change, w => cBlk_l4 F fail (cBlk_l4F F fail ex0 m) ex0 s7 s22 change w

def cBlk_l1 {X : Type} (F : Nat) (fail : X) (next : Int → List UInt32 → List UInt32 → X) (ex0 : Int → List UInt32 → List UInt32 → X) (s7 : Int) (change : List UInt32) (w : List UInt32) : X :=
  bif (decide (s7 < (10 : Int))) then
    cBlk_l2F F fail
      (fun (s71 : Int) (s9 : Int) (change1 : List UInt32) (w1 : List UInt32) =>
        cBlk_l4F F fail
          (fun (s72 : Int) (s22 : Int) (change2 : List UInt32) (w2 : List UInt32) =>
            next (addI s72 (1 : Int)) change2 w2)
          F s71 (0 : Int) change1 w1)
      F s7 (0 : Int) change w
  else
  ex0 s7 change w
def cBlk_l1F {X : Type} (F : Nat) (fail : X) (ex0 : Int → List UInt32 → List UInt32 → X) : Nat → Int → List UInt32 → List UInt32 → X
  | 0, _, _, _ => fail
  | m + 1, s7, change, w => cBlk_l1 F fail (cBlk_l1F F fail ex0 m) ex0 s7 change w

def cBlk_l6 {X : Type} (F : Nat) (fail : X) (next : List UInt32 → Int → List UInt32 → List UInt8 → X) (ex0 : List UInt32 → Int → List UInt32 → List UInt8 → X) (s18 : List UInt32) (s19 : Int) (w : List UInt32) (out : List UInt8) : X :=
  bif (decide (s19 < (16 : Int))) then
    bif ((decide ((0 : Int) ≤ s19)) && (decide (s19 < ((16 : Nat) : Int)))) then
    bif ((decide ((0 : Int) ≤ s19)) && (decide (s19 < ((16 : Nat) : Int)))) then
    bif (decide ((out ++ ([(cvWB (addW (List.getD s18 (s19).toNat (0 : UInt32)) (List.getD w (s19).toNat (0 : UInt32)))), (cvWB (shrW (addW (List.getD s18 (s19).toNat (0 : UInt32)) (List.getD w (s19).toNat (0 : UInt32))) (8 : Int))), (cvWB (shrW (addW (List.getD s18 (s19).toNat (0 : UInt32)) (List.getD w (s19).toNat (0 : UInt32))) (16 : Int))), (cvWB (shrW (addW (List.getD s18 (s19).toNat (0 : UInt32)) (List.getD w (s19).toNat (0 : UInt32))) (24 : Int)))] : List UInt8)).length ≤ big)) then
    next s18 (addI s19 (1 : Int)) w (out ++ ([(cvWB (addW (List.getD s18 (s19).toNat (0 : UInt32)) (List.getD w (s19).toNat (0 : UInt32)))), (cvWB (shrW (addW (List.getD s18 (s19).toNat (0 : UInt32)) (List.getD w (s19).toNat (0 : UInt32))) (8 : Int))), (cvWB (shrW (addW (List.getD s18 (s19).toNat (0 : UInt32)) (List.getD w (s19).toNat (0 : UInt32))) (16 : Int))), (cvWB (shrW (addW (List.getD s18 (s19).toNat (0 : UInt32)) (List.getD w (s19).toNat (0 : UInt32))) (24 : Int)))] : List UInt8))
    else fail
    else fail
    else fail
  else
  ex0 s18 s19 w out
def cBlk_l6F {X : Type} (F : Nat) (fail : X) (ex0 : List UInt32 → Int → List UInt32 → List UInt8 → X) : Nat → List UInt32 → Int → List UInt32 → List UInt8 → X
  | 0, _, _, _, _ => fail
  | m + 1, s18, s19, w, out => cBlk_l6 F fail (cBlk_l6F F fail ex0 m) ex0 s18 s19 w out

def cBlk {X : Type} (F : Nat) (key : List UInt8) (nonce : Int) (counter : Int) (fail : X) (ret : List UInt8 → X) : X :=
  bif (cFirst_P key nonce counter) then
  cBlk_l1F F fail
    (fun (s7 : Int) (change : List UInt32) (w : List UInt32) =>
      cBlk_l6F F fail
        (fun (s18 : List UInt32) (s19 : Int) (w1 : List UInt32) (out : List UInt8) =>
          ret out)
        F change (0 : Int) w ([] : List UInt8))
    F (0 : Int) (cFirst_r key nonce counter) (cFirst_r key nonce counter)
  else fail

def cRange {X : Type} (F : Nat) (nonce : Int) (fail : X) (ret : Bool → X) : X :=
  bif (decide (nonce ≥ (0 : Int))) then
    ret (decide (nonce ≤ (9007199254740991 : Int)))
  else
  ret false

def cBlock {X : Type} (F : Nat) (key : List UInt8) (nonce : Int) (counter : Int) (fail : X) (ret : List UInt8 → Int → X) : X :=
  bif (!(cRange_r nonce)) then
    ret ([] : List UInt8) (2 : Int)
  else
  bif (decide (counter < (0 : Int))) then
    ret ([] : List UInt8) (2 : Int)
  else
  bif (decide (counter > (4294967295 : Int))) then
    ret ([] : List UInt8) (2 : Int)
  else
  bif (cBlk_P key nonce counter) then
  ret (cBlk_r key nonce counter) (0 : Int)
  else fail

def cStream_l2 {X : Type} (F : Nat) (fail : X) (next : Nat → Nat → Int → Int → Int → List UInt8 → Int → Int → List UInt8 → List UInt8 → List UInt8 → Int → Int → X) (ex0 : Nat → Nat → Int → Int → Int → List UInt8 → Int → Int → List UInt8 → List UInt8 → List UInt8 → Int → Int → X) (part_i : Nat) (part_n : Nat) (s31 : Int) (s32 : Int) (i : Int) (b : List UInt8) (s7 : Int) (counter : Int) (part : List UInt8) (s : List UInt8) (key : List UInt8) (nonce : Int) (s2 : Int) : X :=
  bif (decide (s32 < s31)) then
    bif ((decide ((0 : Int) ≤ s32)) && (decide (s32 < ((part_n : Nat) : Int)))) then
    bif ((decide ((0 : Int) ≤ s32)) && (decide (s32 < ((s.length : Nat) : Int)))) then
    bif ((decide ((0 : Int) ≤ s32)) && (decide (s32 < ((part_n : Nat) : Int)))) then
    next part_i part_n s31 (addI s32 (1 : Int)) i b s7 counter (List.set part (part_i + (s32).toNat) (xorB (List.getD part (part_i + (s32).toNat) (0 : UInt8)) (List.getD s (s32).toNat (0 : UInt8)))) s key nonce s2
    else fail
    else fail
    else fail
  else
  ex0 part_i part_n s31 s32 i b s7 counter part s key nonce s2
def cStream_l2F {X : Type} (F : Nat) (fail : X) (ex0 : Nat → Nat → Int → Int → Int → List UInt8 → Int → Int → List UInt8 → List UInt8 → List UInt8 → Int → Int → X) : Nat → Nat → Nat → Int → Int → Int → List UInt8 → Int → Int → List UInt8 → List UInt8 → List UInt8 → Int → Int → X
  | 0, _, _, _, _, _, _, _, _, _, _, _, _, _ => fail
  | m + 1, part_i, part_n, s31, s32, i, b, s7, counter, part, s, key, nonce, s2 => cStream_l2 F fail (cStream_l2F F fail ex0 m) ex0 part_i part_n s31 s32 i b s7 counter part s key nonce s2

def cStream_l1 {X : Type} (F : Nat) (fail : X) (next : Int → List UInt8 → Int → List UInt8 → Int → Int → List UInt8 → Int → X) (ex0 : Int → List UInt8 → Int → List UInt8 → Int → Int → List UInt8 → Int → X) (i : Int) (b : List UInt8) (s7 : Int) (key : List UInt8) (nonce : Int) (counter : Int) (out : List UInt8) (s2 : Int) : X :=
  bif (decide (i < ((out.length : Nat) : Int))) then
    bif ((decide ((0 : Int) ≤ i)) && (decide (i ≤ ((out.length : Nat) : Int)))) then
    bif ((((decide ((0 : Int) ≤ i)) && (decide (i ≤ (addI i (minI s2 (((out.length - (i).toNat) : Nat) : Int)))))) && (decide ((addI i (minI s2 (((out.length - (i).toNat) : Nat) : Int))) ≤ ((out.length : Nat) : Int)))) && ((addI i (minI s2 (((out.length - (i).toNat) : Nat) : Int))) == (addI i (minI s2 (((out.length - (i).toNat) : Nat) : Int))))) then
    bif (cBlk_P key nonce counter) then
    cStream_l2F F fail
      (fun (part_i : Nat) (part_n : Nat) (s31 : Int) (s32 : Int) (i1 : Int) (b1 : List UInt8) (s71 : Int) (counter1 : Int) (part : List UInt8) (s : List UInt8) (key1 : List UInt8) (nonce1 : Int) (s21 : Int) =>
        next (addI i1 s21) b1 s71 key1 nonce1 (addI counter1 (1 : Int)) part s21)
      F (i).toNat (((addI i (minI s2 (((out.length - (i).toNat) : Nat) : Int)))).toNat - (i).toNat) (((((addI i (minI s2 (((out.length - (i).toNat) : Nat) : Int)))).toNat - (i).toNat) : Nat) : Int) (0 : Int) i b s7 counter out (cBlk_r key nonce counter) key nonce s2
    else fail
    else fail
    else fail
  else
  ex0 i b s7 key nonce counter out s2
def cStream_l1F {X : Type} (F : Nat) (fail : X) (ex0 : Int → List UInt8 → Int → List UInt8 → Int → Int → List UInt8 → Int → X) : Nat → Int → List UInt8 → Int → List UInt8 → Int → Int → List UInt8 → Int → X
  | 0, _, _, _, _, _, _, _, _ => fail
  | m + 1, i, b, s7, key, nonce, counter, out, s2 => cStream_l1 F fail (cStream_l1F F fail ex0 m) ex0 i b s7 key nonce counter out s2

def cStream {X : Type} (F : Nat) (key : List UInt8) (nonce : Int) (b : List UInt8) (fail : X) (ret : List UInt8 → Int → X) : X :=
  bif (decide (((b.length : Nat) : Int) > (65536 : Int))) then
    ret ([] : List UInt8) (5 : Int)
  else
  bif (!(cRange_r nonce)) then
    ret ([] : List UInt8) (2 : Int)
  else
  bif (clone_byte_P b) then
  cStream_l1F F fail
    (fun (i : Int) (b1 : List UInt8) (s7 : Int) (key1 : List UInt8) (nonce1 : Int) (counter : Int) (out : List UInt8) (s2 : Int) =>
      ret out (0 : Int))
    F (0 : Int) b (0 : Int) key nonce (1 : Int) (clone_byte_r b) (64 : Int)
  else fail

def rRotl_l1 {X : Type} (F : Nat) (fail : X) (next : UInt32 → Int → Int → X) (ex0 : UInt32 → Int → Int → X) (x_ : UInt32) (n : Int) (i : Int) : X :=
  bif (decide (i < n)) then
    next (addW (mulW (2 : UInt32) x_) (quoW x_ (2147483648 : UInt32))) n (addI i (1 : Int))
  else
  ex0 x_ n i
def rRotl_l1F {X : Type} (F : Nat) (fail : X) (ex0 : UInt32 → Int → Int → X) : Nat → UInt32 → Int → Int → X
  | 0, _, _, _ => fail
  | m + 1, x_, n, i => rRotl_l1 F fail (rRotl_l1F F fail ex0 m) ex0 x_ n i

def rRotl {X : Type} (F : Nat) (x_ : UInt32) (n : Int) (fail : X) (ret : UInt32 → X) : X :=
  rRotl_l1F F fail
    (fun (x_1 : UInt32) (n1 : Int) (i : Int) =>
      ret x_1)
    F x_ n (0 : Int)

def rWords_l1 {X : Type} (F : Nat) (fail : X) (next : Int → Int → Int → List UInt8 → List UInt32 → X) (ex0 : Int → Int → Int → List UInt8 → List UInt32 → X) (nonce : Int) (counter : Int) (i : Int) (key : List UInt8) (w : List UInt32) : X :=
  bif (decide (i < (8 : Int))) then
    bif ((decide ((0 : Int) ≤ (mulI (4 : Int) i))) && (decide ((mulI (4 : Int) i) < ((32 : Nat) : Int)))) then
    bif ((decide ((0 : Int) ≤ (addI (mulI (4 : Int) i) (1 : Int)))) && (decide ((addI (mulI (4 : Int) i) (1 : Int)) < ((32 : Nat) : Int)))) then
    bif ((decide ((0 : Int) ≤ (addI (mulI (4 : Int) i) (2 : Int)))) && (decide ((addI (mulI (4 : Int) i) (2 : Int)) < ((32 : Nat) : Int)))) then
    bif ((decide ((0 : Int) ≤ (addI (mulI (4 : Int) i) (3 : Int)))) && (decide ((addI (mulI (4 : Int) i) (3 : Int)) < ((32 : Nat) : Int)))) then
    bif (decide ((w ++ ([(addW (addW (addW (cvBW (List.getD key ((mulI (4 : Int) i)).toNat (0 : UInt8))) (mulW (256 : UInt32) (cvBW (List.getD key ((addI (mulI (4 : Int) i) (1 : Int))).toNat (0 : UInt8))))) (mulW (65536 : UInt32) (cvBW (List.getD key ((addI (mulI (4 : Int) i) (2 : Int))).toNat (0 : UInt8))))) (mulW (16777216 : UInt32) (cvBW (List.getD key ((addI (mulI (4 : Int) i) (3 : Int))).toNat (0 : UInt8)))))] : List UInt32)).length ≤ big)) then
    next nonce counter (addI i (1 : Int)) key (w ++ ([(addW (addW (addW (cvBW (List.getD key ((mulI (4 : Int) i)).toNat (0 : UInt8))) (mulW (256 : UInt32) (cvBW (List.getD key ((addI (mulI (4 : Int) i) (1 : Int))).toNat (0 : UInt8))))) (mulW (65536 : UInt32) (cvBW (List.getD key ((addI (mulI (4 : Int) i) (2 : Int))).toNat (0 : UInt8))))) (mulW (16777216 : UInt32) (cvBW (List.getD key ((addI (mulI (4 : Int) i) (3 : Int))).toNat (0 : UInt8)))))] : List UInt32))
    else fail
    else fail
    else fail
    else fail
    else fail
  else
  ex0 nonce counter i key w
def rWords_l1F {X : Type} (F : Nat) (fail : X) (ex0 : Int → Int → Int → List UInt8 → List UInt32 → X) : Nat → Int → Int → Int → List UInt8 → List UInt32 → X
  | 0, _, _, _, _, _ => fail
  | m + 1, nonce, counter, i, key, w => rWords_l1 F fail (rWords_l1F F fail ex0 m) ex0 nonce counter i key w

def rWords {X : Type} (F : Nat) (key : List UInt8) (nonce : Int) (counter : Int) (fail : X) (ret : List UInt32 → X) : X :=
  rWords_l1F F fail
    (fun (nonce1 : Int) (counter1 : Int) (i : Int) (key1 : List UInt8) (w : List UInt32) =>
      bif (decide ((w ++ ([(cvIW counter1), (0 : UInt32), (cvIW (remI nonce1 (4294967296 : Int))), (cvIW (quoI nonce1 (4294967296 : Int)))] : List UInt32)).length ≤ big)) then
      ret (w ++ ([(cvIW counter1), (0 : UInt32), (cvIW (remI nonce1 (4294967296 : Int))), (cvIW (quoI nonce1 (4294967296 : Int)))] : List UInt32))
      else fail)
    F nonce counter (0 : Int) key ([(1634760805 : UInt32), (857760878 : UInt32), (2036477234 : UInt32), (1797285236 : UInt32)] : List UInt32)

def rLittle_l1 {X : Type} (F : Nat) (fail : X) (next : Int → Int → Int → List UInt8 → X) (ex0 : Int → Int → Int → List UInt8 → X) (n : Int) (bytes : Int) (i : Int) (out : List UInt8) : X :=
  bif (decide (i < bytes)) then
    bif (decide ((out ++ ([(cvIB (remI n (256 : Int)))] : List UInt8)).length ≤ big)) then
    next (quoI n (256 : Int)) bytes (addI i (1 : Int)) (out ++ ([(cvIB (remI n (256 : Int)))] : List UInt8))
    else fail
  else
  ex0 n bytes i out
def rLittle_l1F {X : Type} (F : Nat) (fail : X) (ex0 : Int → Int → Int → List UInt8 → X) : Nat → Int → Int → Int → List UInt8 → X
  | 0, _, _, _, _ => fail
  | m + 1, n, bytes, i, out => rLittle_l1 F fail (rLittle_l1F F fail ex0 m) ex0 n bytes i out

def rLittle {X : Type} (F : Nat) (n : Int) (bytes : Int) (fail : X) (ret : List UInt8 → X) : X :=
  rLittle_l1F F fail
    (fun (n1 : Int) (bytes1 : Int) (i : Int) (out : List UInt8) =>
      ret out)
    F n bytes (0 : Int) ([] : List UInt8)

def rNonces {X : Type} (F : Nat) (n : Int) (fail : X) (ret : Bool → X) : X :=
  bif (decide (n ≥ (0 : Int))) then
    ret (decide (n ≤ (9007199254740991 : Int)))
  else
  ret false

def rBlock_l2_v1 (k : Int) (w : List UInt32) := (List.set (List.set w (k).toNat (addW (List.getD w (k).toNat (0 : UInt32)) (List.getD w ((addI (4 : Int) k)).toNat (0 : UInt32)))) ((addI (12 : Int) k)).toNat (rRotl_r (xorW (List.getD (List.set w (k).toNat (addW (List.getD w (k).toNat (0 : UInt32)) (List.getD w ((addI (4 : Int) k)).toNat (0 : UInt32)))) ((addI (12 : Int) k)).toNat (0 : UInt32)) (List.getD (List.set w (k).toNat (addW (List.getD w (k).toNat (0 : UInt32)) (List.getD w ((addI (4 : Int) k)).toNat (0 : UInt32)))) (k).toNat (0 : UInt32))) (16 : Int)))
def rBlock_l2_v2 (k : Int) (w : List UInt32) := ((decide ((0 : Int) ≤ (addI (8 : Int) k))) && (decide ((addI (8 : Int) k) < (((rBlock_l2_v1 k w).length : Nat) : Int))))
def rBlock_l2_v3 (k : Int) (w : List UInt32) := (List.set (rBlock_l2_v1 k w) ((addI (8 : Int) k)).toNat (addW (List.getD (rBlock_l2_v1 k w) ((addI (8 : Int) k)).toNat (0 : UInt32)) (List.getD (rBlock_l2_v1 k w) ((addI (12 : Int) k)).toNat (0 : UInt32))))
def rBlock_l2_v4 (k : Int) (w : List UInt32) := ((decide ((0 : Int) ≤ (addI (4 : Int) k))) && (decide ((addI (4 : Int) k) < (((rBlock_l2_v3 k w).length : Nat) : Int))))
def rBlock_l2_v5 (k : Int) (w : List UInt32) := (xorW (List.getD (rBlock_l2_v3 k w) ((addI (4 : Int) k)).toNat (0 : UInt32)) (List.getD (rBlock_l2_v3 k w) ((addI (8 : Int) k)).toNat (0 : UInt32)))
def rBlock_l2_v6 (k : Int) (w : List UInt32) := (List.set (rBlock_l2_v3 k w) ((addI (4 : Int) k)).toNat (rRotl_r (rBlock_l2_v5 k w) (12 : Int)))
def rBlock_l2_v7 (k : Int) (w : List UInt32) := ((decide ((0 : Int) ≤ k)) && (decide (k < (((rBlock_l2_v6 k w).length : Nat) : Int))))
def rBlock_l2_v8 (k : Int) (w : List UInt32) := (List.set (rBlock_l2_v6 k w) (k).toNat (addW (List.getD (rBlock_l2_v6 k w) (k).toNat (0 : UInt32)) (List.getD (rBlock_l2_v6 k w) ((addI (4 : Int) k)).toNat (0 : UInt32))))
def rBlock_l2_v9 (k : Int) (w : List UInt32) := ((decide ((0 : Int) ≤ (addI (12 : Int) k))) && (decide ((addI (12 : Int) k) < (((rBlock_l2_v8 k w).length : Nat) : Int))))
def rBlock_l2_v10 (k : Int) (w : List UInt32) := (xorW (List.getD (rBlock_l2_v8 k w) ((addI (12 : Int) k)).toNat (0 : UInt32)) (List.getD (rBlock_l2_v8 k w) (k).toNat (0 : UInt32)))
def rBlock_l2_v11 (k : Int) (w : List UInt32) := (List.set (rBlock_l2_v8 k w) ((addI (12 : Int) k)).toNat (rRotl_r (rBlock_l2_v10 k w) (8 : Int)))
def rBlock_l2_v12 (k : Int) (w : List UInt32) := ((decide ((0 : Int) ≤ (addI (8 : Int) k))) && (decide ((addI (8 : Int) k) < (((rBlock_l2_v11 k w).length : Nat) : Int))))
def rBlock_l2_v13 (k : Int) (w : List UInt32) := (List.set (rBlock_l2_v11 k w) ((addI (8 : Int) k)).toNat (addW (List.getD (rBlock_l2_v11 k w) ((addI (8 : Int) k)).toNat (0 : UInt32)) (List.getD (rBlock_l2_v11 k w) ((addI (12 : Int) k)).toNat (0 : UInt32))))
def rBlock_l2_v14 (k : Int) (w : List UInt32) := ((decide ((0 : Int) ≤ (addI (4 : Int) k))) && (decide ((addI (4 : Int) k) < (((rBlock_l2_v13 k w).length : Nat) : Int))))
def rBlock_l2_v15 (k : Int) (w : List UInt32) := (xorW (List.getD (rBlock_l2_v13 k w) ((addI (4 : Int) k)).toNat (0 : UInt32)) (List.getD (rBlock_l2_v13 k w) ((addI (8 : Int) k)).toNat (0 : UInt32)))
def rBlock_l2 {X : Type} (F : Nat) (fail : X) (next : Int → Int → List UInt32 → List UInt32 → X) (ex0 : Int → Int → List UInt32 → List UInt32 → X) (i : Int) (k : Int) (before : List UInt32) (w : List UInt32) : X :=
  bif (decide (k < (4 : Int))) then
    bif ((decide ((0 : Int) ≤ k)) && (decide (k < ((w.length : Nat) : Int)))) then
    bif ((decide ((0 : Int) ≤ (addI (4 : Int) k))) && (decide ((addI (4 : Int) k) < ((w.length : Nat) : Int)))) then
    bif ((decide ((0 : Int) ≤ k)) && (decide (k < ((w.length : Nat) : Int)))) then
    bif ((decide ((0 : Int) ≤ (addI (12 : Int) k))) && (decide ((addI (12 : Int) k) < (((List.set w (k).toNat (addW (List.getD w (k).toNat (0 : UInt32)) (List.getD w ((addI (4 : Int) k)).toNat (0 : UInt32)))).length : Nat) : Int)))) then
    bif ((decide ((0 : Int) ≤ k)) && (decide (k < (((List.set w (k).toNat (addW (List.getD w (k).toNat (0 : UInt32)) (List.getD w ((addI (4 : Int) k)).toNat (0 : UInt32)))).length : Nat) : Int)))) then
    bif (rRotl_P (xorW (List.getD (List.set w (k).toNat (addW (List.getD w (k).toNat (0 : UInt32)) (List.getD w ((addI (4 : Int) k)).toNat (0 : UInt32)))) ((addI (12 : Int) k)).toNat (0 : UInt32)) (List.getD (List.set w (k).toNat (addW (List.getD w (k).toNat (0 : UInt32)) (List.getD w ((addI (4 : Int) k)).toNat (0 : UInt32)))) (k).toNat (0 : UInt32))) (16 : Int)) then
    bif ((decide ((0 : Int) ≤ (addI (12 : Int) k))) && (decide ((addI (12 : Int) k) < (((List.set w (k).toNat (addW (List.getD w (k).toNat (0 : UInt32)) (List.getD w ((addI (4 : Int) k)).toNat (0 : UInt32)))).length : Nat) : Int)))) then
    bif (rBlock_l2_v2 k w) then
    bif ((decide ((0 : Int) ≤ (addI (12 : Int) k))) && (decide ((addI (12 : Int) k) < (((rBlock_l2_v1 k w).length : Nat) : Int)))) then
    bif (rBlock_l2_v2 k w) then
    bif (rBlock_l2_v4 k w) then
    bif ((decide ((0 : Int) ≤ (addI (8 : Int) k))) && (decide ((addI (8 : Int) k) < (((rBlock_l2_v3 k w).length : Nat) : Int)))) then
    bif (rRotl_P (rBlock_l2_v5 k w) (12 : Int)) then
    bif (rBlock_l2_v4 k w) then
    bif (rBlock_l2_v7 k w) then
    bif ((decide ((0 : Int) ≤ (addI (4 : Int) k))) && (decide ((addI (4 : Int) k) < (((rBlock_l2_v6 k w).length : Nat) : Int)))) then
    bif (rBlock_l2_v7 k w) then
    bif (rBlock_l2_v9 k w) then
    bif ((decide ((0 : Int) ≤ k)) && (decide (k < (((rBlock_l2_v8 k w).length : Nat) : Int)))) then
    bif (rRotl_P (rBlock_l2_v10 k w) (8 : Int)) then
    bif (rBlock_l2_v9 k w) then
    bif (rBlock_l2_v12 k w) then
    bif ((decide ((0 : Int) ≤ (addI (12 : Int) k))) && (decide ((addI (12 : Int) k) < (((rBlock_l2_v11 k w).length : Nat) : Int)))) then
    bif (rBlock_l2_v12 k w) then
    bif (rBlock_l2_v14 k w) then
    bif ((decide ((0 : Int) ≤ (addI (8 : Int) k))) && (decide ((addI (8 : Int) k) < (((rBlock_l2_v13 k w).length : Nat) : Int)))) then
    bif (rRotl_P (rBlock_l2_v15 k w) (7 : Int)) then
    bif (rBlock_l2_v14 k w) then
    next i (addI k (1 : Int)) before (List.set (rBlock_l2_v13 k w) ((addI (4 : Int) k)).toNat (rRotl_r (rBlock_l2_v15 k w) (7 : Int)))
    else fail
    else fail
    else fail
    else fail
    else fail
    else fail
    else fail
    else fail
    else fail
    else fail
    else fail
    else fail
    else fail
    else fail
    else fail
    else fail
    else fail
    else fail
    else fail
    else fail
    else fail
    else fail
    else fail
    else fail
    else fail
    else fail
    else fail
    else fail
  else
  ex0 i k before w
def rBlock_l2F {X : Type} (F : Nat) (fail : X) (ex0 : Int → Int → List UInt32 → List UInt32 → X) : Nat → Int → Int → List UInt32 → List UInt32 → X
  | 0, _, _, _, _ => fail
  | m + 1, i, k, before, w => rBlock_l2 F fail (rBlock_l2F F fail ex0 m) ex0 i k before w

def rBlock_l3_v1 (k : Int) (w : List UInt32) := (List.set (List.set w (k).toNat (addW (List.getD w (k).toNat (0 : UInt32)) (List.getD w ((addI (4 : Int) (remI (addI k (1 : Int)) (4 : Int)))).toNat (0 : UInt32)))) ((addI (12 : Int) (remI (addI k (3 : Int)) (4 : Int)))).toNat (rRotl_r (xorW (List.getD (List.set w (k).toNat (addW (List.getD w (k).toNat (0 : UInt32)) (List.getD w ((addI (4 : Int) (remI (addI k (1 : Int)) (4 : Int)))).toNat (0 : UInt32)))) ((addI (12 : Int) (remI (addI k (3 : Int)) (4 : Int)))).toNat (0 : UInt32)) (List.getD (List.set w (k).toNat (addW (List.getD w (k).toNat (0 : UInt32)) (List.getD w ((addI (4 : Int) (remI (addI k (1 : Int)) (4 : Int)))).toNat (0 : UInt32)))) (k).toNat (0 : UInt32))) (16 : Int)))
def rBlock_l3_v2 (k : Int) (w : List UInt32) := ((decide ((0 : Int) ≤ (addI (8 : Int) (remI (addI k (2 : Int)) (4 : Int))))) && (decide ((addI (8 : Int) (remI (addI k (2 : Int)) (4 : Int))) < (((rBlock_l3_v1 k w).length : Nat) : Int))))
def rBlock_l3_v3 (k : Int) (w : List UInt32) := (List.set (rBlock_l3_v1 k w) ((addI (8 : Int) (remI (addI k (2 : Int)) (4 : Int)))).toNat (addW (List.getD (rBlock_l3_v1 k w) ((addI (8 : Int) (remI (addI k (2 : Int)) (4 : Int)))).toNat (0 : UInt32)) (List.getD (rBlock_l3_v1 k w) ((addI (12 : Int) (remI (addI k (3 : Int)) (4 : Int)))).toNat (0 : UInt32))))
def rBlock_l3_v4 (k : Int) (w : List UInt32) := ((decide ((0 : Int) ≤ (addI (4 : Int) (remI (addI k (1 : Int)) (4 : Int))))) && (decide ((addI (4 : Int) (remI (addI k (1 : Int)) (4 : Int))) < (((rBlock_l3_v3 k w).length : Nat) : Int))))
def rBlock_l3_v5 (k : Int) (w : List UInt32) := (xorW (List.getD (rBlock_l3_v3 k w) ((addI (4 : Int) (remI (addI k (1 : Int)) (4 : Int)))).toNat (0 : UInt32)) (List.getD (rBlock_l3_v3 k w) ((addI (8 : Int) (remI (addI k (2 : Int)) (4 : Int)))).toNat (0 : UInt32)))
def rBlock_l3_v6 (k : Int) (w : List UInt32) := (List.set (rBlock_l3_v3 k w) ((addI (4 : Int) (remI (addI k (1 : Int)) (4 : Int)))).toNat (rRotl_r (rBlock_l3_v5 k w) (12 : Int)))
def rBlock_l3_v7 (k : Int) (w : List UInt32) := ((decide ((0 : Int) ≤ k)) && (decide (k < (((rBlock_l3_v6 k w).length : Nat) : Int))))
def rBlock_l3_v8 (k : Int) (w : List UInt32) := (List.set (rBlock_l3_v6 k w) (k).toNat (addW (List.getD (rBlock_l3_v6 k w) (k).toNat (0 : UInt32)) (List.getD (rBlock_l3_v6 k w) ((addI (4 : Int) (remI (addI k (1 : Int)) (4 : Int)))).toNat (0 : UInt32))))
def rBlock_l3_v9 (k : Int) (w : List UInt32) := ((decide ((0 : Int) ≤ (addI (12 : Int) (remI (addI k (3 : Int)) (4 : Int))))) && (decide ((addI (12 : Int) (remI (addI k (3 : Int)) (4 : Int))) < (((rBlock_l3_v8 k w).length : Nat) : Int))))
def rBlock_l3_v10 (k : Int) (w : List UInt32) := (xorW (List.getD (rBlock_l3_v8 k w) ((addI (12 : Int) (remI (addI k (3 : Int)) (4 : Int)))).toNat (0 : UInt32)) (List.getD (rBlock_l3_v8 k w) (k).toNat (0 : UInt32)))
def rBlock_l3_v11 (k : Int) (w : List UInt32) := (List.set (rBlock_l3_v8 k w) ((addI (12 : Int) (remI (addI k (3 : Int)) (4 : Int)))).toNat (rRotl_r (rBlock_l3_v10 k w) (8 : Int)))
def rBlock_l3_v12 (k : Int) (w : List UInt32) := ((decide ((0 : Int) ≤ (addI (8 : Int) (remI (addI k (2 : Int)) (4 : Int))))) && (decide ((addI (8 : Int) (remI (addI k (2 : Int)) (4 : Int))) < (((rBlock_l3_v11 k w).length : Nat) : Int))))
def rBlock_l3_v13 (k : Int) (w : List UInt32) := (List.set (rBlock_l3_v11 k w) ((addI (8 : Int) (remI (addI k (2 : Int)) (4 : Int)))).toNat (addW (List.getD (rBlock_l3_v11 k w) ((addI (8 : Int) (remI (addI k (2 : Int)) (4 : Int)))).toNat (0 : UInt32)) (List.getD (rBlock_l3_v11 k w) ((addI (12 : Int) (remI (addI k (3 : Int)) (4 : Int)))).toNat (0 : UInt32))))
def rBlock_l3_v14 (k : Int) (w : List UInt32) := ((decide ((0 : Int) ≤ (addI (4 : Int) (remI (addI k (1 : Int)) (4 : Int))))) && (decide ((addI (4 : Int) (remI (addI k (1 : Int)) (4 : Int))) < (((rBlock_l3_v13 k w).length : Nat) : Int))))
def rBlock_l3_v15 (k : Int) (w : List UInt32) := (xorW (List.getD (rBlock_l3_v13 k w) ((addI (4 : Int) (remI (addI k (1 : Int)) (4 : Int)))).toNat (0 : UInt32)) (List.getD (rBlock_l3_v13 k w) ((addI (8 : Int) (remI (addI k (2 : Int)) (4 : Int)))).toNat (0 : UInt32)))
def rBlock_l3 {X : Type} (F : Nat) (fail : X) (next : Int → Int → List UInt32 → List UInt32 → X) (ex0 : Int → Int → List UInt32 → List UInt32 → X) (i : Int) (k : Int) (before : List UInt32) (w : List UInt32) : X :=
  bif (decide (k < (4 : Int))) then
    bif ((decide ((0 : Int) ≤ k)) && (decide (k < ((w.length : Nat) : Int)))) then
    bif ((decide ((0 : Int) ≤ (addI (4 : Int) (remI (addI k (1 : Int)) (4 : Int))))) && (decide ((addI (4 : Int) (remI (addI k (1 : Int)) (4 : Int))) < ((w.length : Nat) : Int)))) then
    bif ((decide ((0 : Int) ≤ k)) && (decide (k < ((w.length : Nat) : Int)))) then
    bif ((decide ((0 : Int) ≤ (addI (12 : Int) (remI (addI k (3 : Int)) (4 : Int))))) && (decide ((addI (12 : Int) (remI (addI k (3 : Int)) (4 : Int))) < (((List.set w (k).toNat (addW (List.getD w (k).toNat (0 : UInt32)) (List.getD w ((addI (4 : Int) (remI (addI k (1 : Int)) (4 : Int)))).toNat (0 : UInt32)))).length : Nat) : Int)))) then
    bif ((decide ((0 : Int) ≤ k)) && (decide (k < (((List.set w (k).toNat (addW (List.getD w (k).toNat (0 : UInt32)) (List.getD w ((addI (4 : Int) (remI (addI k (1 : Int)) (4 : Int)))).toNat (0 : UInt32)))).length : Nat) : Int)))) then
    bif (rRotl_P (xorW (List.getD (List.set w (k).toNat (addW (List.getD w (k).toNat (0 : UInt32)) (List.getD w ((addI (4 : Int) (remI (addI k (1 : Int)) (4 : Int)))).toNat (0 : UInt32)))) ((addI (12 : Int) (remI (addI k (3 : Int)) (4 : Int)))).toNat (0 : UInt32)) (List.getD (List.set w (k).toNat (addW (List.getD w (k).toNat (0 : UInt32)) (List.getD w ((addI (4 : Int) (remI (addI k (1 : Int)) (4 : Int)))).toNat (0 : UInt32)))) (k).toNat (0 : UInt32))) (16 : Int)) then
    bif ((decide ((0 : Int) ≤ (addI (12 : Int) (remI (addI k (3 : Int)) (4 : Int))))) && (decide ((addI (12 : Int) (remI (addI k (3 : Int)) (4 : Int))) < (((List.set w (k).toNat (addW (List.getD w (k).toNat (0 : UInt32)) (List.getD w ((addI (4 : Int) (remI (addI k (1 : Int)) (4 : Int)))).toNat (0 : UInt32)))).length : Nat) : Int)))) then
    bif (rBlock_l3_v2 k w) then
    bif ((decide ((0 : Int) ≤ (addI (12 : Int) (remI (addI k (3 : Int)) (4 : Int))))) && (decide ((addI (12 : Int) (remI (addI k (3 : Int)) (4 : Int))) < (((rBlock_l3_v1 k w).length : Nat) : Int)))) then
    bif (rBlock_l3_v2 k w) then
    bif (rBlock_l3_v4 k w) then
    bif ((decide ((0 : Int) ≤ (addI (8 : Int) (remI (addI k (2 : Int)) (4 : Int))))) && (decide ((addI (8 : Int) (remI (addI k (2 : Int)) (4 : Int))) < (((rBlock_l3_v3 k w).length : Nat) : Int)))) then
    bif (rRotl_P (rBlock_l3_v5 k w) (12 : Int)) then
    bif (rBlock_l3_v4 k w) then
    bif (rBlock_l3_v7 k w) then
    bif ((decide ((0 : Int) ≤ (addI (4 : Int) (remI (addI k (1 : Int)) (4 : Int))))) && (decide ((addI (4 : Int) (remI (addI k (1 : Int)) (4 : Int))) < (((rBlock_l3_v6 k w).length : Nat) : Int)))) then
    bif (rBlock_l3_v7 k w) then
    bif (rBlock_l3_v9 k w) then
    bif ((decide ((0 : Int) ≤ k)) && (decide (k < (((rBlock_l3_v8 k w).length : Nat) : Int)))) then
    bif (rRotl_P (rBlock_l3_v10 k w) (8 : Int)) then
    bif (rBlock_l3_v9 k w) then
    bif (rBlock_l3_v12 k w) then
    bif ((decide ((0 : Int) ≤ (addI (12 : Int) (remI (addI k (3 : Int)) (4 : Int))))) && (decide ((addI (12 : Int) (remI (addI k (3 : Int)) (4 : Int))) < (((rBlock_l3_v11 k w).length : Nat) : Int)))) then
    bif (rBlock_l3_v12 k w) then
    bif (rBlock_l3_v14 k w) then
    bif ((decide ((0 : Int) ≤ (addI (8 : Int) (remI (addI k (2 : Int)) (4 : Int))))) && (decide ((addI (8 : Int) (remI (addI k (2 : Int)) (4 : Int))) < (((rBlock_l3_v13 k w).length : Nat) : Int)))) then
    bif (rRotl_P (rBlock_l3_v15 k w) (7 : Int)) then
    bif (rBlock_l3_v14 k w) then
    next i (addI k (1 : Int)) before (List.set (rBlock_l3_v13 k w) ((addI (4 : Int) (remI (addI k (1 : Int)) (4 : Int)))).toNat (rRotl_r (rBlock_l3_v15 k w) (7 : Int)))
    else fail
    else fail
    else fail
    else fail
    else fail
    else fail
    else fail
    else fail
    else fail
    else fail
    else fail
    else fail
    else fail
    else fail
    else fail
    else fail
    else fail
    else fail
    else fail
    else fail
    else fail
    else fail
    else fail
    else fail
    else fail
    else fail
    else fail
    else fail
  else
  ex0 i k before w
def rBlock_l3F {X : Type} (F : Nat) (fail : X) (ex0 : Int → Int → List UInt32 → List UInt32 → X) : Nat → Int → Int → List UInt32 → List UInt32 → X
  | 0, _, _, _, _ => fail
  | m + 1, i, k, before, w => rBlock_l3 F fail (rBlock_l3F F fail ex0 m) ex0 i k before w

def rBlock_l1 {X : Type} (F : Nat) (fail : X) (next : Int → List UInt32 → List UInt32 → X) (ex0 : Int → List UInt32 → List UInt32 → X) (i : Int) (before : List UInt32) (w : List UInt32) : X :=
  bif (decide (i < (10 : Int))) then
    rBlock_l2F F fail
      (fun (i1 : Int) (k : Int) (before1 : List UInt32) (w1 : List UInt32) =>
        rBlock_l3F F fail
          (fun (i2 : Int) (k1 : Int) (before2 : List UInt32) (w2 : List UInt32) =>
            next (addI i2 (1 : Int)) before2 w2)
          F i1 (0 : Int) before1 w1)
      F i (0 : Int) before w
  else
  ex0 i before w
def rBlock_l1F {X : Type} (F : Nat) (fail : X) (ex0 : Int → List UInt32 → List UInt32 → X) : Nat → Int → List UInt32 → List UInt32 → X
  | 0, _, _, _ => fail
  | m + 1, i, before, w => rBlock_l1 F fail (rBlock_l1F F fail ex0 m) ex0 i before w

def rBlock_l4 {X : Type} (F : Nat) (fail : X) (next : Int → List UInt32 → List UInt32 → List UInt8 → X) (ex0 : Int → List UInt32 → List UInt32 → List UInt8 → X) (i : Int) (before : List UInt32) (w : List UInt32) (out : List UInt8) : X :=
  bif (decide (i < (16 : Int))) then
    bif ((decide ((0 : Int) ≤ i)) && (decide (i < ((w.length : Nat) : Int)))) then
    bif ((decide ((0 : Int) ≤ i)) && (decide (i < ((before.length : Nat) : Int)))) then
    bif (rLittle_P (cvWI (addW (List.getD w (i).toNat (0 : UInt32)) (List.getD before (i).toNat (0 : UInt32)))) (4 : Int)) then
    bif (decide ((out ++ (rLittle_r (cvWI (addW (List.getD w (i).toNat (0 : UInt32)) (List.getD before (i).toNat (0 : UInt32)))) (4 : Int))).length ≤ big)) then
    next (addI i (1 : Int)) before w (out ++ (rLittle_r (cvWI (addW (List.getD w (i).toNat (0 : UInt32)) (List.getD before (i).toNat (0 : UInt32)))) (4 : Int)))
    else fail
    else fail
    else fail
    else fail
  else
  ex0 i before w out
def rBlock_l4F {X : Type} (F : Nat) (fail : X) (ex0 : Int → List UInt32 → List UInt32 → List UInt8 → X) : Nat → Int → List UInt32 → List UInt32 → List UInt8 → X
  | 0, _, _, _, _ => fail
  | m + 1, i, before, w, out => rBlock_l4 F fail (rBlock_l4F F fail ex0 m) ex0 i before w out

def rBlock {X : Type} (F : Nat) (key : List UInt8) (nonce : Int) (counter : Int) (fail : X) (ret : List UInt8 → Int → X) : X :=
  bif (!(rNonces_r nonce)) then
    ret ([] : List UInt8) (2 : Int)
  else
  bif (decide (counter < (0 : Int))) then
    ret ([] : List UInt8) (2 : Int)
  else
  bif (decide (counter > (4294967295 : Int))) then
    ret ([] : List UInt8) (2 : Int)
  else
  bif (rWords_P key nonce counter) then
  bif (rWords_P key nonce counter) then
  rBlock_l1F F fail
    (fun (i : Int) (before : List UInt32) (w : List UInt32) =>
      rBlock_l4F F fail
        (fun (i1 : Int) (before1 : List UInt32) (w1 : List UInt32) (out : List UInt8) =>
          ret out (0 : Int))
        F (0 : Int) before w ([] : List UInt8))
    F (0 : Int) (rWords_r key nonce counter) (rWords_r key nonce counter)
  else fail
  else fail

def rStream_l1 {X : Type} (F : Nat) (fail : X) (next : Int → List UInt8 → Int → List UInt8 → List UInt8 → List UInt8 → X) (ex0 : Int → List UInt8 → Int → List UInt8 → List UInt8 → List UInt8 → X) (nonce : Int) (b : List UInt8) (i : Int) (key : List UInt8) (out : List UInt8) (block : List UInt8) : X :=
  bif (decide (i < ((b.length : Nat) : Int))) then
    bif ((remI i (64 : Int)) == (0 : Int)) then
      bif (rBlock_P key nonce (addI (1 : Int) (quoI i (64 : Int)))) then
      bif ((decide ((0 : Int) ≤ i)) && (decide (i < ((b.length : Nat) : Int)))) then
      bif ((decide ((0 : Int) ≤ (remI i (64 : Int)))) && (decide ((remI i (64 : Int)) < (((rBlock_r0 key nonce (addI (1 : Int) (quoI i (64 : Int)))).length : Nat) : Int)))) then
      bif (decide ((out ++ ([(xorB (List.getD b (i).toNat (0 : UInt8)) (List.getD (rBlock_r0 key nonce (addI (1 : Int) (quoI i (64 : Int)))) ((remI i (64 : Int))).toNat (0 : UInt8)))] : List UInt8)).length ≤ big)) then
      next nonce b (addI i (1 : Int)) key (out ++ ([(xorB (List.getD b (i).toNat (0 : UInt8)) (List.getD (rBlock_r0 key nonce (addI (1 : Int) (quoI i (64 : Int)))) ((remI i (64 : Int))).toNat (0 : UInt8)))] : List UInt8)) (rBlock_r0 key nonce (addI (1 : Int) (quoI i (64 : Int))))
      else fail
      else fail
      else fail
      else fail
    else
    bif ((decide ((0 : Int) ≤ i)) && (decide (i < ((b.length : Nat) : Int)))) then
    bif ((decide ((0 : Int) ≤ (remI i (64 : Int)))) && (decide ((remI i (64 : Int)) < ((block.length : Nat) : Int)))) then
    bif (decide ((out ++ ([(xorB (List.getD b (i).toNat (0 : UInt8)) (List.getD block ((remI i (64 : Int))).toNat (0 : UInt8)))] : List UInt8)).length ≤ big)) then
    next nonce b (addI i (1 : Int)) key (out ++ ([(xorB (List.getD b (i).toNat (0 : UInt8)) (List.getD block ((remI i (64 : Int))).toNat (0 : UInt8)))] : List UInt8)) block
    else fail
    else fail
    else fail
  else
  ex0 nonce b i key out block
def rStream_l1F {X : Type} (F : Nat) (fail : X) (ex0 : Int → List UInt8 → Int → List UInt8 → List UInt8 → List UInt8 → X) : Nat → Int → List UInt8 → Int → List UInt8 → List UInt8 → List UInt8 → X
  | 0, _, _, _, _, _, _ => fail
  | m + 1, nonce, b, i, key, out, block => rStream_l1 F fail (rStream_l1F F fail ex0 m) ex0 nonce b i key out block

def rStream {X : Type} (F : Nat) (key : List UInt8) (nonce : Int) (b : List UInt8) (fail : X) (ret : List UInt8 → Int → X) : X :=
  bif (decide (((b.length : Nat) : Int) > (65536 : Int))) then
    ret ([] : List UInt8) (5 : Int)
  else
  bif (!(rNonces_r nonce)) then
    ret ([] : List UInt8) (2 : Int)
  else
  rStream_l1F F fail
    (fun (nonce1 : Int) (b1 : List UInt8) (i : Int) (key1 : List UInt8) (out : List UInt8) (block : List UInt8) =>
      ret out (0 : Int))
    F nonce b (0 : Int) key ([] : List UInt8) ([] : List UInt8)

end Go.AI
