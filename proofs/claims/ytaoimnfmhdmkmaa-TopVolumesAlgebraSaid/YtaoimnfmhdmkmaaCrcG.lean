/- Plain functions, printed by running the machine on symbols. -/
import Derived.Test.YtaoimnfmhdmkmaaCrcS
noncomputable section
namespace Go.AI
open Go
set_option linter.unusedVariables false

def shifted_l1 {X : Type} (F : Nat) (fail : X) (next : UInt32 → Int → X) (ex0 : UInt32 → Int → X) (register : UInt32) (s4 : Int) : X :=
  bif (decide (s4 < (8 : Int))) then
    bif (((((andW register (1 : UInt32))).toNat : Nat) : Int) == (1 : Int)) then
      next (xorW (shrW register (1 : Int)) (3988292384 : UInt32)) (addI s4 (1 : Int))
    else
    next (shrW register (1 : Int)) (addI s4 (1 : Int))
  else
  ex0 register s4
def shifted_l1F {X : Type} (F : Nat) (fail : X) (ex0 : UInt32 → Int → X) : Nat → UInt32 → Int → X
  | 0, _, _ => fail
  | m + 1, register, s4 => shifted_l1 F fail (shifted_l1F F fail ex0 m) ex0 register s4

def shifted {X : Type} (F : Nat) (register : UInt32) (fail : X) (ret : UInt32 → X) : X :=
  shifted_l1F F fail
    (fun (register1 : UInt32) (s4 : Int) =>
      ret register1)
    F register (0 : Int)

def ctable_l1 {X : Type} (F : Nat) (fail : X) (next : Int → List UInt32 → List UInt32 → X) (ex0 : Int → List UInt32 → List UInt32 → X) (s3 : Int) (s0 : List UInt32) (out : List UInt32) : X :=
  bif (decide (s3 < (256 : Int))) then
    bif (shifted_P (cvIW s3)) then
    bif ((decide ((0 : Int) ≤ s3)) && (decide (s3 < ((256 : Nat) : Int)))) then
    next (addI s3 (1 : Int)) s0 (List.set out (s3).toNat (shifted_r (cvIW s3)))
    else fail
    else fail
  else
  ex0 s3 s0 out
def ctable_l1F {X : Type} (F : Nat) (fail : X) (ex0 : Int → List UInt32 → List UInt32 → X) : Nat → Int → List UInt32 → List UInt32 → X
  | 0, _, _, _ => fail
  | m + 1, s3, s0, out => ctable_l1 F fail (ctable_l1F F fail ex0 m) ex0 s3 s0 out

def ctable {X : Type} (F : Nat)  (fail : X) (ret : List UInt32 → X) : X :=
  ctable_l1F F fail
    (fun (s3 : Int) (s0 : List UInt32) (out : List UInt32) =>
      ret out)
    F (0 : Int) (List.replicate 256 (0 : UInt32)) (List.replicate 256 (0 : UInt32))

def cUpd_l1 {X : Type} (F : Nat) (fail : X) (next : List UInt8 → Int → Int → UInt32 → UInt32 → UInt32 → List UInt32 → List UInt8 → X) (ex0 : List UInt8 → Int → Int → UInt32 → UInt32 → UInt32 → List UInt32 → List UInt8 → X) (s5 : List UInt8) (s6 : Int) (s7 : Int) (s4 : UInt32) (s61 : UInt32) (register : UInt32) (t : List UInt32) (bytes : List UInt8) : X :=
  bif (decide (s7 < s6)) then
    bif ((decide ((0 : Int) ≤ s7)) && (decide (s7 < ((s5.length : Nat) : Int)))) then
    bif ((decide ((0 : Int) ≤ ((((xorB (cvWB register) (List.getD s5 (s7).toNat (0 : UInt8)))).toNat : Nat) : Int))) && (decide (((((xorB (cvWB register) (List.getD s5 (s7).toNat (0 : UInt8)))).toNat : Nat) : Int) < ((256 : Nat) : Int)))) then
    next s5 s6 (addI s7 (1 : Int)) s4 s61 (xorW (shrW register (8 : Int)) (List.getD t ((xorB (cvWB register) (List.getD s5 (s7).toNat (0 : UInt8)))).toNat (0 : UInt32))) t bytes
    else fail
    else fail
  else
  ex0 s5 s6 s7 s4 s61 register t bytes
def cUpd_l1F {X : Type} (F : Nat) (fail : X) (ex0 : List UInt8 → Int → Int → UInt32 → UInt32 → UInt32 → List UInt32 → List UInt8 → X) : Nat → List UInt8 → Int → Int → UInt32 → UInt32 → UInt32 → List UInt32 → List UInt8 → X
  | 0, _, _, _, _, _, _, _, _ => fail
  | m + 1, s5, s6, s7, s4, s61, register, t, bytes => cUpd_l1 F fail (cUpd_l1F F fail ex0 m) ex0 s5 s6 s7 s4 s61 register t bytes

def cUpd {X : Type} (F : Nat) (sum : UInt32) (b : List UInt8) (fail : X) (ret : UInt32 → X) : X :=
  bif (ctable_P) then
  cUpd_l1F F fail
    (fun (s5 : List UInt8) (s6 : Int) (s7 : Int) (s4 : UInt32) (s61 : UInt32) (register : UInt32) (t : List UInt32) (bytes : List UInt8) =>
      ret (notW register))
    F b ((b.length : Nat) : Int) (0 : Int) (0 : UInt32) (notW sum) (notW sum) (ctable_r) b
  else fail

def cSum {X : Type} (F : Nat) (b : List UInt8) (fail : X) (ret : UInt32 → X) : X :=
  bif (cUpd_P (0 : UInt32) b) then
  ret (cUpd_r (0 : UInt32) b)
  else fail

end Go.AI
