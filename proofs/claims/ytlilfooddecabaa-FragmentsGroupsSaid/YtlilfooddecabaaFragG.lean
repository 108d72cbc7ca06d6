/- Plain functions, printed by running the machine on symbols. -/
import Derived.Test.YtlilfooddecabaaFragS
namespace Go.AI
open Go
set_option linter.unusedVariables false

def between {X : Type} (F : Nat) (n : Int) (low : Int) (high : Int) (fail : X) (ret : Bool → X) : X :=
  bif (decide (n ≥ low)) then
    ret (decide (n ≤ high))
  else
  ret false

def placed {X : Type} (F : Nat) (length : Int) (block : Int) (at_ : Int) (fail : X) (ret : Bool → X) : X :=
  bif (between_r block (0 : Int) (4095 : Int)) then
    ret (between_r at_ (0 : Int) (subI (65536 : Int) length))
  else
  ret false

def fCheck_l1 {X : Type} (F : Nat) (fail : X) (next : Int → List ((List UInt8) × (Int × (Int × (Int × Unit)))) → Int → Int → List ((List UInt8) × (Int × (Int × (Int × Unit)))) → List (((List UInt8) × (Int × Unit)) × Int) → X) (ex0 : Int → List ((List UInt8) × (Int × (Int × (Int × Unit)))) → Int → Int → List ((List UInt8) × (Int × (Int × (Int × Unit)))) → List (((List UInt8) × (Int × Unit)) × Int) → X) (ex1 : Int → List ((List UInt8) × (Int × (Int × (Int × Unit)))) → Int → Int → List ((List UInt8) × (Int × (Int × (Int × Unit)))) → List (((List UInt8) × (Int × Unit)) × Int) → X) (s3 : Int) (s17 : List ((List UInt8) × (Int × (Int × (Int × Unit))))) (s18 : Int) (s19 : Int) (h1 : List ((List UInt8) × (Int × (Int × (Int × Unit))))) (h2 : List (((List UInt8) × (Int × Unit)) × Int)) : X :=
  bif (decide (s19 < s18)) then
    bif ((decide ((0 : Int) ≤ s19)) && (decide (s19 < ((s17.length : Nat) : Int)))) then
    bif (!(between_r (List.getD s17 (s19).toNat ((List.replicate 32 (0 : UInt8)), ((0 : Int), ((0 : Int), ((0 : Int), ()))))).2.1 (1 : Int) (65536 : Int))) then
      ex0 (2 : Int) s17 s18 s19 h1 h2
    else
    bif ((List.getD s17 (s19).toNat ((List.replicate 32 (0 : UInt8)), ((0 : Int), ((0 : Int), ((0 : Int), ()))))).2.2.1 != (-1 : Int)) then
      bif (placed_P (List.getD s17 (s19).toNat ((List.replicate 32 (0 : UInt8)), ((0 : Int), ((0 : Int), ((0 : Int), ()))))).2.1 (List.getD s17 (s19).toNat ((List.replicate 32 (0 : UInt8)), ((0 : Int), ((0 : Int), ((0 : Int), ()))))).2.2.1 (List.getD s17 (s19).toNat ((List.replicate 32 (0 : UInt8)), ((0 : Int), ((0 : Int), ((0 : Int), ()))))).2.2.2.1) then
      bif (!(placed_r (List.getD s17 (s19).toNat ((List.replicate 32 (0 : UInt8)), ((0 : Int), ((0 : Int), ((0 : Int), ()))))).2.1 (List.getD s17 (s19).toNat ((List.replicate 32 (0 : UInt8)), ((0 : Int), ((0 : Int), ((0 : Int), ()))))).2.2.1 (List.getD s17 (s19).toNat ((List.replicate 32 (0 : UInt8)), ((0 : Int), ((0 : Int), ((0 : Int), ()))))).2.2.2.1)) then
        ex0 (2 : Int) s17 s18 s19 h1 h2
      else
      bif (Option.isSome (mfind (beqT (.pair (.arr 32 (.int .u8)) (.pair (.int .i64) .unit))) ((List.getD s17 (s19).toNat ((List.replicate 32 (0 : UInt8)), ((0 : Int), ((0 : Int), ((0 : Int), ()))))).1, ((List.getD s17 (s19).toNat ((List.replicate 32 (0 : UInt8)), ((0 : Int), ((0 : Int), ((0 : Int), ()))))).2.1, ())) h2)) then
        ex0 (8 : Int) s17 s18 s19 h1 h2
      else
      bif (decide (h2.length < big)) then
      bif (decide ((h1 ++ ([(List.getD s17 (s19).toNat ((List.replicate 32 (0 : UInt8)), ((0 : Int), ((0 : Int), ((0 : Int), ())))))] : List ((List UInt8) × (Int × (Int × (Int × Unit)))))).length ≤ big)) then
      next s3 s17 s18 (addI s19 (1 : Int)) (h1 ++ ([(List.getD s17 (s19).toNat ((List.replicate 32 (0 : UInt8)), ((0 : Int), ((0 : Int), ((0 : Int), ())))))] : List ((List UInt8) × (Int × (Int × (Int × Unit)))))) (mput (beqT (.pair (.arr 32 (.int .u8)) (.pair (.int .i64) .unit))) ((List.getD s17 (s19).toNat ((List.replicate 32 (0 : UInt8)), ((0 : Int), ((0 : Int), ((0 : Int), ()))))).1, ((List.getD s17 (s19).toNat ((List.replicate 32 (0 : UInt8)), ((0 : Int), ((0 : Int), ((0 : Int), ()))))).2.1, ())) ((h1.length : Nat) : Int) h2)
      else fail
      else fail
      else fail
    else
    bif ((List.getD s17 (s19).toNat ((List.replicate 32 (0 : UInt8)), ((0 : Int), ((0 : Int), ((0 : Int), ()))))).2.2.2.1 != (0 : Int)) then
      bif (placed_P (List.getD s17 (s19).toNat ((List.replicate 32 (0 : UInt8)), ((0 : Int), ((0 : Int), ((0 : Int), ()))))).2.1 (List.getD s17 (s19).toNat ((List.replicate 32 (0 : UInt8)), ((0 : Int), ((0 : Int), ((0 : Int), ()))))).2.2.1 (List.getD s17 (s19).toNat ((List.replicate 32 (0 : UInt8)), ((0 : Int), ((0 : Int), ((0 : Int), ()))))).2.2.2.1) then
      bif (!(placed_r (List.getD s17 (s19).toNat ((List.replicate 32 (0 : UInt8)), ((0 : Int), ((0 : Int), ((0 : Int), ()))))).2.1 (List.getD s17 (s19).toNat ((List.replicate 32 (0 : UInt8)), ((0 : Int), ((0 : Int), ((0 : Int), ()))))).2.2.1 (List.getD s17 (s19).toNat ((List.replicate 32 (0 : UInt8)), ((0 : Int), ((0 : Int), ((0 : Int), ()))))).2.2.2.1)) then
        ex0 (2 : Int) s17 s18 s19 h1 h2
      else
      bif (Option.isSome (mfind (beqT (.pair (.arr 32 (.int .u8)) (.pair (.int .i64) .unit))) ((List.getD s17 (s19).toNat ((List.replicate 32 (0 : UInt8)), ((0 : Int), ((0 : Int), ((0 : Int), ()))))).1, ((List.getD s17 (s19).toNat ((List.replicate 32 (0 : UInt8)), ((0 : Int), ((0 : Int), ((0 : Int), ()))))).2.1, ())) h2)) then
        ex0 (8 : Int) s17 s18 s19 h1 h2
      else
      bif (decide (h2.length < big)) then
      bif (decide ((h1 ++ ([(List.getD s17 (s19).toNat ((List.replicate 32 (0 : UInt8)), ((0 : Int), ((0 : Int), ((0 : Int), ())))))] : List ((List UInt8) × (Int × (Int × (Int × Unit)))))).length ≤ big)) then
      next s3 s17 s18 (addI s19 (1 : Int)) (h1 ++ ([(List.getD s17 (s19).toNat ((List.replicate 32 (0 : UInt8)), ((0 : Int), ((0 : Int), ((0 : Int), ())))))] : List ((List UInt8) × (Int × (Int × (Int × Unit)))))) (mput (beqT (.pair (.arr 32 (.int .u8)) (.pair (.int .i64) .unit))) ((List.getD s17 (s19).toNat ((List.replicate 32 (0 : UInt8)), ((0 : Int), ((0 : Int), ((0 : Int), ()))))).1, ((List.getD s17 (s19).toNat ((List.replicate 32 (0 : UInt8)), ((0 : Int), ((0 : Int), ((0 : Int), ()))))).2.1, ())) ((h1.length : Nat) : Int) h2)
      else fail
      else fail
      else fail
    else
    bif (Option.isSome (mfind (beqT (.pair (.arr 32 (.int .u8)) (.pair (.int .i64) .unit))) ((List.getD s17 (s19).toNat ((List.replicate 32 (0 : UInt8)), ((0 : Int), ((0 : Int), ((0 : Int), ()))))).1, ((List.getD s17 (s19).toNat ((List.replicate 32 (0 : UInt8)), ((0 : Int), ((0 : Int), ((0 : Int), ()))))).2.1, ())) h2)) then
      ex0 (8 : Int) s17 s18 s19 h1 h2
    else
    bif (decide (h2.length < big)) then
    bif (decide ((h1 ++ ([(List.getD s17 (s19).toNat ((List.replicate 32 (0 : UInt8)), ((0 : Int), ((0 : Int), ((0 : Int), ())))))] : List ((List UInt8) × (Int × (Int × (Int × Unit)))))).length ≤ big)) then
    next s3 s17 s18 (addI s19 (1 : Int)) (h1 ++ ([(List.getD s17 (s19).toNat ((List.replicate 32 (0 : UInt8)), ((0 : Int), ((0 : Int), ((0 : Int), ())))))] : List ((List UInt8) × (Int × (Int × (Int × Unit)))))) (mput (beqT (.pair (.arr 32 (.int .u8)) (.pair (.int .i64) .unit))) ((List.getD s17 (s19).toNat ((List.replicate 32 (0 : UInt8)), ((0 : Int), ((0 : Int), ((0 : Int), ()))))).1, ((List.getD s17 (s19).toNat ((List.replicate 32 (0 : UInt8)), ((0 : Int), ((0 : Int), ((0 : Int), ()))))).2.1, ())) ((h1.length : Nat) : Int) h2)
    else fail
    else fail
    else fail
  else
  ex1 s3 s17 s18 s19 h1 h2
def fCheck_l1F {X : Type} (F : Nat) (fail : X) (ex0 : Int → List ((List UInt8) × (Int × (Int × (Int × Unit)))) → Int → Int → List ((List UInt8) × (Int × (Int × (Int × Unit)))) → List (((List UInt8) × (Int × Unit)) × Int) → X) (ex1 : Int → List ((List UInt8) × (Int × (Int × (Int × Unit)))) → Int → Int → List ((List UInt8) × (Int × (Int × (Int × Unit)))) → List (((List UInt8) × (Int × Unit)) × Int) → X) : Nat → Int → List ((List UInt8) × (Int × (Int × (Int × Unit)))) → Int → Int → List ((List UInt8) × (Int × (Int × (Int × Unit)))) → List (((List UInt8) × (Int × Unit)) × Int) → X
  | 0, _, _, _, _, _, _ => fail
  | m + 1, s3, s17, s18, s19, h1, h2 => fCheck_l1 F fail (fCheck_l1F F fail ex0 ex1 m) ex0 ex1 s3 s17 s18 s19 h1 h2

def fCheck {X : Type} (F : Nat) (f : ((List ((List UInt8) × (Int × (Int × (Int × Unit))))) × Unit)) (fail : X) (ret : Int → X) : X :=
  bif (decide (((f.1.length : Nat) : Int) > (4096 : Int))) then
    ret (6 : Int)
  else
  fCheck_l1F F fail
    (fun (s3 : Int) (s17 : List ((List UInt8) × (Int × (Int × (Int × Unit))))) (s18 : Int) (s19 : Int) (h1 : List ((List UInt8) × (Int × (Int × (Int × Unit))))) (h2 : List (((List UInt8) × (Int × Unit)) × Int)) =>
      ret s3)
    (fun (s31 : Int) (s171 : List ((List UInt8) × (Int × (Int × (Int × Unit))))) (s181 : Int) (s191 : Int) (h11 : List ((List UInt8) × (Int × (Int × (Int × Unit))))) (h21 : List (((List UInt8) × (Int × Unit)) × Int)) =>
      ret (0 : Int))
    F (0 : Int) f.1 ((f.1.length : Nat) : Int) (0 : Int) ([] : List ((List UInt8) × (Int × (Int × (Int × Unit))))) ([] : List (((List UInt8) × (Int × Unit)) × Int))

def fFind_l1 {X : Type} (F : Nat) (fail : X) (next : Int → List ((List UInt8) × (Int × (Int × (Int × Unit)))) → Int → Int → Int → List ((List UInt8) × (Int × (Int × (Int × Unit)))) → List (((List UInt8) × (Int × Unit)) × Int) → List UInt8 → X) (ex0 : Int → List ((List UInt8) × (Int × (Int × (Int × Unit)))) → Int → Int → Int → List ((List UInt8) × (Int × (Int × (Int × Unit)))) → List (((List UInt8) × (Int × Unit)) × Int) → List UInt8 → X) (ex1 : Int → List ((List UInt8) × (Int × (Int × (Int × Unit)))) → Int → Int → Int → List ((List UInt8) × (Int × (Int × (Int × Unit)))) → List (((List UInt8) × (Int × Unit)) × Int) → List UInt8 → X) (s3 : Int) (s17 : List ((List UInt8) × (Int × (Int × (Int × Unit))))) (s18 : Int) (s19 : Int) (length : Int) (h1 : List ((List UInt8) × (Int × (Int × (Int × Unit))))) (h2 : List (((List UInt8) × (Int × Unit)) × Int)) (d_ : List UInt8) : X :=
  bif (decide (s19 < s18)) then
    bif ((decide ((0 : Int) ≤ s19)) && (decide (s19 < ((s17.length : Nat) : Int)))) then
    bif (!(between_r (List.getD s17 (s19).toNat ((List.replicate 32 (0 : UInt8)), ((0 : Int), ((0 : Int), ((0 : Int), ()))))).2.1 (1 : Int) (65536 : Int))) then
      ex0 (2 : Int) s17 s18 s19 length h1 h2 d_
    else
    bif ((List.getD s17 (s19).toNat ((List.replicate 32 (0 : UInt8)), ((0 : Int), ((0 : Int), ((0 : Int), ()))))).2.2.1 != (-1 : Int)) then
      bif (placed_P (List.getD s17 (s19).toNat ((List.replicate 32 (0 : UInt8)), ((0 : Int), ((0 : Int), ((0 : Int), ()))))).2.1 (List.getD s17 (s19).toNat ((List.replicate 32 (0 : UInt8)), ((0 : Int), ((0 : Int), ((0 : Int), ()))))).2.2.1 (List.getD s17 (s19).toNat ((List.replicate 32 (0 : UInt8)), ((0 : Int), ((0 : Int), ((0 : Int), ()))))).2.2.2.1) then
      bif (!(placed_r (List.getD s17 (s19).toNat ((List.replicate 32 (0 : UInt8)), ((0 : Int), ((0 : Int), ((0 : Int), ()))))).2.1 (List.getD s17 (s19).toNat ((List.replicate 32 (0 : UInt8)), ((0 : Int), ((0 : Int), ((0 : Int), ()))))).2.2.1 (List.getD s17 (s19).toNat ((List.replicate 32 (0 : UInt8)), ((0 : Int), ((0 : Int), ((0 : Int), ()))))).2.2.2.1)) then
        ex0 (2 : Int) s17 s18 s19 length h1 h2 d_
      else
      bif (Option.isSome (mfind (beqT (.pair (.arr 32 (.int .u8)) (.pair (.int .i64) .unit))) ((List.getD s17 (s19).toNat ((List.replicate 32 (0 : UInt8)), ((0 : Int), ((0 : Int), ((0 : Int), ()))))).1, ((List.getD s17 (s19).toNat ((List.replicate 32 (0 : UInt8)), ((0 : Int), ((0 : Int), ((0 : Int), ()))))).2.1, ())) h2)) then
        ex0 (8 : Int) s17 s18 s19 length h1 h2 d_
      else
      bif (decide (h2.length < big)) then
      bif (decide ((h1 ++ ([(List.getD s17 (s19).toNat ((List.replicate 32 (0 : UInt8)), ((0 : Int), ((0 : Int), ((0 : Int), ())))))] : List ((List UInt8) × (Int × (Int × (Int × Unit)))))).length ≤ big)) then
      next s3 s17 s18 (addI s19 (1 : Int)) length (h1 ++ ([(List.getD s17 (s19).toNat ((List.replicate 32 (0 : UInt8)), ((0 : Int), ((0 : Int), ((0 : Int), ())))))] : List ((List UInt8) × (Int × (Int × (Int × Unit)))))) (mput (beqT (.pair (.arr 32 (.int .u8)) (.pair (.int .i64) .unit))) ((List.getD s17 (s19).toNat ((List.replicate 32 (0 : UInt8)), ((0 : Int), ((0 : Int), ((0 : Int), ()))))).1, ((List.getD s17 (s19).toNat ((List.replicate 32 (0 : UInt8)), ((0 : Int), ((0 : Int), ((0 : Int), ()))))).2.1, ())) ((h1.length : Nat) : Int) h2) d_
      else fail
      else fail
      else fail
    else
    bif ((List.getD s17 (s19).toNat ((List.replicate 32 (0 : UInt8)), ((0 : Int), ((0 : Int), ((0 : Int), ()))))).2.2.2.1 != (0 : Int)) then
      bif (placed_P (List.getD s17 (s19).toNat ((List.replicate 32 (0 : UInt8)), ((0 : Int), ((0 : Int), ((0 : Int), ()))))).2.1 (List.getD s17 (s19).toNat ((List.replicate 32 (0 : UInt8)), ((0 : Int), ((0 : Int), ((0 : Int), ()))))).2.2.1 (List.getD s17 (s19).toNat ((List.replicate 32 (0 : UInt8)), ((0 : Int), ((0 : Int), ((0 : Int), ()))))).2.2.2.1) then
      bif (!(placed_r (List.getD s17 (s19).toNat ((List.replicate 32 (0 : UInt8)), ((0 : Int), ((0 : Int), ((0 : Int), ()))))).2.1 (List.getD s17 (s19).toNat ((List.replicate 32 (0 : UInt8)), ((0 : Int), ((0 : Int), ((0 : Int), ()))))).2.2.1 (List.getD s17 (s19).toNat ((List.replicate 32 (0 : UInt8)), ((0 : Int), ((0 : Int), ((0 : Int), ()))))).2.2.2.1)) then
        ex0 (2 : Int) s17 s18 s19 length h1 h2 d_
      else
      bif (Option.isSome (mfind (beqT (.pair (.arr 32 (.int .u8)) (.pair (.int .i64) .unit))) ((List.getD s17 (s19).toNat ((List.replicate 32 (0 : UInt8)), ((0 : Int), ((0 : Int), ((0 : Int), ()))))).1, ((List.getD s17 (s19).toNat ((List.replicate 32 (0 : UInt8)), ((0 : Int), ((0 : Int), ((0 : Int), ()))))).2.1, ())) h2)) then
        ex0 (8 : Int) s17 s18 s19 length h1 h2 d_
      else
      bif (decide (h2.length < big)) then
      bif (decide ((h1 ++ ([(List.getD s17 (s19).toNat ((List.replicate 32 (0 : UInt8)), ((0 : Int), ((0 : Int), ((0 : Int), ())))))] : List ((List UInt8) × (Int × (Int × (Int × Unit)))))).length ≤ big)) then
      next s3 s17 s18 (addI s19 (1 : Int)) length (h1 ++ ([(List.getD s17 (s19).toNat ((List.replicate 32 (0 : UInt8)), ((0 : Int), ((0 : Int), ((0 : Int), ())))))] : List ((List UInt8) × (Int × (Int × (Int × Unit)))))) (mput (beqT (.pair (.arr 32 (.int .u8)) (.pair (.int .i64) .unit))) ((List.getD s17 (s19).toNat ((List.replicate 32 (0 : UInt8)), ((0 : Int), ((0 : Int), ((0 : Int), ()))))).1, ((List.getD s17 (s19).toNat ((List.replicate 32 (0 : UInt8)), ((0 : Int), ((0 : Int), ((0 : Int), ()))))).2.1, ())) ((h1.length : Nat) : Int) h2) d_
      else fail
      else fail
      else fail
    else
    bif (Option.isSome (mfind (beqT (.pair (.arr 32 (.int .u8)) (.pair (.int .i64) .unit))) ((List.getD s17 (s19).toNat ((List.replicate 32 (0 : UInt8)), ((0 : Int), ((0 : Int), ((0 : Int), ()))))).1, ((List.getD s17 (s19).toNat ((List.replicate 32 (0 : UInt8)), ((0 : Int), ((0 : Int), ((0 : Int), ()))))).2.1, ())) h2)) then
      ex0 (8 : Int) s17 s18 s19 length h1 h2 d_
    else
    bif (decide (h2.length < big)) then
    bif (decide ((h1 ++ ([(List.getD s17 (s19).toNat ((List.replicate 32 (0 : UInt8)), ((0 : Int), ((0 : Int), ((0 : Int), ())))))] : List ((List UInt8) × (Int × (Int × (Int × Unit)))))).length ≤ big)) then
    next s3 s17 s18 (addI s19 (1 : Int)) length (h1 ++ ([(List.getD s17 (s19).toNat ((List.replicate 32 (0 : UInt8)), ((0 : Int), ((0 : Int), ((0 : Int), ())))))] : List ((List UInt8) × (Int × (Int × (Int × Unit)))))) (mput (beqT (.pair (.arr 32 (.int .u8)) (.pair (.int .i64) .unit))) ((List.getD s17 (s19).toNat ((List.replicate 32 (0 : UInt8)), ((0 : Int), ((0 : Int), ((0 : Int), ()))))).1, ((List.getD s17 (s19).toNat ((List.replicate 32 (0 : UInt8)), ((0 : Int), ((0 : Int), ((0 : Int), ()))))).2.1, ())) ((h1.length : Nat) : Int) h2) d_
    else fail
    else fail
    else fail
  else
  ex1 s3 s17 s18 s19 length h1 h2 d_
def fFind_l1F {X : Type} (F : Nat) (fail : X) (ex0 : Int → List ((List UInt8) × (Int × (Int × (Int × Unit)))) → Int → Int → Int → List ((List UInt8) × (Int × (Int × (Int × Unit)))) → List (((List UInt8) × (Int × Unit)) × Int) → List UInt8 → X) (ex1 : Int → List ((List UInt8) × (Int × (Int × (Int × Unit)))) → Int → Int → Int → List ((List UInt8) × (Int × (Int × (Int × Unit)))) → List (((List UInt8) × (Int × Unit)) × Int) → List UInt8 → X) : Nat → Int → List ((List UInt8) × (Int × (Int × (Int × Unit)))) → Int → Int → Int → List ((List UInt8) × (Int × (Int × (Int × Unit)))) → List (((List UInt8) × (Int × Unit)) × Int) → List UInt8 → X
  | 0, _, _, _, _, _, _, _, _ => fail
  | m + 1, s3, s17, s18, s19, length, h1, h2, d_ => fFind_l1 F fail (fFind_l1F F fail ex0 ex1 m) ex0 ex1 s3 s17 s18 s19 length h1 h2 d_

def fFind {X : Type} (F : Nat) (f : ((List ((List UInt8) × (Int × (Int × (Int × Unit))))) × Unit)) (d_ : List UInt8) (length : Int) (fail : X) (ret : Int → Bool → X) : X :=
  bif (decide (((f.1.length : Nat) : Int) > (4096 : Int))) then
    ret (0 : Int) false
  else
  fFind_l1F F fail
    (fun (s3 : Int) (s17 : List ((List UInt8) × (Int × (Int × (Int × Unit))))) (s18 : Int) (s19 : Int) (length1 : Int) (h1 : List ((List UInt8) × (Int × (Int × (Int × Unit))))) (h2 : List (((List UInt8) × (Int × Unit)) × Int)) (d_1 : List UInt8) =>
      bif (s3 != (0 : Int)) then
      ret (0 : Int) false
      else fail)
    (fun (s31 : Int) (s171 : List ((List UInt8) × (Int × (Int × (Int × Unit))))) (s181 : Int) (s191 : Int) (length2 : Int) (h11 : List ((List UInt8) × (Int × (Int × (Int × Unit))))) (h21 : List (((List UInt8) × (Int × Unit)) × Int)) (d_2 : List UInt8) =>
      ret (Option.getD (mfind (beqT (.pair (.arr 32 (.int .u8)) (.pair (.int .i64) .unit))) (d_2, (length2, ())) h21) (0 : Int)) (Option.isSome (mfind (beqT (.pair (.arr 32 (.int .u8)) (.pair (.int .i64) .unit))) (d_2, (length2, ())) h21)))
    F (0 : Int) f.1 ((f.1.length : Nat) : Int) (0 : Int) length ([] : List ((List UInt8) × (Int × (Int × (Int × Unit))))) ([] : List (((List UInt8) × (Int × Unit)) × Int)) d_

def fAdd_l1 {X : Type} (F : Nat) (fail : X) (next : Int → List ((List UInt8) × (Int × (Int × (Int × Unit)))) → Int → Int → List UInt8 → List ((List UInt8) × (Int × (Int × (Int × Unit)))) → List (((List UInt8) × (Int × Unit)) × Int) → ((List ((List UInt8) × (Int × (Int × (Int × Unit))))) × Unit) → X) (ex0 : Int → List ((List UInt8) × (Int × (Int × (Int × Unit)))) → Int → Int → List UInt8 → List ((List UInt8) × (Int × (Int × (Int × Unit)))) → List (((List UInt8) × (Int × Unit)) × Int) → ((List ((List UInt8) × (Int × (Int × (Int × Unit))))) × Unit) → X) (ex1 : Int → List ((List UInt8) × (Int × (Int × (Int × Unit)))) → Int → Int → List UInt8 → List ((List UInt8) × (Int × (Int × (Int × Unit)))) → List (((List UInt8) × (Int × Unit)) × Int) → ((List ((List UInt8) × (Int × (Int × (Int × Unit))))) × Unit) → X) (s3 : Int) (s17 : List ((List UInt8) × (Int × (Int × (Int × Unit))))) (s18 : Int) (s19 : Int) (data : List UInt8) (h1 : List ((List UInt8) × (Int × (Int × (Int × Unit))))) (h2 : List (((List UInt8) × (Int × Unit)) × Int)) (s4 : ((List ((List UInt8) × (Int × (Int × (Int × Unit))))) × Unit)) : X :=
  bif (decide (s19 < s18)) then
    bif ((decide ((0 : Int) ≤ s19)) && (decide (s19 < ((s17.length : Nat) : Int)))) then
    bif (!(between_r (List.getD s17 (s19).toNat ((List.replicate 32 (0 : UInt8)), ((0 : Int), ((0 : Int), ((0 : Int), ()))))).2.1 (1 : Int) (65536 : Int))) then
      ex0 (2 : Int) s17 s18 s19 data h1 h2 s4
    else
    bif ((List.getD s17 (s19).toNat ((List.replicate 32 (0 : UInt8)), ((0 : Int), ((0 : Int), ((0 : Int), ()))))).2.2.1 != (-1 : Int)) then
      bif (placed_P (List.getD s17 (s19).toNat ((List.replicate 32 (0 : UInt8)), ((0 : Int), ((0 : Int), ((0 : Int), ()))))).2.1 (List.getD s17 (s19).toNat ((List.replicate 32 (0 : UInt8)), ((0 : Int), ((0 : Int), ((0 : Int), ()))))).2.2.1 (List.getD s17 (s19).toNat ((List.replicate 32 (0 : UInt8)), ((0 : Int), ((0 : Int), ((0 : Int), ()))))).2.2.2.1) then
      bif (!(placed_r (List.getD s17 (s19).toNat ((List.replicate 32 (0 : UInt8)), ((0 : Int), ((0 : Int), ((0 : Int), ()))))).2.1 (List.getD s17 (s19).toNat ((List.replicate 32 (0 : UInt8)), ((0 : Int), ((0 : Int), ((0 : Int), ()))))).2.2.1 (List.getD s17 (s19).toNat ((List.replicate 32 (0 : UInt8)), ((0 : Int), ((0 : Int), ((0 : Int), ()))))).2.2.2.1)) then
        ex0 (2 : Int) s17 s18 s19 data h1 h2 s4
      else
      bif (Option.isSome (mfind (beqT (.pair (.arr 32 (.int .u8)) (.pair (.int .i64) .unit))) ((List.getD s17 (s19).toNat ((List.replicate 32 (0 : UInt8)), ((0 : Int), ((0 : Int), ((0 : Int), ()))))).1, ((List.getD s17 (s19).toNat ((List.replicate 32 (0 : UInt8)), ((0 : Int), ((0 : Int), ((0 : Int), ()))))).2.1, ())) h2)) then
        ex0 (8 : Int) s17 s18 s19 data h1 h2 s4
      else
      bif (decide (h2.length < big)) then
      bif (decide ((h1 ++ ([(List.getD s17 (s19).toNat ((List.replicate 32 (0 : UInt8)), ((0 : Int), ((0 : Int), ((0 : Int), ())))))] : List ((List UInt8) × (Int × (Int × (Int × Unit)))))).length ≤ big)) then
      next s3 s17 s18 (addI s19 (1 : Int)) data (h1 ++ ([(List.getD s17 (s19).toNat ((List.replicate 32 (0 : UInt8)), ((0 : Int), ((0 : Int), ((0 : Int), ())))))] : List ((List UInt8) × (Int × (Int × (Int × Unit)))))) (mput (beqT (.pair (.arr 32 (.int .u8)) (.pair (.int .i64) .unit))) ((List.getD s17 (s19).toNat ((List.replicate 32 (0 : UInt8)), ((0 : Int), ((0 : Int), ((0 : Int), ()))))).1, ((List.getD s17 (s19).toNat ((List.replicate 32 (0 : UInt8)), ((0 : Int), ((0 : Int), ((0 : Int), ()))))).2.1, ())) ((h1.length : Nat) : Int) h2) s4
      else fail
      else fail
      else fail
    else
    bif ((List.getD s17 (s19).toNat ((List.replicate 32 (0 : UInt8)), ((0 : Int), ((0 : Int), ((0 : Int), ()))))).2.2.2.1 != (0 : Int)) then
      bif (placed_P (List.getD s17 (s19).toNat ((List.replicate 32 (0 : UInt8)), ((0 : Int), ((0 : Int), ((0 : Int), ()))))).2.1 (List.getD s17 (s19).toNat ((List.replicate 32 (0 : UInt8)), ((0 : Int), ((0 : Int), ((0 : Int), ()))))).2.2.1 (List.getD s17 (s19).toNat ((List.replicate 32 (0 : UInt8)), ((0 : Int), ((0 : Int), ((0 : Int), ()))))).2.2.2.1) then
      bif (!(placed_r (List.getD s17 (s19).toNat ((List.replicate 32 (0 : UInt8)), ((0 : Int), ((0 : Int), ((0 : Int), ()))))).2.1 (List.getD s17 (s19).toNat ((List.replicate 32 (0 : UInt8)), ((0 : Int), ((0 : Int), ((0 : Int), ()))))).2.2.1 (List.getD s17 (s19).toNat ((List.replicate 32 (0 : UInt8)), ((0 : Int), ((0 : Int), ((0 : Int), ()))))).2.2.2.1)) then
        ex0 (2 : Int) s17 s18 s19 data h1 h2 s4
      else
      bif (Option.isSome (mfind (beqT (.pair (.arr 32 (.int .u8)) (.pair (.int .i64) .unit))) ((List.getD s17 (s19).toNat ((List.replicate 32 (0 : UInt8)), ((0 : Int), ((0 : Int), ((0 : Int), ()))))).1, ((List.getD s17 (s19).toNat ((List.replicate 32 (0 : UInt8)), ((0 : Int), ((0 : Int), ((0 : Int), ()))))).2.1, ())) h2)) then
        ex0 (8 : Int) s17 s18 s19 data h1 h2 s4
      else
      bif (decide (h2.length < big)) then
      bif (decide ((h1 ++ ([(List.getD s17 (s19).toNat ((List.replicate 32 (0 : UInt8)), ((0 : Int), ((0 : Int), ((0 : Int), ())))))] : List ((List UInt8) × (Int × (Int × (Int × Unit)))))).length ≤ big)) then
      next s3 s17 s18 (addI s19 (1 : Int)) data (h1 ++ ([(List.getD s17 (s19).toNat ((List.replicate 32 (0 : UInt8)), ((0 : Int), ((0 : Int), ((0 : Int), ())))))] : List ((List UInt8) × (Int × (Int × (Int × Unit)))))) (mput (beqT (.pair (.arr 32 (.int .u8)) (.pair (.int .i64) .unit))) ((List.getD s17 (s19).toNat ((List.replicate 32 (0 : UInt8)), ((0 : Int), ((0 : Int), ((0 : Int), ()))))).1, ((List.getD s17 (s19).toNat ((List.replicate 32 (0 : UInt8)), ((0 : Int), ((0 : Int), ((0 : Int), ()))))).2.1, ())) ((h1.length : Nat) : Int) h2) s4
      else fail
      else fail
      else fail
    else
    bif (Option.isSome (mfind (beqT (.pair (.arr 32 (.int .u8)) (.pair (.int .i64) .unit))) ((List.getD s17 (s19).toNat ((List.replicate 32 (0 : UInt8)), ((0 : Int), ((0 : Int), ((0 : Int), ()))))).1, ((List.getD s17 (s19).toNat ((List.replicate 32 (0 : UInt8)), ((0 : Int), ((0 : Int), ((0 : Int), ()))))).2.1, ())) h2)) then
      ex0 (8 : Int) s17 s18 s19 data h1 h2 s4
    else
    bif (decide (h2.length < big)) then
    bif (decide ((h1 ++ ([(List.getD s17 (s19).toNat ((List.replicate 32 (0 : UInt8)), ((0 : Int), ((0 : Int), ((0 : Int), ())))))] : List ((List UInt8) × (Int × (Int × (Int × Unit)))))).length ≤ big)) then
    next s3 s17 s18 (addI s19 (1 : Int)) data (h1 ++ ([(List.getD s17 (s19).toNat ((List.replicate 32 (0 : UInt8)), ((0 : Int), ((0 : Int), ((0 : Int), ())))))] : List ((List UInt8) × (Int × (Int × (Int × Unit)))))) (mput (beqT (.pair (.arr 32 (.int .u8)) (.pair (.int .i64) .unit))) ((List.getD s17 (s19).toNat ((List.replicate 32 (0 : UInt8)), ((0 : Int), ((0 : Int), ((0 : Int), ()))))).1, ((List.getD s17 (s19).toNat ((List.replicate 32 (0 : UInt8)), ((0 : Int), ((0 : Int), ((0 : Int), ()))))).2.1, ())) ((h1.length : Nat) : Int) h2) s4
    else fail
    else fail
    else fail
  else
  ex1 s3 s17 s18 s19 data h1 h2 s4
def fAdd_l1F {X : Type} (F : Nat) (fail : X) (ex0 : Int → List ((List UInt8) × (Int × (Int × (Int × Unit)))) → Int → Int → List UInt8 → List ((List UInt8) × (Int × (Int × (Int × Unit)))) → List (((List UInt8) × (Int × Unit)) × Int) → ((List ((List UInt8) × (Int × (Int × (Int × Unit))))) × Unit) → X) (ex1 : Int → List ((List UInt8) × (Int × (Int × (Int × Unit)))) → Int → Int → List UInt8 → List ((List UInt8) × (Int × (Int × (Int × Unit)))) → List (((List UInt8) × (Int × Unit)) × Int) → ((List ((List UInt8) × (Int × (Int × (Int × Unit))))) × Unit) → X) : Nat → Int → List ((List UInt8) × (Int × (Int × (Int × Unit)))) → Int → Int → List UInt8 → List ((List UInt8) × (Int × (Int × (Int × Unit)))) → List (((List UInt8) × (Int × Unit)) × Int) → ((List ((List UInt8) × (Int × (Int × (Int × Unit))))) × Unit) → X
  | 0, _, _, _, _, _, _, _, _ => fail
  | m + 1, s3, s17, s18, s19, data, h1, h2, s4 => fAdd_l1 F fail (fAdd_l1F F fail ex0 ex1 m) ex0 ex1 s3 s17 s18 s19 data h1 h2 s4

def fAdd {X : Type} (F : Nat) (f : ((List ((List UInt8) × (Int × (Int × (Int × Unit))))) × Unit)) (data : List UInt8) (fail : X) (ret : ((List ((List UInt8) × (Int × (Int × (Int × Unit))))) × Unit) → Int → Bool → Int → X) : X :=
  bif (decide (((f.1.length : Nat) : Int) > (4096 : Int))) then
    ret (([] : List ((List UInt8) × (Int × (Int × (Int × Unit))))), ()) (0 : Int) false (6 : Int)
  else
  fAdd_l1F F fail
    (fun (s3 : Int) (s17 : List ((List UInt8) × (Int × (Int × (Int × Unit))))) (s18 : Int) (s19 : Int) (data1 : List UInt8) (h1 : List ((List UInt8) × (Int × (Int × (Int × Unit))))) (h2 : List (((List UInt8) × (Int × Unit)) × Int)) (s4 : ((List ((List UInt8) × (Int × (Int × (Int × Unit))))) × Unit)) =>
      bif (s3 != (0 : Int)) then
        ret (([] : List ((List UInt8) × (Int × (Int × (Int × Unit))))), ()) (0 : Int) false s3
      else
      bif (decide (((data1.length : Nat) : Int) > (65536 : Int))) then
        ret (([] : List ((List UInt8) × (Int × (Int × (Int × Unit))))), ()) (0 : Int) false (5 : Int)
      else
      bif (((data1.length : Nat) : Int) == (0 : Int)) then
        ret (([] : List ((List UInt8) × (Int × (Int × (Int × Unit))))), ()) (0 : Int) false (1 : Int)
      else
      bif (dSum_P data1) then
      fail
      else fail)
    (fun (s31 : Int) (s171 : List ((List UInt8) × (Int × (Int × (Int × Unit))))) (s181 : Int) (s191 : Int) (data2 : List UInt8) (h11 : List ((List UInt8) × (Int × (Int × (Int × Unit))))) (h21 : List (((List UInt8) × (Int × Unit)) × Int)) (s41 : ((List ((List UInt8) × (Int × (Int × (Int × Unit))))) × Unit)) =>
      bif (decide (((data2.length : Nat) : Int) > (65536 : Int))) then
        ret (([] : List ((List UInt8) × (Int × (Int × (Int × Unit))))), ()) (0 : Int) false (5 : Int)
      else
      bif (((data2.length : Nat) : Int) == (0 : Int)) then
        ret (([] : List ((List UInt8) × (Int × (Int × (Int × Unit))))), ()) (0 : Int) false (1 : Int)
      else
      bif (dSum_P data2) then
      bif (Option.isSome (mfind (beqT (.pair (.arr 32 (.int .u8)) (.pair (.int .i64) .unit))) ((dSum_r data2), (((data2.length : Nat) : Int), ())) h21)) then
        ret (h11, ()) (Option.getD (mfind (beqT (.pair (.arr 32 (.int .u8)) (.pair (.int .i64) .unit))) ((dSum_r data2), (((data2.length : Nat) : Int), ())) h21) (0 : Int)) false (0 : Int)
      else
      bif (decide (((h11.length : Nat) : Int) ≥ (4096 : Int))) then
        ret (([] : List ((List UInt8) × (Int × (Int × (Int × Unit))))), ()) (0 : Int) false (11 : Int)
      else
      bif (decide (h21.length < big)) then
      bif (decide ((h11 ++ ([((dSum_r data2), (((data2.length : Nat) : Int), ((-1 : Int), ((0 : Int), ()))))] : List ((List UInt8) × (Int × (Int × (Int × Unit)))))).length ≤ big)) then
      ret ((h11 ++ ([((dSum_r data2), (((data2.length : Nat) : Int), ((-1 : Int), ((0 : Int), ()))))] : List ((List UInt8) × (Int × (Int × (Int × Unit)))))), ()) ((h11.length : Nat) : Int) true (0 : Int)
      else fail
      else fail
      else fail)
    F (0 : Int) f.1 ((f.1.length : Nat) : Int) (0 : Int) data ([] : List ((List UInt8) × (Int × (Int × (Int × Unit))))) ([] : List (((List UInt8) × (Int × Unit)) × Int)) (([] : List ((List UInt8) × (Int × (Int × (Int × Unit))))), ())

def fPlace_l1 {X : Type} (F : Nat) (fail : X) (next : Int → List ((List UInt8) × (Int × (Int × (Int × Unit)))) → Int → Int → Int → Int → Int → List ((List UInt8) × (Int × (Int × (Int × Unit)))) → List (((List UInt8) × (Int × Unit)) × Int) → ((List ((List UInt8) × (Int × (Int × (Int × Unit))))) × Unit) → X) (ex0 : Int → List ((List UInt8) × (Int × (Int × (Int × Unit)))) → Int → Int → Int → Int → Int → List ((List UInt8) × (Int × (Int × (Int × Unit)))) → List (((List UInt8) × (Int × Unit)) × Int) → ((List ((List UInt8) × (Int × (Int × (Int × Unit))))) × Unit) → X) (ex1 : Int → List ((List UInt8) × (Int × (Int × (Int × Unit)))) → Int → Int → Int → Int → Int → List ((List UInt8) × (Int × (Int × (Int × Unit)))) → List (((List UInt8) × (Int × Unit)) × Int) → ((List ((List UInt8) × (Int × (Int × (Int × Unit))))) × Unit) → X) (s3 : Int) (s17 : List ((List UInt8) × (Int × (Int × (Int × Unit))))) (s18 : Int) (s19 : Int) (fragment : Int) (block : Int) (at_ : Int) (h1 : List ((List UInt8) × (Int × (Int × (Int × Unit))))) (h2 : List (((List UInt8) × (Int × Unit)) × Int)) (s8 : ((List ((List UInt8) × (Int × (Int × (Int × Unit))))) × Unit)) : X :=
  bif (decide (s19 < s18)) then
    bif ((decide ((0 : Int) ≤ s19)) && (decide (s19 < ((s17.length : Nat) : Int)))) then
    bif (!(between_r (List.getD s17 (s19).toNat ((List.replicate 32 (0 : UInt8)), ((0 : Int), ((0 : Int), ((0 : Int), ()))))).2.1 (1 : Int) (65536 : Int))) then
      ex0 (2 : Int) s17 s18 s19 fragment block at_ h1 h2 s8
    else
    bif ((List.getD s17 (s19).toNat ((List.replicate 32 (0 : UInt8)), ((0 : Int), ((0 : Int), ((0 : Int), ()))))).2.2.1 != (-1 : Int)) then
      bif (placed_P (List.getD s17 (s19).toNat ((List.replicate 32 (0 : UInt8)), ((0 : Int), ((0 : Int), ((0 : Int), ()))))).2.1 (List.getD s17 (s19).toNat ((List.replicate 32 (0 : UInt8)), ((0 : Int), ((0 : Int), ((0 : Int), ()))))).2.2.1 (List.getD s17 (s19).toNat ((List.replicate 32 (0 : UInt8)), ((0 : Int), ((0 : Int), ((0 : Int), ()))))).2.2.2.1) then
      bif (!(placed_r (List.getD s17 (s19).toNat ((List.replicate 32 (0 : UInt8)), ((0 : Int), ((0 : Int), ((0 : Int), ()))))).2.1 (List.getD s17 (s19).toNat ((List.replicate 32 (0 : UInt8)), ((0 : Int), ((0 : Int), ((0 : Int), ()))))).2.2.1 (List.getD s17 (s19).toNat ((List.replicate 32 (0 : UInt8)), ((0 : Int), ((0 : Int), ((0 : Int), ()))))).2.2.2.1)) then
        ex0 (2 : Int) s17 s18 s19 fragment block at_ h1 h2 s8
      else
      bif (Option.isSome (mfind (beqT (.pair (.arr 32 (.int .u8)) (.pair (.int .i64) .unit))) ((List.getD s17 (s19).toNat ((List.replicate 32 (0 : UInt8)), ((0 : Int), ((0 : Int), ((0 : Int), ()))))).1, ((List.getD s17 (s19).toNat ((List.replicate 32 (0 : UInt8)), ((0 : Int), ((0 : Int), ((0 : Int), ()))))).2.1, ())) h2)) then
        ex0 (8 : Int) s17 s18 s19 fragment block at_ h1 h2 s8
      else
      bif (decide (h2.length < big)) then
      bif (decide ((h1 ++ ([(List.getD s17 (s19).toNat ((List.replicate 32 (0 : UInt8)), ((0 : Int), ((0 : Int), ((0 : Int), ())))))] : List ((List UInt8) × (Int × (Int × (Int × Unit)))))).length ≤ big)) then
      next s3 s17 s18 (addI s19 (1 : Int)) fragment block at_ (h1 ++ ([(List.getD s17 (s19).toNat ((List.replicate 32 (0 : UInt8)), ((0 : Int), ((0 : Int), ((0 : Int), ())))))] : List ((List UInt8) × (Int × (Int × (Int × Unit)))))) (mput (beqT (.pair (.arr 32 (.int .u8)) (.pair (.int .i64) .unit))) ((List.getD s17 (s19).toNat ((List.replicate 32 (0 : UInt8)), ((0 : Int), ((0 : Int), ((0 : Int), ()))))).1, ((List.getD s17 (s19).toNat ((List.replicate 32 (0 : UInt8)), ((0 : Int), ((0 : Int), ((0 : Int), ()))))).2.1, ())) ((h1.length : Nat) : Int) h2) s8
      else fail
      else fail
      else fail
    else
    bif ((List.getD s17 (s19).toNat ((List.replicate 32 (0 : UInt8)), ((0 : Int), ((0 : Int), ((0 : Int), ()))))).2.2.2.1 != (0 : Int)) then
      bif (placed_P (List.getD s17 (s19).toNat ((List.replicate 32 (0 : UInt8)), ((0 : Int), ((0 : Int), ((0 : Int), ()))))).2.1 (List.getD s17 (s19).toNat ((List.replicate 32 (0 : UInt8)), ((0 : Int), ((0 : Int), ((0 : Int), ()))))).2.2.1 (List.getD s17 (s19).toNat ((List.replicate 32 (0 : UInt8)), ((0 : Int), ((0 : Int), ((0 : Int), ()))))).2.2.2.1) then
      bif (!(placed_r (List.getD s17 (s19).toNat ((List.replicate 32 (0 : UInt8)), ((0 : Int), ((0 : Int), ((0 : Int), ()))))).2.1 (List.getD s17 (s19).toNat ((List.replicate 32 (0 : UInt8)), ((0 : Int), ((0 : Int), ((0 : Int), ()))))).2.2.1 (List.getD s17 (s19).toNat ((List.replicate 32 (0 : UInt8)), ((0 : Int), ((0 : Int), ((0 : Int), ()))))).2.2.2.1)) then
        ex0 (2 : Int) s17 s18 s19 fragment block at_ h1 h2 s8
      else
      bif (Option.isSome (mfind (beqT (.pair (.arr 32 (.int .u8)) (.pair (.int .i64) .unit))) ((List.getD s17 (s19).toNat ((List.replicate 32 (0 : UInt8)), ((0 : Int), ((0 : Int), ((0 : Int), ()))))).1, ((List.getD s17 (s19).toNat ((List.replicate 32 (0 : UInt8)), ((0 : Int), ((0 : Int), ((0 : Int), ()))))).2.1, ())) h2)) then
        ex0 (8 : Int) s17 s18 s19 fragment block at_ h1 h2 s8
      else
      bif (decide (h2.length < big)) then
      bif (decide ((h1 ++ ([(List.getD s17 (s19).toNat ((List.replicate 32 (0 : UInt8)), ((0 : Int), ((0 : Int), ((0 : Int), ())))))] : List ((List UInt8) × (Int × (Int × (Int × Unit)))))).length ≤ big)) then
      next s3 s17 s18 (addI s19 (1 : Int)) fragment block at_ (h1 ++ ([(List.getD s17 (s19).toNat ((List.replicate 32 (0 : UInt8)), ((0 : Int), ((0 : Int), ((0 : Int), ())))))] : List ((List UInt8) × (Int × (Int × (Int × Unit)))))) (mput (beqT (.pair (.arr 32 (.int .u8)) (.pair (.int .i64) .unit))) ((List.getD s17 (s19).toNat ((List.replicate 32 (0 : UInt8)), ((0 : Int), ((0 : Int), ((0 : Int), ()))))).1, ((List.getD s17 (s19).toNat ((List.replicate 32 (0 : UInt8)), ((0 : Int), ((0 : Int), ((0 : Int), ()))))).2.1, ())) ((h1.length : Nat) : Int) h2) s8
      else fail
      else fail
      else fail
    else
    bif (Option.isSome (mfind (beqT (.pair (.arr 32 (.int .u8)) (.pair (.int .i64) .unit))) ((List.getD s17 (s19).toNat ((List.replicate 32 (0 : UInt8)), ((0 : Int), ((0 : Int), ((0 : Int), ()))))).1, ((List.getD s17 (s19).toNat ((List.replicate 32 (0 : UInt8)), ((0 : Int), ((0 : Int), ((0 : Int), ()))))).2.1, ())) h2)) then
      ex0 (8 : Int) s17 s18 s19 fragment block at_ h1 h2 s8
    else
    bif (decide (h2.length < big)) then
    bif (decide ((h1 ++ ([(List.getD s17 (s19).toNat ((List.replicate 32 (0 : UInt8)), ((0 : Int), ((0 : Int), ((0 : Int), ())))))] : List ((List UInt8) × (Int × (Int × (Int × Unit)))))).length ≤ big)) then
    next s3 s17 s18 (addI s19 (1 : Int)) fragment block at_ (h1 ++ ([(List.getD s17 (s19).toNat ((List.replicate 32 (0 : UInt8)), ((0 : Int), ((0 : Int), ((0 : Int), ())))))] : List ((List UInt8) × (Int × (Int × (Int × Unit)))))) (mput (beqT (.pair (.arr 32 (.int .u8)) (.pair (.int .i64) .unit))) ((List.getD s17 (s19).toNat ((List.replicate 32 (0 : UInt8)), ((0 : Int), ((0 : Int), ((0 : Int), ()))))).1, ((List.getD s17 (s19).toNat ((List.replicate 32 (0 : UInt8)), ((0 : Int), ((0 : Int), ((0 : Int), ()))))).2.1, ())) ((h1.length : Nat) : Int) h2) s8
    else fail
    else fail
    else fail
  else
  ex1 s3 s17 s18 s19 fragment block at_ h1 h2 s8
def fPlace_l1F {X : Type} (F : Nat) (fail : X) (ex0 : Int → List ((List UInt8) × (Int × (Int × (Int × Unit)))) → Int → Int → Int → Int → Int → List ((List UInt8) × (Int × (Int × (Int × Unit)))) → List (((List UInt8) × (Int × Unit)) × Int) → ((List ((List UInt8) × (Int × (Int × (Int × Unit))))) × Unit) → X) (ex1 : Int → List ((List UInt8) × (Int × (Int × (Int × Unit)))) → Int → Int → Int → Int → Int → List ((List UInt8) × (Int × (Int × (Int × Unit)))) → List (((List UInt8) × (Int × Unit)) × Int) → ((List ((List UInt8) × (Int × (Int × (Int × Unit))))) × Unit) → X) : Nat → Int → List ((List UInt8) × (Int × (Int × (Int × Unit)))) → Int → Int → Int → Int → Int → List ((List UInt8) × (Int × (Int × (Int × Unit)))) → List (((List UInt8) × (Int × Unit)) × Int) → ((List ((List UInt8) × (Int × (Int × (Int × Unit))))) × Unit) → X
  | 0, _, _, _, _, _, _, _, _, _, _ => fail
  | m + 1, s3, s17, s18, s19, fragment, block, at_, h1, h2, s8 => fPlace_l1 F fail (fPlace_l1F F fail ex0 ex1 m) ex0 ex1 s3 s17 s18 s19 fragment block at_ h1 h2 s8

def fPlace {X : Type} (F : Nat) (f : ((List ((List UInt8) × (Int × (Int × (Int × Unit))))) × Unit)) (fragment : Int) (block : Int) (at_ : Int) (fail : X) (ret : ((List ((List UInt8) × (Int × (Int × (Int × Unit))))) × Unit) → Int → X) : X :=
  bif (decide (((f.1.length : Nat) : Int) > (4096 : Int))) then
    ret (([] : List ((List UInt8) × (Int × (Int × (Int × Unit))))), ()) (6 : Int)
  else
  fPlace_l1F F fail
    (fun (s3 : Int) (s17 : List ((List UInt8) × (Int × (Int × (Int × Unit))))) (s18 : Int) (s19 : Int) (fragment1 : Int) (block1 : Int) (at_1 : Int) (h1 : List ((List UInt8) × (Int × (Int × (Int × Unit))))) (h2 : List (((List UInt8) × (Int × Unit)) × Int)) (s8 : ((List ((List UInt8) × (Int × (Int × (Int × Unit))))) × Unit)) =>
      bif (s3 != (0 : Int)) then
      ret (([] : List ((List UInt8) × (Int × (Int × (Int × Unit))))), ()) s3
      else fail)
    (fun (s31 : Int) (s171 : List ((List UInt8) × (Int × (Int × (Int × Unit))))) (s181 : Int) (s191 : Int) (fragment2 : Int) (block2 : Int) (at_2 : Int) (h11 : List ((List UInt8) × (Int × (Int × (Int × Unit))))) (h21 : List (((List UInt8) × (Int × Unit)) × Int)) (s81 : ((List ((List UInt8) × (Int × (Int × (Int × Unit))))) × Unit)) =>
      bif (!(between_r fragment2 (0 : Int) (subI ((h11.length : Nat) : Int) (1 : Int)))) then
        ret (([] : List ((List UInt8) × (Int × (Int × (Int × Unit))))), ()) (7 : Int)
      else
      bif ((decide ((0 : Int) ≤ fragment2)) && (decide (fragment2 < ((h11.length : Nat) : Int)))) then
      bif ((List.getD h11 (fragment2).toNat ((List.replicate 32 (0 : UInt8)), ((0 : Int), ((0 : Int), ((0 : Int), ()))))).2.2.1 != (-1 : Int)) then
        ret (([] : List ((List UInt8) × (Int × (Int × (Int × Unit))))), ()) (12 : Int)
      else
      bif ((decide ((0 : Int) ≤ fragment2)) && (decide (fragment2 < ((h11.length : Nat) : Int)))) then
      bif (placed_P (List.getD h11 (fragment2).toNat ((List.replicate 32 (0 : UInt8)), ((0 : Int), ((0 : Int), ((0 : Int), ()))))).2.1 block2 at_2) then
      bif (!(placed_r (List.getD h11 (fragment2).toNat ((List.replicate 32 (0 : UInt8)), ((0 : Int), ((0 : Int), ((0 : Int), ()))))).2.1 block2 at_2)) then
        ret (([] : List ((List UInt8) × (Int × (Int × (Int × Unit))))), ()) (2 : Int)
      else
      bif ((decide ((0 : Int) ≤ fragment2)) && (decide (fragment2 < ((h11.length : Nat) : Int)))) then
      bif ((decide ((0 : Int) ≤ fragment2)) && (decide (fragment2 < (((List.set h11 (fragment2).toNat ((List.getD h11 (fragment2).toNat ((List.replicate 32 (0 : UInt8)), ((0 : Int), ((0 : Int), ((0 : Int), ()))))).1, ((List.getD h11 (fragment2).toNat ((List.replicate 32 (0 : UInt8)), ((0 : Int), ((0 : Int), ((0 : Int), ()))))).2.1, (block2, (List.getD h11 (fragment2).toNat ((List.replicate 32 (0 : UInt8)), ((0 : Int), ((0 : Int), ((0 : Int), ()))))).2.2.2)))).length : Nat) : Int)))) then
      ret ((List.set (List.set h11 (fragment2).toNat ((List.getD h11 (fragment2).toNat ((List.replicate 32 (0 : UInt8)), ((0 : Int), ((0 : Int), ((0 : Int), ()))))).1, ((List.getD h11 (fragment2).toNat ((List.replicate 32 (0 : UInt8)), ((0 : Int), ((0 : Int), ((0 : Int), ()))))).2.1, (block2, (List.getD h11 (fragment2).toNat ((List.replicate 32 (0 : UInt8)), ((0 : Int), ((0 : Int), ((0 : Int), ()))))).2.2.2)))) (fragment2).toNat ((List.getD (List.set h11 (fragment2).toNat ((List.getD h11 (fragment2).toNat ((List.replicate 32 (0 : UInt8)), ((0 : Int), ((0 : Int), ((0 : Int), ()))))).1, ((List.getD h11 (fragment2).toNat ((List.replicate 32 (0 : UInt8)), ((0 : Int), ((0 : Int), ((0 : Int), ()))))).2.1, (block2, (List.getD h11 (fragment2).toNat ((List.replicate 32 (0 : UInt8)), ((0 : Int), ((0 : Int), ((0 : Int), ()))))).2.2.2)))) (fragment2).toNat ((List.replicate 32 (0 : UInt8)), ((0 : Int), ((0 : Int), ((0 : Int), ()))))).1, ((List.getD (List.set h11 (fragment2).toNat ((List.getD h11 (fragment2).toNat ((List.replicate 32 (0 : UInt8)), ((0 : Int), ((0 : Int), ((0 : Int), ()))))).1, ((List.getD h11 (fragment2).toNat ((List.replicate 32 (0 : UInt8)), ((0 : Int), ((0 : Int), ((0 : Int), ()))))).2.1, (block2, (List.getD h11 (fragment2).toNat ((List.replicate 32 (0 : UInt8)), ((0 : Int), ((0 : Int), ((0 : Int), ()))))).2.2.2)))) (fragment2).toNat ((List.replicate 32 (0 : UInt8)), ((0 : Int), ((0 : Int), ((0 : Int), ()))))).2.1, ((List.getD (List.set h11 (fragment2).toNat ((List.getD h11 (fragment2).toNat ((List.replicate 32 (0 : UInt8)), ((0 : Int), ((0 : Int), ((0 : Int), ()))))).1, ((List.getD h11 (fragment2).toNat ((List.replicate 32 (0 : UInt8)), ((0 : Int), ((0 : Int), ((0 : Int), ()))))).2.1, (block2, (List.getD h11 (fragment2).toNat ((List.replicate 32 (0 : UInt8)), ((0 : Int), ((0 : Int), ((0 : Int), ()))))).2.2.2)))) (fragment2).toNat ((List.replicate 32 (0 : UInt8)), ((0 : Int), ((0 : Int), ((0 : Int), ()))))).2.2.1, (at_2, (List.getD (List.set h11 (fragment2).toNat ((List.getD h11 (fragment2).toNat ((List.replicate 32 (0 : UInt8)), ((0 : Int), ((0 : Int), ((0 : Int), ()))))).1, ((List.getD h11 (fragment2).toNat ((List.replicate 32 (0 : UInt8)), ((0 : Int), ((0 : Int), ((0 : Int), ()))))).2.1, (block2, (List.getD h11 (fragment2).toNat ((List.replicate 32 (0 : UInt8)), ((0 : Int), ((0 : Int), ((0 : Int), ()))))).2.2.2)))) (fragment2).toNat ((List.replicate 32 (0 : UInt8)), ((0 : Int), ((0 : Int), ((0 : Int), ()))))).2.2.2.2))))), ()) (0 : Int)
      else fail
      else fail
      else fail
      else fail
      else fail)
    F (0 : Int) f.1 ((f.1.length : Nat) : Int) (0 : Int) fragment block at_ ([] : List ((List UInt8) × (Int × (Int × (Int × Unit))))) ([] : List (((List UInt8) × (Int × Unit)) × Int)) (([] : List ((List UInt8) × (Int × (Int × (Int × Unit))))), ())

def fStored_l1 {X : Type} (F : Nat) (fail : X) (next : Int → List ((List UInt8) × (Int × (Int × (Int × Unit)))) → Int → Int → List ((List UInt8) × (Int × (Int × (Int × Unit)))) → List (((List UInt8) × (Int × Unit)) × Int) → X) (ex0 : Int → List ((List UInt8) × (Int × (Int × (Int × Unit)))) → Int → Int → List ((List UInt8) × (Int × (Int × (Int × Unit)))) → List (((List UInt8) × (Int × Unit)) × Int) → X) (ex1 : Int → List ((List UInt8) × (Int × (Int × (Int × Unit)))) → Int → Int → List ((List UInt8) × (Int × (Int × (Int × Unit)))) → List (((List UInt8) × (Int × Unit)) × Int) → X) (s3 : Int) (s17 : List ((List UInt8) × (Int × (Int × (Int × Unit))))) (s18 : Int) (s19 : Int) (h1 : List ((List UInt8) × (Int × (Int × (Int × Unit))))) (h2 : List (((List UInt8) × (Int × Unit)) × Int)) : X :=
  bif (decide (s19 < s18)) then
    bif ((decide ((0 : Int) ≤ s19)) && (decide (s19 < ((s17.length : Nat) : Int)))) then
    bif (!(between_r (List.getD s17 (s19).toNat ((List.replicate 32 (0 : UInt8)), ((0 : Int), ((0 : Int), ((0 : Int), ()))))).2.1 (1 : Int) (65536 : Int))) then
      ex0 (2 : Int) s17 s18 s19 h1 h2
    else
    bif ((List.getD s17 (s19).toNat ((List.replicate 32 (0 : UInt8)), ((0 : Int), ((0 : Int), ((0 : Int), ()))))).2.2.1 != (-1 : Int)) then
      bif (placed_P (List.getD s17 (s19).toNat ((List.replicate 32 (0 : UInt8)), ((0 : Int), ((0 : Int), ((0 : Int), ()))))).2.1 (List.getD s17 (s19).toNat ((List.replicate 32 (0 : UInt8)), ((0 : Int), ((0 : Int), ((0 : Int), ()))))).2.2.1 (List.getD s17 (s19).toNat ((List.replicate 32 (0 : UInt8)), ((0 : Int), ((0 : Int), ((0 : Int), ()))))).2.2.2.1) then
      bif (!(placed_r (List.getD s17 (s19).toNat ((List.replicate 32 (0 : UInt8)), ((0 : Int), ((0 : Int), ((0 : Int), ()))))).2.1 (List.getD s17 (s19).toNat ((List.replicate 32 (0 : UInt8)), ((0 : Int), ((0 : Int), ((0 : Int), ()))))).2.2.1 (List.getD s17 (s19).toNat ((List.replicate 32 (0 : UInt8)), ((0 : Int), ((0 : Int), ((0 : Int), ()))))).2.2.2.1)) then
        ex0 (2 : Int) s17 s18 s19 h1 h2
      else
      bif (Option.isSome (mfind (beqT (.pair (.arr 32 (.int .u8)) (.pair (.int .i64) .unit))) ((List.getD s17 (s19).toNat ((List.replicate 32 (0 : UInt8)), ((0 : Int), ((0 : Int), ((0 : Int), ()))))).1, ((List.getD s17 (s19).toNat ((List.replicate 32 (0 : UInt8)), ((0 : Int), ((0 : Int), ((0 : Int), ()))))).2.1, ())) h2)) then
        ex0 (8 : Int) s17 s18 s19 h1 h2
      else
      bif (decide (h2.length < big)) then
      bif (decide ((h1 ++ ([(List.getD s17 (s19).toNat ((List.replicate 32 (0 : UInt8)), ((0 : Int), ((0 : Int), ((0 : Int), ())))))] : List ((List UInt8) × (Int × (Int × (Int × Unit)))))).length ≤ big)) then
      next s3 s17 s18 (addI s19 (1 : Int)) (h1 ++ ([(List.getD s17 (s19).toNat ((List.replicate 32 (0 : UInt8)), ((0 : Int), ((0 : Int), ((0 : Int), ())))))] : List ((List UInt8) × (Int × (Int × (Int × Unit)))))) (mput (beqT (.pair (.arr 32 (.int .u8)) (.pair (.int .i64) .unit))) ((List.getD s17 (s19).toNat ((List.replicate 32 (0 : UInt8)), ((0 : Int), ((0 : Int), ((0 : Int), ()))))).1, ((List.getD s17 (s19).toNat ((List.replicate 32 (0 : UInt8)), ((0 : Int), ((0 : Int), ((0 : Int), ()))))).2.1, ())) ((h1.length : Nat) : Int) h2)
      else fail
      else fail
      else fail
    else
    bif ((List.getD s17 (s19).toNat ((List.replicate 32 (0 : UInt8)), ((0 : Int), ((0 : Int), ((0 : Int), ()))))).2.2.2.1 != (0 : Int)) then
      bif (placed_P (List.getD s17 (s19).toNat ((List.replicate 32 (0 : UInt8)), ((0 : Int), ((0 : Int), ((0 : Int), ()))))).2.1 (List.getD s17 (s19).toNat ((List.replicate 32 (0 : UInt8)), ((0 : Int), ((0 : Int), ((0 : Int), ()))))).2.2.1 (List.getD s17 (s19).toNat ((List.replicate 32 (0 : UInt8)), ((0 : Int), ((0 : Int), ((0 : Int), ()))))).2.2.2.1) then
      bif (!(placed_r (List.getD s17 (s19).toNat ((List.replicate 32 (0 : UInt8)), ((0 : Int), ((0 : Int), ((0 : Int), ()))))).2.1 (List.getD s17 (s19).toNat ((List.replicate 32 (0 : UInt8)), ((0 : Int), ((0 : Int), ((0 : Int), ()))))).2.2.1 (List.getD s17 (s19).toNat ((List.replicate 32 (0 : UInt8)), ((0 : Int), ((0 : Int), ((0 : Int), ()))))).2.2.2.1)) then
        ex0 (2 : Int) s17 s18 s19 h1 h2
      else
      bif (Option.isSome (mfind (beqT (.pair (.arr 32 (.int .u8)) (.pair (.int .i64) .unit))) ((List.getD s17 (s19).toNat ((List.replicate 32 (0 : UInt8)), ((0 : Int), ((0 : Int), ((0 : Int), ()))))).1, ((List.getD s17 (s19).toNat ((List.replicate 32 (0 : UInt8)), ((0 : Int), ((0 : Int), ((0 : Int), ()))))).2.1, ())) h2)) then
        ex0 (8 : Int) s17 s18 s19 h1 h2
      else
      bif (decide (h2.length < big)) then
      bif (decide ((h1 ++ ([(List.getD s17 (s19).toNat ((List.replicate 32 (0 : UInt8)), ((0 : Int), ((0 : Int), ((0 : Int), ())))))] : List ((List UInt8) × (Int × (Int × (Int × Unit)))))).length ≤ big)) then
      next s3 s17 s18 (addI s19 (1 : Int)) (h1 ++ ([(List.getD s17 (s19).toNat ((List.replicate 32 (0 : UInt8)), ((0 : Int), ((0 : Int), ((0 : Int), ())))))] : List ((List UInt8) × (Int × (Int × (Int × Unit)))))) (mput (beqT (.pair (.arr 32 (.int .u8)) (.pair (.int .i64) .unit))) ((List.getD s17 (s19).toNat ((List.replicate 32 (0 : UInt8)), ((0 : Int), ((0 : Int), ((0 : Int), ()))))).1, ((List.getD s17 (s19).toNat ((List.replicate 32 (0 : UInt8)), ((0 : Int), ((0 : Int), ((0 : Int), ()))))).2.1, ())) ((h1.length : Nat) : Int) h2)
      else fail
      else fail
      else fail
    else
    bif (Option.isSome (mfind (beqT (.pair (.arr 32 (.int .u8)) (.pair (.int .i64) .unit))) ((List.getD s17 (s19).toNat ((List.replicate 32 (0 : UInt8)), ((0 : Int), ((0 : Int), ((0 : Int), ()))))).1, ((List.getD s17 (s19).toNat ((List.replicate 32 (0 : UInt8)), ((0 : Int), ((0 : Int), ((0 : Int), ()))))).2.1, ())) h2)) then
      ex0 (8 : Int) s17 s18 s19 h1 h2
    else
    bif (decide (h2.length < big)) then
    bif (decide ((h1 ++ ([(List.getD s17 (s19).toNat ((List.replicate 32 (0 : UInt8)), ((0 : Int), ((0 : Int), ((0 : Int), ())))))] : List ((List UInt8) × (Int × (Int × (Int × Unit)))))).length ≤ big)) then
    next s3 s17 s18 (addI s19 (1 : Int)) (h1 ++ ([(List.getD s17 (s19).toNat ((List.replicate 32 (0 : UInt8)), ((0 : Int), ((0 : Int), ((0 : Int), ())))))] : List ((List UInt8) × (Int × (Int × (Int × Unit)))))) (mput (beqT (.pair (.arr 32 (.int .u8)) (.pair (.int .i64) .unit))) ((List.getD s17 (s19).toNat ((List.replicate 32 (0 : UInt8)), ((0 : Int), ((0 : Int), ((0 : Int), ()))))).1, ((List.getD s17 (s19).toNat ((List.replicate 32 (0 : UInt8)), ((0 : Int), ((0 : Int), ((0 : Int), ()))))).2.1, ())) ((h1.length : Nat) : Int) h2)
    else fail
    else fail
    else fail
  else
  ex1 s3 s17 s18 s19 h1 h2
def fStored_l1F {X : Type} (F : Nat) (fail : X) (ex0 : Int → List ((List UInt8) × (Int × (Int × (Int × Unit)))) → Int → Int → List ((List UInt8) × (Int × (Int × (Int × Unit)))) → List (((List UInt8) × (Int × Unit)) × Int) → X) (ex1 : Int → List ((List UInt8) × (Int × (Int × (Int × Unit)))) → Int → Int → List ((List UInt8) × (Int × (Int × (Int × Unit)))) → List (((List UInt8) × (Int × Unit)) × Int) → X) : Nat → Int → List ((List UInt8) × (Int × (Int × (Int × Unit)))) → Int → Int → List ((List UInt8) × (Int × (Int × (Int × Unit)))) → List (((List UInt8) × (Int × Unit)) × Int) → X
  | 0, _, _, _, _, _, _ => fail
  | m + 1, s3, s17, s18, s19, h1, h2 => fStored_l1 F fail (fStored_l1F F fail ex0 ex1 m) ex0 ex1 s3 s17 s18 s19 h1 h2

def fStored_l2 {X : Type} (F : Nat) (fail : X) (next : Int → Int → Int → List ((List UInt8) × (Int × (Int × (Int × Unit)))) → X) (ex0 : Int → Int → Int → List ((List UInt8) × (Int × (Int × (Int × Unit)))) → X) (sum : Int) (s21 : Int) (s22 : Int) (s20 : List ((List UInt8) × (Int × (Int × (Int × Unit))))) : X :=
  bif (decide (s22 < s21)) then
    bif ((decide ((0 : Int) ≤ s22)) && (decide (s22 < ((s20.length : Nat) : Int)))) then
    bif ((List.getD s20 (s22).toNat ((List.replicate 32 (0 : UInt8)), ((0 : Int), ((0 : Int), ((0 : Int), ()))))).2.2.1 != (-1 : Int)) then
      next (addI sum (List.getD s20 (s22).toNat ((List.replicate 32 (0 : UInt8)), ((0 : Int), ((0 : Int), ((0 : Int), ()))))).2.1) s21 (addI s22 (1 : Int)) s20
    else
    next sum s21 (addI s22 (1 : Int)) s20
    else fail
  else
  ex0 sum s21 s22 s20
def fStored_l2F {X : Type} (F : Nat) (fail : X) (ex0 : Int → Int → Int → List ((List UInt8) × (Int × (Int × (Int × Unit)))) → X) : Nat → Int → Int → Int → List ((List UInt8) × (Int × (Int × (Int × Unit)))) → X
  | 0, _, _, _, _ => fail
  | m + 1, sum, s21, s22, s20 => fStored_l2 F fail (fStored_l2F F fail ex0 m) ex0 sum s21 s22 s20

def fStored {X : Type} (F : Nat) (f : ((List ((List UInt8) × (Int × (Int × (Int × Unit))))) × Unit)) (fail : X) (ret : Int → Int → X) : X :=
  bif (decide (((f.1.length : Nat) : Int) > (4096 : Int))) then
    ret (0 : Int) (6 : Int)
  else
  fStored_l1F F fail
    (fun (s3 : Int) (s17 : List ((List UInt8) × (Int × (Int × (Int × Unit))))) (s18 : Int) (s19 : Int) (h1 : List ((List UInt8) × (Int × (Int × (Int × Unit))))) (h2 : List (((List UInt8) × (Int × Unit)) × Int)) =>
      bif (s3 != (0 : Int)) then
      ret (0 : Int) s3
      else fail)
    (fun (s31 : Int) (s171 : List ((List UInt8) × (Int × (Int × (Int × Unit))))) (s181 : Int) (s191 : Int) (h11 : List ((List UInt8) × (Int × (Int × (Int × Unit))))) (h21 : List (((List UInt8) × (Int × Unit)) × Int)) =>
      fStored_l2F F fail
        (fun (sum : Int) (s21 : Int) (s22 : Int) (s20 : List ((List UInt8) × (Int × (Int × (Int × Unit))))) =>
          ret sum (0 : Int))
        F (0 : Int) ((h11.length : Nat) : Int) (0 : Int) h11)
    F (0 : Int) f.1 ((f.1.length : Nat) : Int) (0 : Int) ([] : List ((List UInt8) × (Int × (Int × (Int × Unit))))) ([] : List (((List UInt8) × (Int × Unit)) × Int))

def qFew {X : Type} (F : Nat) (f : ((List ((List UInt8) × (Int × (Int × (Int × Unit))))) × Unit)) (fail : X) (ret : Bool → X) : X :=
  ret (decide (((f.1.length : Nat) : Int) ≤ (100 : Int)))

def qfind_l1 {X : Type} (F : Nat) (fail : X) (next : List ((List UInt8) × (Int × (Int × (Int × Unit)))) → Int → Int → Int → List UInt8 → X) (ex0 : List ((List UInt8) × (Int × (Int × (Int × Unit)))) → Int → Int → Int → List UInt8 → X) (ex1 : List ((List UInt8) × (Int × (Int × (Int × Unit)))) → Int → Int → Int → List UInt8 → X) (l : List ((List UInt8) × (Int × (Int × (Int × Unit))))) (length : Int) (s6 : Int) (i : Int) (d_ : List UInt8) : X :=
  bif (decide (i < ((l.length : Nat) : Int))) then
    bif ((decide ((0 : Int) ≤ i)) && (decide (i < ((l.length : Nat) : Int)))) then
    bif (beqT (.arr 32 (.int .u8)) (List.getD l (i).toNat ((List.replicate 32 (0 : UInt8)), ((0 : Int), ((0 : Int), ((0 : Int), ()))))).1 d_) then
      bif ((decide ((0 : Int) ≤ i)) && (decide (i < ((l.length : Nat) : Int)))) then
      bif ((List.getD l (i).toNat ((List.replicate 32 (0 : UInt8)), ((0 : Int), ((0 : Int), ((0 : Int), ()))))).2.1 == length) then
        ex0 l length i i d_
      else
      next l length s6 (addI i (1 : Int)) d_
      else fail
    else
    next l length s6 (addI i (1 : Int)) d_
    else fail
  else
  ex1 l length s6 i d_
def qfind_l1F {X : Type} (F : Nat) (fail : X) (ex0 : List ((List UInt8) × (Int × (Int × (Int × Unit)))) → Int → Int → Int → List UInt8 → X) (ex1 : List ((List UInt8) × (Int × (Int × (Int × Unit)))) → Int → Int → Int → List UInt8 → X) : Nat → List ((List UInt8) × (Int × (Int × (Int × Unit)))) → Int → Int → Int → List UInt8 → X
  | 0, _, _, _, _, _ => fail
  | m + 1, l, length, s6, i, d_ => qfind_l1 F fail (qfind_l1F F fail ex0 ex1 m) ex0 ex1 l length s6 i d_

def qfind {X : Type} (F : Nat) (l : List ((List UInt8) × (Int × (Int × (Int × Unit))))) (d_ : List UInt8) (length : Int) (fail : X) (ret : Int → X) : X :=
  qfind_l1F F fail
    (fun (l1 : List ((List UInt8) × (Int × (Int × (Int × Unit))))) (length1 : Int) (s6 : Int) (i : Int) (d_1 : List UInt8) =>
      ret s6)
    (fun (l2 : List ((List UInt8) × (Int × (Int × (Int × Unit))))) (length2 : Int) (s61 : Int) (i1 : Int) (d_2 : List UInt8) =>
      ret (-1 : Int))
    F l length (0 : Int) (0 : Int) d_

def qplace {X : Type} (F : Nat) (length : Int) (block : Int) (at_ : Int) (fail : X) (ret : Bool → X) : X :=
  bif (decide (block ≥ (0 : Int))) then
    bif (decide (block < (4096 : Int))) then
      bif (decide (at_ ≥ (0 : Int))) then
        ret (decide (at_ ≤ (subI (65536 : Int) length)))
      else
      ret false
    else
    ret false
  else
  ret false

def qCheck_l1 {X : Type} (F : Nat) (fail : X) (next : Int → Int → ((List ((List UInt8) × (Int × (Int × (Int × Unit))))) × Unit) → X) (ex0 : Int → Int → ((List ((List UInt8) × (Int × (Int × (Int × Unit))))) × Unit) → X) (ex1 : Int → Int → ((List ((List UInt8) × (Int × (Int × (Int × Unit))))) × Unit) → X) (s2 : Int) (i : Int) (f : ((List ((List UInt8) × (Int × (Int × (Int × Unit))))) × Unit)) : X :=
  bif (decide (i < ((f.1.length : Nat) : Int))) then
    bif ((decide ((0 : Int) ≤ i)) && (decide (i < ((f.1.length : Nat) : Int)))) then
    bif (decide ((List.getD f.1 (i).toNat ((List.replicate 32 (0 : UInt8)), ((0 : Int), ((0 : Int), ((0 : Int), ()))))).2.1 < (1 : Int))) then
      ex0 (2 : Int) i f
    else
    bif (decide ((List.getD f.1 (i).toNat ((List.replicate 32 (0 : UInt8)), ((0 : Int), ((0 : Int), ((0 : Int), ()))))).2.1 > (65536 : Int))) then
      ex0 (2 : Int) i f
    else
    bif ((List.getD f.1 (i).toNat ((List.replicate 32 (0 : UInt8)), ((0 : Int), ((0 : Int), ((0 : Int), ()))))).2.2.1 != (-1 : Int)) then
      bif (qplace_P (List.getD f.1 (i).toNat ((List.replicate 32 (0 : UInt8)), ((0 : Int), ((0 : Int), ((0 : Int), ()))))).2.1 (List.getD f.1 (i).toNat ((List.replicate 32 (0 : UInt8)), ((0 : Int), ((0 : Int), ((0 : Int), ()))))).2.2.1 (List.getD f.1 (i).toNat ((List.replicate 32 (0 : UInt8)), ((0 : Int), ((0 : Int), ((0 : Int), ()))))).2.2.2.1) then
      bif (!(qplace_r (List.getD f.1 (i).toNat ((List.replicate 32 (0 : UInt8)), ((0 : Int), ((0 : Int), ((0 : Int), ()))))).2.1 (List.getD f.1 (i).toNat ((List.replicate 32 (0 : UInt8)), ((0 : Int), ((0 : Int), ((0 : Int), ()))))).2.2.1 (List.getD f.1 (i).toNat ((List.replicate 32 (0 : UInt8)), ((0 : Int), ((0 : Int), ((0 : Int), ()))))).2.2.2.1)) then
        ex0 (2 : Int) i f
      else
      bif ((decide ((0 : Int) ≤ i)) && (decide (i ≤ ((f.1.length : Nat) : Int)))) then
      bif (qfind_P (List.take (i).toNat f.1) (List.getD f.1 (i).toNat ((List.replicate 32 (0 : UInt8)), ((0 : Int), ((0 : Int), ((0 : Int), ()))))).1 (List.getD f.1 (i).toNat ((List.replicate 32 (0 : UInt8)), ((0 : Int), ((0 : Int), ((0 : Int), ()))))).2.1) then
      bif (decide ((qfind_r (List.take (i).toNat f.1) (List.getD f.1 (i).toNat ((List.replicate 32 (0 : UInt8)), ((0 : Int), ((0 : Int), ((0 : Int), ()))))).1 (List.getD f.1 (i).toNat ((List.replicate 32 (0 : UInt8)), ((0 : Int), ((0 : Int), ((0 : Int), ()))))).2.1) ≥ (0 : Int))) then
        ex0 (8 : Int) i f
      else
      next s2 (addI i (1 : Int)) f
      else fail
      else fail
      else fail
    else
    bif ((List.getD f.1 (i).toNat ((List.replicate 32 (0 : UInt8)), ((0 : Int), ((0 : Int), ((0 : Int), ()))))).2.2.2.1 != (0 : Int)) then
      bif (qplace_P (List.getD f.1 (i).toNat ((List.replicate 32 (0 : UInt8)), ((0 : Int), ((0 : Int), ((0 : Int), ()))))).2.1 (List.getD f.1 (i).toNat ((List.replicate 32 (0 : UInt8)), ((0 : Int), ((0 : Int), ((0 : Int), ()))))).2.2.1 (List.getD f.1 (i).toNat ((List.replicate 32 (0 : UInt8)), ((0 : Int), ((0 : Int), ((0 : Int), ()))))).2.2.2.1) then
      bif (!(qplace_r (List.getD f.1 (i).toNat ((List.replicate 32 (0 : UInt8)), ((0 : Int), ((0 : Int), ((0 : Int), ()))))).2.1 (List.getD f.1 (i).toNat ((List.replicate 32 (0 : UInt8)), ((0 : Int), ((0 : Int), ((0 : Int), ()))))).2.2.1 (List.getD f.1 (i).toNat ((List.replicate 32 (0 : UInt8)), ((0 : Int), ((0 : Int), ((0 : Int), ()))))).2.2.2.1)) then
        ex0 (2 : Int) i f
      else
      bif ((decide ((0 : Int) ≤ i)) && (decide (i ≤ ((f.1.length : Nat) : Int)))) then
      bif (qfind_P (List.take (i).toNat f.1) (List.getD f.1 (i).toNat ((List.replicate 32 (0 : UInt8)), ((0 : Int), ((0 : Int), ((0 : Int), ()))))).1 (List.getD f.1 (i).toNat ((List.replicate 32 (0 : UInt8)), ((0 : Int), ((0 : Int), ((0 : Int), ()))))).2.1) then
      bif (decide ((qfind_r (List.take (i).toNat f.1) (List.getD f.1 (i).toNat ((List.replicate 32 (0 : UInt8)), ((0 : Int), ((0 : Int), ((0 : Int), ()))))).1 (List.getD f.1 (i).toNat ((List.replicate 32 (0 : UInt8)), ((0 : Int), ((0 : Int), ((0 : Int), ()))))).2.1) ≥ (0 : Int))) then
        ex0 (8 : Int) i f
      else
      next s2 (addI i (1 : Int)) f
      else fail
      else fail
      else fail
    else
    bif ((decide ((0 : Int) ≤ i)) && (decide (i ≤ ((f.1.length : Nat) : Int)))) then
    bif (qfind_P (List.take (i).toNat f.1) (List.getD f.1 (i).toNat ((List.replicate 32 (0 : UInt8)), ((0 : Int), ((0 : Int), ((0 : Int), ()))))).1 (List.getD f.1 (i).toNat ((List.replicate 32 (0 : UInt8)), ((0 : Int), ((0 : Int), ((0 : Int), ()))))).2.1) then
    bif (decide ((qfind_r (List.take (i).toNat f.1) (List.getD f.1 (i).toNat ((List.replicate 32 (0 : UInt8)), ((0 : Int), ((0 : Int), ((0 : Int), ()))))).1 (List.getD f.1 (i).toNat ((List.replicate 32 (0 : UInt8)), ((0 : Int), ((0 : Int), ((0 : Int), ()))))).2.1) ≥ (0 : Int))) then
      ex0 (8 : Int) i f
    else
    next s2 (addI i (1 : Int)) f
    else fail
    else fail
    else fail
  else
  ex1 s2 i f
def qCheck_l1F {X : Type} (F : Nat) (fail : X) (ex0 : Int → Int → ((List ((List UInt8) × (Int × (Int × (Int × Unit))))) × Unit) → X) (ex1 : Int → Int → ((List ((List UInt8) × (Int × (Int × (Int × Unit))))) × Unit) → X) : Nat → Int → Int → ((List ((List UInt8) × (Int × (Int × (Int × Unit))))) × Unit) → X
  | 0, _, _, _ => fail
  | m + 1, s2, i, f => qCheck_l1 F fail (qCheck_l1F F fail ex0 ex1 m) ex0 ex1 s2 i f

def qCheck {X : Type} (F : Nat) (f : ((List ((List UInt8) × (Int × (Int × (Int × Unit))))) × Unit)) (fail : X) (ret : Int → X) : X :=
  bif (decide (((f.1.length : Nat) : Int) > (4096 : Int))) then
    ret (6 : Int)
  else
  qCheck_l1F F fail
    (fun (s2 : Int) (i : Int) (f1 : ((List ((List UInt8) × (Int × (Int × (Int × Unit))))) × Unit)) =>
      ret s2)
    (fun (s21 : Int) (i1 : Int) (f2 : ((List ((List UInt8) × (Int × (Int × (Int × Unit))))) × Unit)) =>
      ret (0 : Int))
    F (0 : Int) (0 : Int) f

def qFind {X : Type} (F : Nat) (f : ((List ((List UInt8) × (Int × (Int × (Int × Unit))))) × Unit)) (d_ : List UInt8) (length : Int) (fail : X) (ret : Int → Bool → X) : X :=
  bif (qCheck_P f) then
  bif ((qCheck_r f) != (0 : Int)) then
    ret (0 : Int) false
  else
  bif (qfind_P f.1 d_ length) then
  ret (maxI (qfind_r f.1 d_ length) (0 : Int)) (decide ((qfind_r f.1 d_ length) ≥ (0 : Int)))
  else fail
  else fail

def qCopy {X : Type} (F : Nat) (f : ((List ((List UInt8) × (Int × (Int × (Int × Unit))))) × Unit)) (fail : X) (ret : ((List ((List UInt8) × (Int × (Int × (Int × Unit))))) × Unit) → X) : X :=
  bif (decide (f.1.length ≤ big)) then
  ret (f.1, ())
  else fail

def qAdd {X : Type} (F : Nat) (f : ((List ((List UInt8) × (Int × (Int × (Int × Unit))))) × Unit)) (data : List UInt8) (fail : X) (ret : ((List ((List UInt8) × (Int × (Int × (Int × Unit))))) × Unit) → Int → Bool → Int → X) : X :=
  bif (qCheck_P f) then
  bif ((qCheck_r f) != (0 : Int)) then
    ret (([] : List ((List UInt8) × (Int × (Int × (Int × Unit))))), ()) (0 : Int) false (qCheck_r f)
  else
  bif (decide (((data.length : Nat) : Int) > (65536 : Int))) then
    ret (([] : List ((List UInt8) × (Int × (Int × (Int × Unit))))), ()) (0 : Int) false (5 : Int)
  else
  bif (((data.length : Nat) : Int) == (0 : Int)) then
    ret (([] : List ((List UInt8) × (Int × (Int × (Int × Unit))))), ()) (0 : Int) false (1 : Int)
  else
  bif (decide (f.1.length ≤ big)) then
  bif (rSum_P data) then
  bif (qfind_P f.1 (rSum_r data) ((data.length : Nat) : Int)) then
  bif (decide ((qfind_r f.1 (rSum_r data) ((data.length : Nat) : Int)) ≥ (0 : Int))) then
    ret (f.1, ()) (qfind_r f.1 (rSum_r data) ((data.length : Nat) : Int)) false (0 : Int)
  else
  bif (decide (((f.1.length : Nat) : Int) ≥ (4096 : Int))) then
    ret (([] : List ((List UInt8) × (Int × (Int × (Int × Unit))))), ()) (0 : Int) false (11 : Int)
  else
  bif (decide ((f.1 ++ ([((rSum_r data), (((data.length : Nat) : Int), ((-1 : Int), ((0 : Int), ()))))] : List ((List UInt8) × (Int × (Int × (Int × Unit)))))).length ≤ big)) then
  ret ((f.1 ++ ([((rSum_r data), (((data.length : Nat) : Int), ((-1 : Int), ((0 : Int), ()))))] : List ((List UInt8) × (Int × (Int × (Int × Unit)))))), ()) ((f.1.length : Nat) : Int) true (0 : Int)
  else fail
  else fail
  else fail
  else fail
  else fail

def qPlace {X : Type} (F : Nat) (f : ((List ((List UInt8) × (Int × (Int × (Int × Unit))))) × Unit)) (fragment : Int) (block : Int) (at_ : Int) (fail : X) (ret : ((List ((List UInt8) × (Int × (Int × (Int × Unit))))) × Unit) → Int → X) : X :=
  bif (qCheck_P f) then
  bif ((qCheck_r f) != (0 : Int)) then
    ret (([] : List ((List UInt8) × (Int × (Int × (Int × Unit))))), ()) (qCheck_r f)
  else
  bif (decide (fragment < (0 : Int))) then
    ret (([] : List ((List UInt8) × (Int × (Int × (Int × Unit))))), ()) (7 : Int)
  else
  bif (decide (fragment ≥ ((f.1.length : Nat) : Int))) then
    ret (([] : List ((List UInt8) × (Int × (Int × (Int × Unit))))), ()) (7 : Int)
  else
  bif ((decide ((0 : Int) ≤ fragment)) && (decide (fragment < ((f.1.length : Nat) : Int)))) then
  bif ((List.getD f.1 (fragment).toNat ((List.replicate 32 (0 : UInt8)), ((0 : Int), ((0 : Int), ((0 : Int), ()))))).2.2.1 != (-1 : Int)) then
    ret (([] : List ((List UInt8) × (Int × (Int × (Int × Unit))))), ()) (12 : Int)
  else
  bif ((decide ((0 : Int) ≤ fragment)) && (decide (fragment < ((f.1.length : Nat) : Int)))) then
  bif (qplace_P (List.getD f.1 (fragment).toNat ((List.replicate 32 (0 : UInt8)), ((0 : Int), ((0 : Int), ((0 : Int), ()))))).2.1 block at_) then
  bif (!(qplace_r (List.getD f.1 (fragment).toNat ((List.replicate 32 (0 : UInt8)), ((0 : Int), ((0 : Int), ((0 : Int), ()))))).2.1 block at_)) then
    ret (([] : List ((List UInt8) × (Int × (Int × (Int × Unit))))), ()) (2 : Int)
  else
  bif (decide (f.1.length ≤ big)) then
  bif ((decide ((0 : Int) ≤ fragment)) && (decide (fragment < ((f.1.length : Nat) : Int)))) then
  bif ((decide ((0 : Int) ≤ fragment)) && (decide (fragment < (((List.set f.1 (fragment).toNat ((List.getD f.1 (fragment).toNat ((List.replicate 32 (0 : UInt8)), ((0 : Int), ((0 : Int), ((0 : Int), ()))))).1, ((List.getD f.1 (fragment).toNat ((List.replicate 32 (0 : UInt8)), ((0 : Int), ((0 : Int), ((0 : Int), ()))))).2.1, (block, (List.getD f.1 (fragment).toNat ((List.replicate 32 (0 : UInt8)), ((0 : Int), ((0 : Int), ((0 : Int), ()))))).2.2.2)))).length : Nat) : Int)))) then
  ret ((List.set (List.set f.1 (fragment).toNat ((List.getD f.1 (fragment).toNat ((List.replicate 32 (0 : UInt8)), ((0 : Int), ((0 : Int), ((0 : Int), ()))))).1, ((List.getD f.1 (fragment).toNat ((List.replicate 32 (0 : UInt8)), ((0 : Int), ((0 : Int), ((0 : Int), ()))))).2.1, (block, (List.getD f.1 (fragment).toNat ((List.replicate 32 (0 : UInt8)), ((0 : Int), ((0 : Int), ((0 : Int), ()))))).2.2.2)))) (fragment).toNat ((List.getD (List.set f.1 (fragment).toNat ((List.getD f.1 (fragment).toNat ((List.replicate 32 (0 : UInt8)), ((0 : Int), ((0 : Int), ((0 : Int), ()))))).1, ((List.getD f.1 (fragment).toNat ((List.replicate 32 (0 : UInt8)), ((0 : Int), ((0 : Int), ((0 : Int), ()))))).2.1, (block, (List.getD f.1 (fragment).toNat ((List.replicate 32 (0 : UInt8)), ((0 : Int), ((0 : Int), ((0 : Int), ()))))).2.2.2)))) (fragment).toNat ((List.replicate 32 (0 : UInt8)), ((0 : Int), ((0 : Int), ((0 : Int), ()))))).1, ((List.getD (List.set f.1 (fragment).toNat ((List.getD f.1 (fragment).toNat ((List.replicate 32 (0 : UInt8)), ((0 : Int), ((0 : Int), ((0 : Int), ()))))).1, ((List.getD f.1 (fragment).toNat ((List.replicate 32 (0 : UInt8)), ((0 : Int), ((0 : Int), ((0 : Int), ()))))).2.1, (block, (List.getD f.1 (fragment).toNat ((List.replicate 32 (0 : UInt8)), ((0 : Int), ((0 : Int), ((0 : Int), ()))))).2.2.2)))) (fragment).toNat ((List.replicate 32 (0 : UInt8)), ((0 : Int), ((0 : Int), ((0 : Int), ()))))).2.1, ((List.getD (List.set f.1 (fragment).toNat ((List.getD f.1 (fragment).toNat ((List.replicate 32 (0 : UInt8)), ((0 : Int), ((0 : Int), ((0 : Int), ()))))).1, ((List.getD f.1 (fragment).toNat ((List.replicate 32 (0 : UInt8)), ((0 : Int), ((0 : Int), ((0 : Int), ()))))).2.1, (block, (List.getD f.1 (fragment).toNat ((List.replicate 32 (0 : UInt8)), ((0 : Int), ((0 : Int), ((0 : Int), ()))))).2.2.2)))) (fragment).toNat ((List.replicate 32 (0 : UInt8)), ((0 : Int), ((0 : Int), ((0 : Int), ()))))).2.2.1, (at_, (List.getD (List.set f.1 (fragment).toNat ((List.getD f.1 (fragment).toNat ((List.replicate 32 (0 : UInt8)), ((0 : Int), ((0 : Int), ((0 : Int), ()))))).1, ((List.getD f.1 (fragment).toNat ((List.replicate 32 (0 : UInt8)), ((0 : Int), ((0 : Int), ((0 : Int), ()))))).2.1, (block, (List.getD f.1 (fragment).toNat ((List.replicate 32 (0 : UInt8)), ((0 : Int), ((0 : Int), ((0 : Int), ()))))).2.2.2)))) (fragment).toNat ((List.replicate 32 (0 : UInt8)), ((0 : Int), ((0 : Int), ((0 : Int), ()))))).2.2.2.2))))), ()) (0 : Int)
  else fail
  else fail
  else fail
  else fail
  else fail
  else fail
  else fail

def qStored_l1 {X : Type} (F : Nat) (fail : X) (next : Int → Int → ((List ((List UInt8) × (Int × (Int × (Int × Unit))))) × Unit) → X) (ex0 : Int → Int → ((List ((List UInt8) × (Int × (Int × (Int × Unit))))) × Unit) → X) (n : Int) (i : Int) (f : ((List ((List UInt8) × (Int × (Int × (Int × Unit))))) × Unit)) : X :=
  bif (decide (i < ((f.1.length : Nat) : Int))) then
    bif ((decide ((0 : Int) ≤ i)) && (decide (i < ((f.1.length : Nat) : Int)))) then
    bif (decide ((List.getD f.1 (i).toNat ((List.replicate 32 (0 : UInt8)), ((0 : Int), ((0 : Int), ((0 : Int), ()))))).2.2.1 ≥ (0 : Int))) then
      bif ((decide ((0 : Int) ≤ i)) && (decide (i < ((f.1.length : Nat) : Int)))) then
      next (addI n (List.getD f.1 (i).toNat ((List.replicate 32 (0 : UInt8)), ((0 : Int), ((0 : Int), ((0 : Int), ()))))).2.1) (addI i (1 : Int)) f
      else fail
    else
    next n (addI i (1 : Int)) f
    else fail
  else
  ex0 n i f
def qStored_l1F {X : Type} (F : Nat) (fail : X) (ex0 : Int → Int → ((List ((List UInt8) × (Int × (Int × (Int × Unit))))) × Unit) → X) : Nat → Int → Int → ((List ((List UInt8) × (Int × (Int × (Int × Unit))))) × Unit) → X
  | 0, _, _, _ => fail
  | m + 1, n, i, f => qStored_l1 F fail (qStored_l1F F fail ex0 m) ex0 n i f

def qStored {X : Type} (F : Nat) (f : ((List ((List UInt8) × (Int × (Int × (Int × Unit))))) × Unit)) (fail : X) (ret : Int → Int → X) : X :=
  bif (qCheck_P f) then
  bif ((qCheck_r f) != (0 : Int)) then
    ret (0 : Int) (qCheck_r f)
  else
  qStored_l1F F fail
    (fun (n : Int) (i : Int) (f1 : ((List ((List UInt8) × (Int × (Int × (Int × Unit))))) × Unit)) =>
      ret n (0 : Int))
    F (0 : Int) (0 : Int) f
  else fail

def qSame_l1 {X : Type} (F : Nat) (fail : X) (next : Bool → Int → ((List ((List UInt8) × (Int × (Int × (Int × Unit))))) × Unit) → ((List ((List UInt8) × (Int × (Int × (Int × Unit))))) × Unit) → X) (ex0 : Bool → Int → ((List ((List UInt8) × (Int × (Int × (Int × Unit))))) × Unit) → ((List ((List UInt8) × (Int × (Int × (Int × Unit))))) × Unit) → X) (ex1 : Bool → Int → ((List ((List UInt8) × (Int × (Int × (Int × Unit))))) × Unit) → ((List ((List UInt8) × (Int × (Int × (Int × Unit))))) × Unit) → X) (s4 : Bool) (i : Int) (a : ((List ((List UInt8) × (Int × (Int × (Int × Unit))))) × Unit)) (b : ((List ((List UInt8) × (Int × (Int × (Int × Unit))))) × Unit)) : X :=
  bif (decide (i < ((a.1.length : Nat) : Int))) then
    bif ((decide ((0 : Int) ≤ i)) && (decide (i < ((a.1.length : Nat) : Int)))) then
    bif ((decide ((0 : Int) ≤ i)) && (decide (i < ((b.1.length : Nat) : Int)))) then
    bif (!(beqT (.pair (.arr 32 (.int .u8)) (.pair (.int .i64) (.pair (.int .i64) (.pair (.int .i64) .unit)))) (List.getD a.1 (i).toNat ((List.replicate 32 (0 : UInt8)), ((0 : Int), ((0 : Int), ((0 : Int), ()))))) (List.getD b.1 (i).toNat ((List.replicate 32 (0 : UInt8)), ((0 : Int), ((0 : Int), ((0 : Int), ()))))))) then
      ex0 false i a b
    else
    next s4 (addI i (1 : Int)) a b
    else fail
    else fail
  else
  ex1 s4 i a b
def qSame_l1F {X : Type} (F : Nat) (fail : X) (ex0 : Bool → Int → ((List ((List UInt8) × (Int × (Int × (Int × Unit))))) × Unit) → ((List ((List UInt8) × (Int × (Int × (Int × Unit))))) × Unit) → X) (ex1 : Bool → Int → ((List ((List UInt8) × (Int × (Int × (Int × Unit))))) × Unit) → ((List ((List UInt8) × (Int × (Int × (Int × Unit))))) × Unit) → X) : Nat → Bool → Int → ((List ((List UInt8) × (Int × (Int × (Int × Unit))))) × Unit) → ((List ((List UInt8) × (Int × (Int × (Int × Unit))))) × Unit) → X
  | 0, _, _, _, _ => fail
  | m + 1, s4, i, a, b => qSame_l1 F fail (qSame_l1F F fail ex0 ex1 m) ex0 ex1 s4 i a b

def qSame {X : Type} (F : Nat) (a : ((List ((List UInt8) × (Int × (Int × (Int × Unit))))) × Unit)) (b : ((List ((List UInt8) × (Int × (Int × (Int × Unit))))) × Unit)) (fail : X) (ret : Bool → X) : X :=
  bif (((a.1.length : Nat) : Int) != ((b.1.length : Nat) : Int)) then
    ret false
  else
  qSame_l1F F fail
    (fun (s4 : Bool) (i : Int) (a1 : ((List ((List UInt8) × (Int × (Int × (Int × Unit))))) × Unit)) (b1 : ((List ((List UInt8) × (Int × (Int × (Int × Unit))))) × Unit)) =>
      ret s4)
    (fun (s41 : Bool) (i1 : Int) (a2 : ((List ((List UInt8) × (Int × (Int × (Int × Unit))))) × Unit)) (b2 : ((List ((List UInt8) × (Int × (Int × (Int × Unit))))) × Unit)) =>
      ret true)
    F false (0 : Int) a b

def qSameInts_l1 {X : Type} (F : Nat) (fail : X) (next : List Int → List Int → Bool → Int → X) (ex0 : List Int → List Int → Bool → Int → X) (ex1 : List Int → List Int → Bool → Int → X) (a : List Int) (b : List Int) (s4 : Bool) (i : Int) : X :=
  bif (decide (i < ((a.length : Nat) : Int))) then
    bif ((decide ((0 : Int) ≤ i)) && (decide (i < ((a.length : Nat) : Int)))) then
    bif ((decide ((0 : Int) ≤ i)) && (decide (i < ((b.length : Nat) : Int)))) then
    bif ((List.getD a (i).toNat (0 : Int)) != (List.getD b (i).toNat (0 : Int))) then
      ex0 a b false i
    else
    next a b s4 (addI i (1 : Int))
    else fail
    else fail
  else
  ex1 a b s4 i
def qSameInts_l1F {X : Type} (F : Nat) (fail : X) (ex0 : List Int → List Int → Bool → Int → X) (ex1 : List Int → List Int → Bool → Int → X) : Nat → List Int → List Int → Bool → Int → X
  | 0, _, _, _, _ => fail
  | m + 1, a, b, s4, i => qSameInts_l1 F fail (qSameInts_l1F F fail ex0 ex1 m) ex0 ex1 a b s4 i

def qSameInts {X : Type} (F : Nat) (a : List Int) (b : List Int) (fail : X) (ret : Bool → X) : X :=
  bif (((a.length : Nat) : Int) != ((b.length : Nat) : Int)) then
    ret false
  else
  qSameInts_l1F F fail
    (fun (a1 : List Int) (b1 : List Int) (s4 : Bool) (i : Int) =>
      ret s4)
    (fun (a2 : List Int) (b2 : List Int) (s41 : Bool) (i1 : Int) =>
      ret true)
    F a b false (0 : Int)

def fGroups_l1 {X : Type} (F : Nat) (fail : X) (next : List Int → Int → Int → Int → List Int → Int → Int → X) (ex0 : List Int → Int → Int → Int → List Int → Int → Int → X) (ex1 : List Int → Int → Int → Int → List Int → Int → Int → X) (s : List Int) (s4 : Int) (s7 : Int) (s8 : Int) (lengths : List Int) (most : Int) (s5 : Int) : X :=
  bif (decide (s8 < s7)) then
    bif ((decide ((0 : Int) ≤ s8)) && (decide (s8 < ((s.length : Nat) : Int)))) then
    bif (!(between_r (List.getD s (s8).toNat (0 : Int)) (1 : Int) (65536 : Int))) then
      ex0 s s8 s7 s8 lengths most s5
    else
    next s s4 s7 (addI s8 (1 : Int)) lengths most s5
    else fail
  else
  ex1 s s4 s7 s8 lengths most s5
def fGroups_l1F {X : Type} (F : Nat) (fail : X) (ex0 : List Int → Int → Int → Int → List Int → Int → Int → X) (ex1 : List Int → Int → Int → Int → List Int → Int → Int → X) : Nat → List Int → Int → Int → Int → List Int → Int → Int → X
  | 0, _, _, _, _, _, _, _ => fail
  | m + 1, s, s4, s7, s8, lengths, most, s5 => fGroups_l1 F fail (fGroups_l1F F fail ex0 ex1 m) ex0 ex1 s s4 s7 s8 lengths most s5

def fGroups_l2 {X : Type} (F : Nat) (fail : X) (next : Int → List Int → Int → Int → List Int → Int → Int → List (List Int) → Int → List Int → X) (ex0 : Int → List Int → Int → Int → List Int → Int → Int → List (List Int) → Int → List Int → X) (sum : Int) (s8 : List Int) (s9 : Int) (s10 : Int) (lengths : List Int) (most : Int) (s5 : Int) (out : List (List Int)) (s2 : Int) (group : List Int) : X :=
  bif (decide (s10 < s9)) then
    bif ((decide ((0 : Int) ≤ s10)) && (decide (s10 < ((s8.length : Nat) : Int)))) then
    bif (decide (((group.length : Nat) : Int) > (0 : Int))) then
      bif (decide ((addI sum (List.getD s8 (s10).toNat (0 : Int))) > s2)) then
        bif (decide ((out ++ ([group] : List (List Int))).length ≤ big)) then
        next (addI (0 : Int) (List.getD s8 (s10).toNat (0 : Int))) s8 s9 (addI s10 (1 : Int)) lengths most s5 (out ++ ([group] : List (List Int))) s2 ([s10] : List Int)
        else fail
      else
      bif (decide ((group ++ ([s10] : List Int)).length ≤ big)) then
      next (addI sum (List.getD s8 (s10).toNat (0 : Int))) s8 s9 (addI s10 (1 : Int)) lengths most s5 out s2 (group ++ ([s10] : List Int))
      else fail
    else
    bif (decide ((group ++ ([s10] : List Int)).length ≤ big)) then
    next (addI sum (List.getD s8 (s10).toNat (0 : Int))) s8 s9 (addI s10 (1 : Int)) lengths most s5 out s2 (group ++ ([s10] : List Int))
    else fail
    else fail
  else
  ex0 sum s8 s9 s10 lengths most s5 out s2 group
def fGroups_l2F {X : Type} (F : Nat) (fail : X) (ex0 : Int → List Int → Int → Int → List Int → Int → Int → List (List Int) → Int → List Int → X) : Nat → Int → List Int → Int → Int → List Int → Int → Int → List (List Int) → Int → List Int → X
  | 0, _, _, _, _, _, _, _, _, _, _ => fail
  | m + 1, sum, s8, s9, s10, lengths, most, s5, out, s2, group => fGroups_l2 F fail (fGroups_l2F F fail ex0 m) ex0 sum s8 s9 s10 lengths most s5 out s2 group

def fGroups {X : Type} (F : Nat) (lengths : List Int) (most : Int) (fail : X) (ret : List (List Int) → Int → X) : X :=
  bif (decide (((lengths.length : Nat) : Int) > (4096 : Int))) then
    ret ([] : List (List Int)) (6 : Int)
  else
  bif (!(between_r most (1 : Int) (65536 : Int))) then
    ret ([] : List (List Int)) (2 : Int)
  else
  fGroups_l1F F fail
    (fun (s : List Int) (s4 : Int) (s7 : Int) (s8 : Int) (lengths1 : List Int) (most1 : Int) (s5 : Int) =>
      bif (decide (s4 ≥ (0 : Int))) then
        ret ([] : List (List Int)) (2 : Int)
      else
      fGroups_l2F F fail
        (fun (sum : Int) (s81 : List Int) (s9 : Int) (s10 : Int) (lengths2 : List Int) (most2 : Int) (s51 : Int) (out : List (List Int)) (s2 : Int) (group : List Int) =>
          bif (decide (((group.length : Nat) : Int) > (0 : Int))) then
            bif (decide ((out ++ ([group] : List (List Int))).length ≤ big)) then
            ret (out ++ ([group] : List (List Int))) (0 : Int)
            else fail
          else
          ret out (0 : Int))
        F (0 : Int) lengths1 ((lengths1.length : Nat) : Int) (0 : Int) lengths1 most1 s5 ([] : List (List Int)) most1 ([] : List Int))
    (fun (s1 : List Int) (s41 : Int) (s71 : Int) (s82 : Int) (lengths3 : List Int) (most3 : Int) (s52 : Int) =>
      fGroups_l2F F fail
        (fun (sum1 : Int) (s83 : List Int) (s91 : Int) (s101 : Int) (lengths4 : List Int) (most4 : Int) (s53 : Int) (out1 : List (List Int)) (s21 : Int) (group1 : List Int) =>
          bif (decide (((group1.length : Nat) : Int) > (0 : Int))) then
            bif (decide ((out1 ++ ([group1] : List (List Int))).length ≤ big)) then
            ret (out1 ++ ([group1] : List (List Int))) (0 : Int)
            else fail
          else
          ret out1 (0 : Int))
        F (0 : Int) lengths3 ((lengths3.length : Nat) : Int) (0 : Int) lengths3 most3 s52 ([] : List (List Int)) most3 ([] : List Int))
    F lengths (0 : Int) ((lengths.length : Nat) : Int) (0 : Int) lengths most (0 : Int)

def qSameGroups_l1 {X : Type} (F : Nat) (fail : X) (next : List (List Int) → List (List Int) → Bool → Int → X) (ex0 : List (List Int) → List (List Int) → Bool → Int → X) (ex1 : List (List Int) → List (List Int) → Bool → Int → X) (a : List (List Int)) (b : List (List Int)) (s4 : Bool) (i : Int) : X :=
  bif (decide (i < ((a.length : Nat) : Int))) then
    bif ((decide ((0 : Int) ≤ i)) && (decide (i < ((a.length : Nat) : Int)))) then
    bif ((decide ((0 : Int) ≤ i)) && (decide (i < ((b.length : Nat) : Int)))) then
    bif (qSameInts_P (List.getD a (i).toNat ([] : List Int)) (List.getD b (i).toNat ([] : List Int))) then
    bif (!(qSameInts_r (List.getD a (i).toNat ([] : List Int)) (List.getD b (i).toNat ([] : List Int)))) then
      ex0 a b false i
    else
    next a b s4 (addI i (1 : Int))
    else fail
    else fail
    else fail
  else
  ex1 a b s4 i
def qSameGroups_l1F {X : Type} (F : Nat) (fail : X) (ex0 : List (List Int) → List (List Int) → Bool → Int → X) (ex1 : List (List Int) → List (List Int) → Bool → Int → X) : Nat → List (List Int) → List (List Int) → Bool → Int → X
  | 0, _, _, _, _ => fail
  | m + 1, a, b, s4, i => qSameGroups_l1 F fail (qSameGroups_l1F F fail ex0 ex1 m) ex0 ex1 a b s4 i

def qSameGroups {X : Type} (F : Nat) (a : List (List Int)) (b : List (List Int)) (fail : X) (ret : Bool → X) : X :=
  bif (((a.length : Nat) : Int) != ((b.length : Nat) : Int)) then
    ret false
  else
  qSameGroups_l1F F fail
    (fun (a1 : List (List Int)) (b1 : List (List Int)) (s4 : Bool) (i : Int) =>
      ret s4)
    (fun (a2 : List (List Int)) (b2 : List (List Int)) (s41 : Bool) (i1 : Int) =>
      ret true)
    F a b false (0 : Int)

def qCollide_l2 {X : Type} (F : Nat) (fail : X) (next : List (List UInt8) → Bool → Int → Int → X) (ex0 : List (List UInt8) → Bool → Int → Int → X) (ex1 : List (List UInt8) → Bool → Int → Int → X) (l : List (List UInt8)) (s2 : Bool) (i : Int) (k : Int) : X :=
  bif (decide (k < i)) then
    bif ((decide ((0 : Int) ≤ i)) && (decide (i < ((l.length : Nat) : Int)))) then
    bif ((decide ((0 : Int) ≤ k)) && (decide (k < ((l.length : Nat) : Int)))) then
    bif ((((List.getD l (i).toNat ([] : List UInt8)).length : Nat) : Int) == (((List.getD l (k).toNat ([] : List UInt8)).length : Nat) : Int)) then
      bif ((decide ((0 : Int) ≤ i)) && (decide (i < ((l.length : Nat) : Int)))) then
      bif ((decide ((0 : Int) ≤ k)) && (decide (k < ((l.length : Nat) : Int)))) then
      bif (!((List.getD l (i).toNat ([] : List UInt8)) == (List.getD l (k).toNat ([] : List UInt8)))) then
        bif ((decide ((0 : Int) ≤ i)) && (decide (i < ((l.length : Nat) : Int)))) then
        bif (rSum_P (List.getD l (i).toNat ([] : List UInt8))) then
        bif ((decide ((0 : Int) ≤ k)) && (decide (k < ((l.length : Nat) : Int)))) then
        bif (rSum_P (List.getD l (k).toNat ([] : List UInt8))) then
        bif (beqT (.arr 32 (.int .u8)) (rSum_r (List.getD l (i).toNat ([] : List UInt8))) (rSum_r (List.getD l (k).toNat ([] : List UInt8)))) then
          ex0 l true i k
        else
        next l s2 i (addI k (1 : Int))
        else fail
        else fail
        else fail
        else fail
      else
      next l s2 i (addI k (1 : Int))
      else fail
      else fail
    else
    next l s2 i (addI k (1 : Int))
    else fail
    else fail
  else
  ex1 l s2 i k
def qCollide_l2F {X : Type} (F : Nat) (fail : X) (ex0 : List (List UInt8) → Bool → Int → Int → X) (ex1 : List (List UInt8) → Bool → Int → Int → X) : Nat → List (List UInt8) → Bool → Int → Int → X
  | 0, _, _, _, _ => fail
  | m + 1, l, s2, i, k => qCollide_l2 F fail (qCollide_l2F F fail ex0 ex1 m) ex0 ex1 l s2 i k

def qCollide_l1 {X : Type} (F : Nat) (fail : X) (next : List (List UInt8) → Bool → Int → X) (ex0 : List (List UInt8) → Bool → Int → X) (ex1 : List (List UInt8) → Bool → Int → X) (l : List (List UInt8)) (s2 : Bool) (i : Int) : X :=
  bif (decide (i < ((l.length : Nat) : Int))) then
    qCollide_l2F F fail
      (fun (l1 : List (List UInt8)) (s21 : Bool) (i1 : Int) (k : Int) =>
        ex0 l1 s21 i1)
      (fun (l2 : List (List UInt8)) (s22 : Bool) (i2 : Int) (k1 : Int) =>
        next l2 s22 (addI i2 (1 : Int)))
      F l s2 i (0 : Int)
  else
  ex1 l s2 i
def qCollide_l1F {X : Type} (F : Nat) (fail : X) (ex0 : List (List UInt8) → Bool → Int → X) (ex1 : List (List UInt8) → Bool → Int → X) : Nat → List (List UInt8) → Bool → Int → X
  | 0, _, _, _ => fail
  | m + 1, l, s2, i => qCollide_l1 F fail (qCollide_l1F F fail ex0 ex1 m) ex0 ex1 l s2 i

def qCollide {X : Type} (F : Nat) (l : List (List UInt8)) (fail : X) (ret : Bool → X) : X :=
  qCollide_l1F F fail
    (fun (l1 : List (List UInt8)) (s2 : Bool) (i : Int) =>
      ret s2)
    (fun (l2 : List (List UInt8)) (s21 : Bool) (i1 : Int) =>
      ret false)
    F l false (0 : Int)

def law46_few_l1 {X : Type} (F : Nat) (fail : X) (next : List (List UInt8) → Bool → Int → X) (ex0 : List (List UInt8) → Bool → Int → X) (ex1 : List (List UInt8) → Bool → Int → X) (l : List (List UInt8)) (s2 : Bool) (i : Int) : X :=
  bif (decide (i < ((l.length : Nat) : Int))) then
    bif (decide (i < (30 : Int))) then
      bif ((decide ((0 : Int) ≤ i)) && (decide (i < ((l.length : Nat) : Int)))) then
      bif (decide ((((List.getD l (i).toNat ([] : List UInt8)).length : Nat) : Int) > (300 : Int))) then
        ex0 l false i
      else
      next l s2 (addI i (1 : Int))
      else fail
    else
    ex1 l s2 i
  else
  ex1 l s2 i
def law46_few_l1F {X : Type} (F : Nat) (fail : X) (ex0 : List (List UInt8) → Bool → Int → X) (ex1 : List (List UInt8) → Bool → Int → X) : Nat → List (List UInt8) → Bool → Int → X
  | 0, _, _, _ => fail
  | m + 1, l, s2, i => law46_few_l1 F fail (law46_few_l1F F fail ex0 ex1 m) ex0 ex1 l s2 i

def law46_few {X : Type} (F : Nat) (l : List (List UInt8)) (fail : X) (ret : Bool → X) : X :=
  law46_few_l1F F fail
    (fun (l1 : List (List UInt8)) (s2 : Bool) (i : Int) =>
      ret s2)
    (fun (l2 : List (List UInt8)) (s21 : Bool) (i1 : Int) =>
      ret (decide (((l2.length : Nat) : Int) ≤ (30 : Int))))
    F l false (0 : Int)

def law46_sizes_l1 {X : Type} (F : Nat) (fail : X) (next : List UInt8 → Int → List Int → X) (ex0 : List UInt8 → Int → List Int → X) (l : List UInt8) (i : Int) (out : List Int) : X :=
  bif (decide (i < ((l.length : Nat) : Int))) then
    bif ((decide ((0 : Int) ≤ i)) && (decide (i < ((l.length : Nat) : Int)))) then
    bif (decide ((out ++ ([(addI (cvBI (remB (List.getD l (i).toNat (0 : UInt8)) (64 : UInt8))) (1 : Int))] : List Int)).length ≤ big)) then
    next l (addI i (1 : Int)) (out ++ ([(addI (cvBI (remB (List.getD l (i).toNat (0 : UInt8)) (64 : UInt8))) (1 : Int))] : List Int))
    else fail
    else fail
  else
  ex0 l i out
def law46_sizes_l1F {X : Type} (F : Nat) (fail : X) (ex0 : List UInt8 → Int → List Int → X) : Nat → List UInt8 → Int → List Int → X
  | 0, _, _, _ => fail
  | m + 1, l, i, out => law46_sizes_l1 F fail (law46_sizes_l1F F fail ex0 m) ex0 l i out

def law46_sizes {X : Type} (F : Nat) (l : List UInt8) (fail : X) (ret : List Int → X) : X :=
  law46_sizes_l1F F fail
    (fun (l1 : List UInt8) (i : Int) (out : List Int) =>
      ret out)
    F l (0 : Int) ([] : List Int)

end Go.AI
