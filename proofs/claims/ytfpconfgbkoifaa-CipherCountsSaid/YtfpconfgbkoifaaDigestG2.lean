/- Plain functions, printed by running the machine on symbols. -/
import Derived.Test.YtfpconfgbkoifaaDigestS
namespace Go.AI
open Go
set_option linter.unusedVariables false

def padded_l1 {X : Type} (F : Nat) (fail : X) (next : UInt8 → Int → Int → List UInt8 → X) (ex0 : UInt8 → Int → Int → List UInt8 → X) (by_ : UInt8) (s19 : Int) (s20 : Int) (out : List UInt8) : X :=
  bif (decide (s20 < s19)) then
    bif ((decide ((0 : Int) ≤ s20)) && (decide (s20 < ((out.length : Nat) : Int)))) then
    bif ((decide ((0 : Int) ≤ s20)) && (decide (s20 < ((out.length : Nat) : Int)))) then
    next by_ s19 (addI s20 (1 : Int)) (List.set out (s20).toNat (xorB (List.getD out (s20).toNat (0 : UInt8)) by_))
    else fail
    else fail
  else
  ex0 by_ s19 s20 out
def padded_l1F {X : Type} (F : Nat) (fail : X) (ex0 : UInt8 → Int → Int → List UInt8 → X) : Nat → UInt8 → Int → Int → List UInt8 → X
  | 0, _, _, _, _ => fail
  | m + 1, by_, s19, s20, out => padded_l1 F fail (padded_l1F F fail ex0 m) ex0 by_ s19 s20 out

def padded {X : Type} (F : Nat) (key : List UInt8) (by_ : UInt8) (fail : X) (ret : List UInt8 → X) : X :=
  bif (decide (((key.length : Nat) : Int) > (64 : Int))) then
    bif (dSum_P key) then
    bif (decide ((64 : Int) ≤ ((big : Nat) : Int))) then
    padded_l1F F fail
      (fun (by_1 : UInt8) (s19 : Int) (s20 : Int) (out : List UInt8) =>
        ret out)
      F by_ (((((List.take 0 (List.replicate 64 (0 : UInt8))) ++ (List.take (min (List.take 32 (dSum_r key)).length (List.replicate 64 (0 : UInt8)).length) (List.take 32 (dSum_r key)))) ++ (List.drop (0 + (min (List.take 32 (dSum_r key)).length (List.replicate 64 (0 : UInt8)).length)) (List.replicate 64 (0 : UInt8)))).length : Nat) : Int) (0 : Int) (((List.take 0 (List.replicate 64 (0 : UInt8))) ++ (List.take (min (List.take 32 (dSum_r key)).length (List.replicate 64 (0 : UInt8)).length) (List.take 32 (dSum_r key)))) ++ (List.drop (0 + (min (List.take 32 (dSum_r key)).length (List.replicate 64 (0 : UInt8)).length)) (List.replicate 64 (0 : UInt8))))
    else fail
    else fail
  else
  bif (decide ((64 : Int) ≤ ((big : Nat) : Int))) then
  padded_l1F F fail
    (fun (by_2 : UInt8) (s191 : Int) (s201 : Int) (out1 : List UInt8) =>
      ret out1)
    F by_ (((((List.take 0 (List.replicate 64 (0 : UInt8))) ++ (List.take (min key.length (List.replicate 64 (0 : UInt8)).length) key)) ++ (List.drop (0 + (min key.length (List.replicate 64 (0 : UInt8)).length)) (List.replicate 64 (0 : UInt8)))).length : Nat) : Int) (0 : Int) (((List.take 0 (List.replicate 64 (0 : UInt8))) ++ (List.take (min key.length (List.replicate 64 (0 : UInt8)).length) key)) ++ (List.drop (0 + (min key.length (List.replicate 64 (0 : UInt8)).length)) (List.replicate 64 (0 : UInt8))))
  else fail

def dMac {X : Type} (F : Nat) (key : List UInt8) (b : List UInt8) (fail : X) (ret : List UInt8 → X) : X :=
  bif (hNew_P) then
  bif (padded_P key (54 : UInt8)) then
  bif (hwrite_P (hNew_r) (padded_r key (54 : UInt8))) then
  bif (hwrite_P (hwrite_r (hNew_r) (padded_r key (54 : UInt8))) b) then
  bif (hfinish_P (hwrite_r (hwrite_r (hNew_r) (padded_r key (54 : UInt8))) b)) then
  bif (hNew_P) then
  bif (padded_P key (92 : UInt8)) then
  bif (hwrite_P (hNew_r) (padded_r key (92 : UInt8))) then
  bif (hwrite_P (hwrite_r (hNew_r) (padded_r key (92 : UInt8))) (List.take 32 (hfinish_r (hwrite_r (hwrite_r (hNew_r) (padded_r key (54 : UInt8))) b)))) then
  bif (hfinish_P (hwrite_r (hwrite_r (hNew_r) (padded_r key (92 : UInt8))) (List.take 32 (hfinish_r (hwrite_r (hwrite_r (hNew_r) (padded_r key (54 : UInt8))) b))))) then
  ret (hfinish_r (hwrite_r (hwrite_r (hNew_r) (padded_r key (92 : UInt8))) (List.take 32 (hfinish_r (hwrite_r (hwrite_r (hNew_r) (padded_r key (54 : UInt8))) b)))))
  else fail
  else fail
  else fail
  else fail
  else fail
  else fail
  else fail
  else fail
  else fail
  else fail

def rMac_l1 {X : Type} (F : Nat) (fail : X) (next : List UInt8 → Int → List UInt8 → List UInt8 → List UInt8 → List UInt8 → X) (ex0 : List UInt8 → Int → List UInt8 → List UInt8 → List UInt8 → List UInt8 → X) (b : List UInt8) (i : Int) (s4 : List UInt8) (k : List UInt8) (inner : List UInt8) (outer : List UInt8) : X :=
  bif (decide (i < (64 : Int))) then
    bif ((decide ((0 : Int) ≤ i)) && (decide (i < ((64 : Nat) : Int)))) then
    bif (decide ((inner ++ ([(xorB (List.getD k (i).toNat (0 : UInt8)) (54 : UInt8))] : List UInt8)).length ≤ big)) then
    bif ((decide ((0 : Int) ≤ i)) && (decide (i < ((64 : Nat) : Int)))) then
    bif (decide ((outer ++ ([(xorB (List.getD k (i).toNat (0 : UInt8)) (92 : UInt8))] : List UInt8)).length ≤ big)) then
    next b (addI i (1 : Int)) s4 k (inner ++ ([(xorB (List.getD k (i).toNat (0 : UInt8)) (54 : UInt8))] : List UInt8)) (outer ++ ([(xorB (List.getD k (i).toNat (0 : UInt8)) (92 : UInt8))] : List UInt8))
    else fail
    else fail
    else fail
    else fail
  else
  ex0 b i s4 k inner outer
def rMac_l1F {X : Type} (F : Nat) (fail : X) (ex0 : List UInt8 → Int → List UInt8 → List UInt8 → List UInt8 → List UInt8 → X) : Nat → List UInt8 → Int → List UInt8 → List UInt8 → List UInt8 → List UInt8 → X
  | 0, _, _, _, _, _, _ => fail
  | m + 1, b, i, s4, k, inner, outer => rMac_l1 F fail (rMac_l1F F fail ex0 m) ex0 b i s4 k inner outer

def rMac {X : Type} (F : Nat) (key : List UInt8) (b : List UInt8) (fail : X) (ret : List UInt8 → X) : X :=
  bif (decide (((key.length : Nat) : Int) > (64 : Int))) then
    bif (rSum_P key) then
    rMac_l1F F fail
      (fun (b1 : List UInt8) (i : Int) (s4 : List UInt8) (k : List UInt8) (inner : List UInt8) (outer : List UInt8) =>
        bif (decide ((inner ++ b1).length ≤ big)) then
        bif (rSum_P (inner ++ b1)) then
        bif (decide ((outer ++ (List.take 32 (rSum_r (inner ++ b1)))).length ≤ big)) then
        bif (rSum_P (outer ++ (List.take 32 (rSum_r (inner ++ b1))))) then
        ret (rSum_r (outer ++ (List.take 32 (rSum_r (inner ++ b1)))))
        else fail
        else fail
        else fail
        else fail)
      F b (0 : Int) (List.replicate 32 (0 : UInt8)) (((List.take 0 (List.replicate 64 (0 : UInt8))) ++ (List.take (min (List.take 32 (rSum_r key)).length 64) (List.take 32 (rSum_r key)))) ++ (List.drop (0 + (min (List.take 32 (rSum_r key)).length 64)) (List.replicate 64 (0 : UInt8)))) ([] : List UInt8) ([] : List UInt8)
    else fail
  else
  rMac_l1F F fail
    (fun (b2 : List UInt8) (i1 : Int) (s41 : List UInt8) (k1 : List UInt8) (inner1 : List UInt8) (outer1 : List UInt8) =>
      bif (decide ((inner1 ++ b2).length ≤ big)) then
      bif (rSum_P (inner1 ++ b2)) then
      bif (decide ((outer1 ++ (List.take 32 (rSum_r (inner1 ++ b2)))).length ≤ big)) then
      bif (rSum_P (outer1 ++ (List.take 32 (rSum_r (inner1 ++ b2))))) then
      ret (rSum_r (outer1 ++ (List.take 32 (rSum_r (inner1 ++ b2)))))
      else fail
      else fail
      else fail
      else fail)
    F b (0 : Int) (List.replicate 32 (0 : UInt8)) (((List.take 0 (List.replicate 64 (0 : UInt8))) ++ (List.take (min key.length 64) key)) ++ (List.drop (0 + (min key.length 64)) (List.replicate 64 (0 : UInt8)))) ([] : List UInt8) ([] : List UInt8)

end Go.AI
