/- Plain functions, printed by running the machine on symbols. -/
import Derived.Test.YtadpmbipdafjiaaWireS
namespace Go.AI
open Go
set_option linter.unusedVariables false

def WireOrders {X : Type} (F : Nat) (a : Int) (b : Int) (rest_ : List (List UInt8)) (fail : X) (ret : Bool → X) : X :=
  bif (decide (a < (0 : Int))) then
    ret (law02_awake_r)
  else
  bif (decide (b < (0 : Int))) then
    ret (law02_awake_r)
  else
  bif (decide (a > (9007199254740991 : Int))) then
    ret (law02_awake_r)
  else
  bif (decide (b > (9007199254740991 : Int))) then
    ret (law02_awake_r)
  else
  bif (a == b) then
    ret (law02_awake_r)
  else
  bif (law02_short_P ([(List.getD rest_ 0 ([] : List UInt8)), (List.getD rest_ 1 ([] : List UInt8))] : List (List UInt8))) then
  bif (!(law02_short_r ([(List.getD rest_ 0 ([] : List UInt8)), (List.getD rest_ 1 ([] : List UInt8))] : List (List UInt8)))) then
    ret (law02_awake_r)
  else
  bif (wire_PutInt_P ([] : List UInt8) a) then
  bif (decide (((wire_PutInt_r ([] : List UInt8) a) ++ (List.getD rest_ 0 ([] : List UInt8))).length ≤ big)) then
  bif (wire_PutInt_P ([] : List UInt8) b) then
  bif (decide (((wire_PutInt_r ([] : List UInt8) b) ++ (List.getD rest_ 1 ([] : List UInt8))).length ≤ big)) then
  bif ((decide ((bytes_Compare_r ((wire_PutInt_r ([] : List UInt8) a) ++ (List.getD rest_ 0 ([] : List UInt8))) ((wire_PutInt_r ([] : List UInt8) b) ++ (List.getD rest_ 1 ([] : List UInt8)))) < (0 : Int))) == (decide (a < b))) then
    bif (decide ((wire_Size_r a) ≤ (wire_Size_r b))) then
      ret (law02_awake_r)
    else
    bif (decide (a > b)) then
      ret (law02_awake_r)
    else
    ret false
  else
  ret false
  else fail
  else fail
  else fail
  else fail
  else fail

def WirePuts {X : Type} (F : Nat) (dst : List UInt8) (n : Int) (fail : X) (ret : Bool → X) : X :=
  bif (law02_short_P ([dst] : List (List UInt8))) then
  bif (!(law02_short_r ([dst] : List (List UInt8)))) then
    ret (law02_awake_r)
  else
  bif (wire_PutInt_P dst n) then
  bif (ref02_PutInt_P dst n) then
  bif (bytes_Equal_r (wire_PutInt_r dst n) (ref02_PutInt_r dst n)) then
    bif ((wire_Size_r n) == (ref02_Size_r n)) then
      ret (law02_awake_r)
    else
    ret false
  else
  ret false
  else fail
  else fail
  else fail

def WireReads {X : Type} (F : Nat) (src : List UInt8) (fail : X) (ret : Bool → X) : X :=
  bif (law02_short_P ([src] : List (List UInt8))) then
  bif (!(law02_short_r ([src] : List (List UInt8)))) then
    ret (law02_awake_r)
  else
  bif (wire_Int_P src) then
  bif (ref02_Int_P src) then
  bif ((wire_Int_r0 src) == (ref02_Int_r0 src)) then
    bif (bytes_Equal_r (wire_Int_r1 src) (ref02_Int_r1 src)) then
      bif ((wire_Int_r2 src) == (ref02_Int_r2 src)) then
        ret (law02_awake_r)
      else
      ret false
    else
    ret false
  else
  ret false
  else fail
  else fail
  else fail

def WireStrings {X : Type} (F : Nat) (dst : List UInt8) (b : List UInt8) (src : List UInt8) (fail : X) (ret : Bool → X) : X :=
  bif (law02_short_P ([dst, b, src] : List (List UInt8))) then
  bif (!(law02_short_r ([dst, b, src] : List (List UInt8)))) then
    ret (law02_awake_r)
  else
  bif (wire_PutBytes_P dst b) then
  bif (ref02_PutBytes_P dst b) then
  bif (!(bytes_Equal_r (wire_PutBytes_r dst b) (ref02_PutBytes_r dst b))) then
    ret false
  else
  bif (wire_PutText_P dst b) then
  bif (ref02_PutText_P dst b) then
  bif (!(bytes_Equal_r (wire_PutText_r dst b) (ref02_PutText_r dst b))) then
    ret false
  else
  bif (wire_Bytes_P src) then
  bif (ref02_Bytes_P src) then
  bif (wire_Text_P src) then
  bif (bytes_Equal_r (wire_Bytes_r0 src) (ref02_Bytes_r0 src)) then
    bif (bytes_Equal_r (wire_Bytes_r1 src) (ref02_Bytes_r1 src)) then
      bif ((wire_Bytes_r2 src) == (ref02_Bytes_r2 src)) then
        bif ((wire_Text_r0 src) == (ref02_Bytes_r0 src)) then
          bif (bytes_Equal_r (wire_Text_r1 src) (ref02_Bytes_r1 src)) then
            bif ((wire_Text_r2 src) == (ref02_Bytes_r2 src)) then
              ret (law02_awake_r)
            else
            ret false
          else
          ret false
        else
        ret false
      else
      ret false
    else
    ret false
  else
  ret false
  else fail
  else fail
  else fail
  else fail
  else fail
  else fail
  else fail
  else fail

def WireTears_l1 {X : Type} (F : Nat) (fail : X) (next : List Int → Int → Bool → Int → Int → List UInt8 → X) (ex0 : List Int → Int → Bool → Int → Int → List UInt8 → X) (ex1 : List Int → Int → Bool → Int → Int → List UInt8 → X) (l : List Int) (cut : Int) (s6 : Bool) (s23 : Int) (s24 : Int) (b : List UInt8) : X :=
  bif (decide (s24 < s23)) then
    bif ((decide ((0 : Int) ≤ s24)) && (decide (s24 ≤ ((b.length : Nat) : Int)))) then
    bif (wire_Int_P (List.take (s24).toNat b)) then
    bif ((wire_Int_r2 (List.take (s24).toNat b)) != (9 : Int)) then
      ex0 l cut false s23 s24 b
    else
    next l cut s6 s23 (addI s24 (1 : Int)) b
    else fail
    else fail
  else
  ex1 l cut s6 s23 s24 b
def WireTears_l1F {X : Type} (F : Nat) (fail : X) (ex0 : List Int → Int → Bool → Int → Int → List UInt8 → X) (ex1 : List Int → Int → Bool → Int → Int → List UInt8 → X) : Nat → List Int → Int → Bool → Int → Int → List UInt8 → X
  | 0, _, _, _, _, _, _ => fail
  | m + 1, l, cut, s6, s23, s24, b => WireTears_l1 F fail (WireTears_l1F F fail ex0 ex1 m) ex0 ex1 l cut s6 s23 s24 b

def WireTears {X : Type} (F : Nat) (l : List Int) (n : Int) (cut : Int) (fail : X) (ret : Bool → X) : X :=
  bif (decide (((l.length : Nat) : Int) > (60 : Int))) then
    ret (law02_awake_r)
  else
  bif (wire_PutInt_P ([] : List UInt8) n) then
  WireTears_l1F F fail
    (fun (l1 : List Int) (cut1 : Int) (s6 : Bool) (s23 : Int) (s24 : Int) (b : List UInt8) =>
      ret s6)
    (fun (l2 : List Int) (cut2 : Int) (s61 : Bool) (s231 : Int) (s241 : Int) (b1 : List UInt8) =>
      bif (law02_numbers_P l2) then
      bif (wire_PutInts_P ([] : List UInt8) (law02_numbers_r l2)) then
      bif ((maxI (1 : Int) (((wire_PutInts_r ([] : List UInt8) (law02_numbers_r l2)).length : Nat) : Int)) != (0 : Int)) then
      bif ((decide ((0 : Int) ≤ (remI (cvHI cut2) (maxI (1 : Int) (((wire_PutInts_r ([] : List UInt8) (law02_numbers_r l2)).length : Nat) : Int))))) && (decide ((remI (cvHI cut2) (maxI (1 : Int) (((wire_PutInts_r ([] : List UInt8) (law02_numbers_r l2)).length : Nat) : Int))) ≤ (((wire_PutInts_r ([] : List UInt8) (law02_numbers_r l2)).length : Nat) : Int)))) then
      bif (wire_Ints_P (List.take ((remI (cvHI cut2) (maxI (1 : Int) (((wire_PutInts_r ([] : List UInt8) (law02_numbers_r l2)).length : Nat) : Int)))).toNat (wire_PutInts_r ([] : List UInt8) (law02_numbers_r l2)))) then
      bif (((wire_Ints_r2 (List.take ((remI (cvHI cut2) (maxI (1 : Int) (((wire_PutInts_r ([] : List UInt8) (law02_numbers_r l2)).length : Nat) : Int)))).toNat (wire_PutInts_r ([] : List UInt8) (law02_numbers_r l2)))) == (9 : Int)) == (decide ((((wire_PutInts_r ([] : List UInt8) (law02_numbers_r l2)).length : Nat) : Int) > (0 : Int)))) then
        ret (law02_awake_r)
      else
      ret false
      else fail
      else fail
      else fail
      else fail
      else fail)
    F l cut false (((wire_PutInt_r ([] : List UInt8) n).length : Nat) : Int) (0 : Int) (wire_PutInt_r ([] : List UInt8) n)
  else fail

def WireLists {X : Type} (F : Nat) (dst : List UInt8) (l : List Int) (src : List UInt8) (fail : X) (ret : Bool → X) : X :=
  bif (law02_short_P ([dst, src] : List (List UInt8))) then
  bif (!(law02_short_r ([dst, src] : List (List UInt8)))) then
    ret (law02_awake_r)
  else
  bif (decide (((l.length : Nat) : Int) > (60 : Int))) then
    ret (law02_awake_r)
  else
  bif (wire_Ints_P src) then
  bif (ref02_Ints_P src) then
  bif (wire_PutInts_P dst l) then
  bif (ref02_PutInts_P dst l) then
  bif (bytes_Equal_r (wire_PutInts_r dst l) (ref02_PutInts_r dst l)) then
    bif (equal_int_P (wire_Ints_r0 src) (ref02_Ints_r0 src)) then
    bif (equal_int_r (wire_Ints_r0 src) (ref02_Ints_r0 src)) then
      bif (bytes_Equal_r (wire_Ints_r1 src) (ref02_Ints_r1 src)) then
        bif ((wire_Ints_r2 src) == (ref02_Ints_r2 src)) then
          ret (law02_awake_r)
        else
        ret false
      else
      ret false
    else
    ret false
    else fail
  else
  ret false
  else fail
  else fail
  else fail
  else fail
  else fail

def WireCanonical {X : Type} (F : Nat) (src : List UInt8) (fail : X) (ret : Bool → X) : X :=
  bif (law02_short_P ([src] : List (List UInt8))) then
  bif (!(law02_short_r ([src] : List (List UInt8)))) then
    ret (law02_awake_r)
  else
  bif (wire_Int_P src) then
  bif ((wire_Int_r2 src) == (0 : Int)) then
    bif (decide ((wire_Int_r0 src) < (0 : Int))) then
      ret false
    else
    bif (decide ((wire_Int_r0 src) > (9007199254740991 : Int))) then
      ret false
    else
    bif (wire_PutInt_P ([] : List UInt8) (wire_Int_r0 src)) then
    bif (decide (((wire_PutInt_r ([] : List UInt8) (wire_Int_r0 src)) ++ (wire_Int_r1 src)).length ≤ big)) then
    bif (!(bytes_Equal_r ((wire_PutInt_r ([] : List UInt8) (wire_Int_r0 src)) ++ (wire_Int_r1 src)) src)) then
      ret false
    else
    bif (wire_Bytes_P src) then
    bif ((wire_Bytes_r2 src) == (0 : Int)) then
      bif (wire_PutBytes_P ([] : List UInt8) (wire_Bytes_r0 src)) then
      bif (decide (((wire_PutBytes_r ([] : List UInt8) (wire_Bytes_r0 src)) ++ (wire_Bytes_r1 src)).length ≤ big)) then
      bif (!(bytes_Equal_r ((wire_PutBytes_r ([] : List UInt8) (wire_Bytes_r0 src)) ++ (wire_Bytes_r1 src)) src)) then
        ret false
      else
      bif (wire_Text_P src) then
      bif ((wire_Text_r2 src) == (0 : Int)) then
        bif (wire_PutText_P ([] : List UInt8) (wire_Text_r0 src)) then
        bif (decide (((wire_PutText_r ([] : List UInt8) (wire_Text_r0 src)) ++ (wire_Text_r1 src)).length ≤ big)) then
        bif (!(bytes_Equal_r ((wire_PutText_r ([] : List UInt8) (wire_Text_r0 src)) ++ (wire_Text_r1 src)) src)) then
          ret false
        else
        bif (wire_Ints_P src) then
        bif ((wire_Ints_r2 src) != (0 : Int)) then
          ret (law02_awake_r)
        else
        bif (wire_PutInts_P ([] : List UInt8) (wire_Ints_r0 src)) then
        bif (decide (((wire_PutInts_r ([] : List UInt8) (wire_Ints_r0 src)) ++ (wire_Ints_r1 src)).length ≤ big)) then
        bif (bytes_Equal_r ((wire_PutInts_r ([] : List UInt8) (wire_Ints_r0 src)) ++ (wire_Ints_r1 src)) src) then
          ret (law02_awake_r)
        else
        ret false
        else fail
        else fail
        else fail
        else fail
        else fail
      else
      bif (wire_Ints_P src) then
      bif ((wire_Ints_r2 src) != (0 : Int)) then
        ret (law02_awake_r)
      else
      bif (wire_PutInts_P ([] : List UInt8) (wire_Ints_r0 src)) then
      bif (decide (((wire_PutInts_r ([] : List UInt8) (wire_Ints_r0 src)) ++ (wire_Ints_r1 src)).length ≤ big)) then
      bif (bytes_Equal_r ((wire_PutInts_r ([] : List UInt8) (wire_Ints_r0 src)) ++ (wire_Ints_r1 src)) src) then
        ret (law02_awake_r)
      else
      ret false
      else fail
      else fail
      else fail
      else fail
      else fail
      else fail
    else
    bif (wire_Text_P src) then
    bif ((wire_Text_r2 src) == (0 : Int)) then
      bif (wire_PutText_P ([] : List UInt8) (wire_Text_r0 src)) then
      bif (decide (((wire_PutText_r ([] : List UInt8) (wire_Text_r0 src)) ++ (wire_Text_r1 src)).length ≤ big)) then
      bif (!(bytes_Equal_r ((wire_PutText_r ([] : List UInt8) (wire_Text_r0 src)) ++ (wire_Text_r1 src)) src)) then
        ret false
      else
      bif (wire_Ints_P src) then
      bif ((wire_Ints_r2 src) != (0 : Int)) then
        ret (law02_awake_r)
      else
      bif (wire_PutInts_P ([] : List UInt8) (wire_Ints_r0 src)) then
      bif (decide (((wire_PutInts_r ([] : List UInt8) (wire_Ints_r0 src)) ++ (wire_Ints_r1 src)).length ≤ big)) then
      bif (bytes_Equal_r ((wire_PutInts_r ([] : List UInt8) (wire_Ints_r0 src)) ++ (wire_Ints_r1 src)) src) then
        ret (law02_awake_r)
      else
      ret false
      else fail
      else fail
      else fail
      else fail
      else fail
    else
    bif (wire_Ints_P src) then
    bif ((wire_Ints_r2 src) != (0 : Int)) then
      ret (law02_awake_r)
    else
    bif (wire_PutInts_P ([] : List UInt8) (wire_Ints_r0 src)) then
    bif (decide (((wire_PutInts_r ([] : List UInt8) (wire_Ints_r0 src)) ++ (wire_Ints_r1 src)).length ≤ big)) then
    bif (bytes_Equal_r ((wire_PutInts_r ([] : List UInt8) (wire_Ints_r0 src)) ++ (wire_Ints_r1 src)) src) then
      ret (law02_awake_r)
    else
    ret false
    else fail
    else fail
    else fail
    else fail
    else fail
    else fail
    else fail
  else
  bif (wire_Bytes_P src) then
  bif ((wire_Bytes_r2 src) == (0 : Int)) then
    bif (wire_PutBytes_P ([] : List UInt8) (wire_Bytes_r0 src)) then
    bif (decide (((wire_PutBytes_r ([] : List UInt8) (wire_Bytes_r0 src)) ++ (wire_Bytes_r1 src)).length ≤ big)) then
    bif (!(bytes_Equal_r ((wire_PutBytes_r ([] : List UInt8) (wire_Bytes_r0 src)) ++ (wire_Bytes_r1 src)) src)) then
      ret false
    else
    bif (wire_Text_P src) then
    bif ((wire_Text_r2 src) == (0 : Int)) then
      bif (wire_PutText_P ([] : List UInt8) (wire_Text_r0 src)) then
      bif (decide (((wire_PutText_r ([] : List UInt8) (wire_Text_r0 src)) ++ (wire_Text_r1 src)).length ≤ big)) then
      bif (!(bytes_Equal_r ((wire_PutText_r ([] : List UInt8) (wire_Text_r0 src)) ++ (wire_Text_r1 src)) src)) then
        ret false
      else
      bif (wire_Ints_P src) then
      bif ((wire_Ints_r2 src) != (0 : Int)) then
        ret (law02_awake_r)
      else
      bif (wire_PutInts_P ([] : List UInt8) (wire_Ints_r0 src)) then
      bif (decide (((wire_PutInts_r ([] : List UInt8) (wire_Ints_r0 src)) ++ (wire_Ints_r1 src)).length ≤ big)) then
      bif (bytes_Equal_r ((wire_PutInts_r ([] : List UInt8) (wire_Ints_r0 src)) ++ (wire_Ints_r1 src)) src) then
        ret (law02_awake_r)
      else
      ret false
      else fail
      else fail
      else fail
      else fail
      else fail
    else
    bif (wire_Ints_P src) then
    bif ((wire_Ints_r2 src) != (0 : Int)) then
      ret (law02_awake_r)
    else
    bif (wire_PutInts_P ([] : List UInt8) (wire_Ints_r0 src)) then
    bif (decide (((wire_PutInts_r ([] : List UInt8) (wire_Ints_r0 src)) ++ (wire_Ints_r1 src)).length ≤ big)) then
    bif (bytes_Equal_r ((wire_PutInts_r ([] : List UInt8) (wire_Ints_r0 src)) ++ (wire_Ints_r1 src)) src) then
      ret (law02_awake_r)
    else
    ret false
    else fail
    else fail
    else fail
    else fail
    else fail
    else fail
  else
  bif (wire_Text_P src) then
  bif ((wire_Text_r2 src) == (0 : Int)) then
    bif (wire_PutText_P ([] : List UInt8) (wire_Text_r0 src)) then
    bif (decide (((wire_PutText_r ([] : List UInt8) (wire_Text_r0 src)) ++ (wire_Text_r1 src)).length ≤ big)) then
    bif (!(bytes_Equal_r ((wire_PutText_r ([] : List UInt8) (wire_Text_r0 src)) ++ (wire_Text_r1 src)) src)) then
      ret false
    else
    bif (wire_Ints_P src) then
    bif ((wire_Ints_r2 src) != (0 : Int)) then
      ret (law02_awake_r)
    else
    bif (wire_PutInts_P ([] : List UInt8) (wire_Ints_r0 src)) then
    bif (decide (((wire_PutInts_r ([] : List UInt8) (wire_Ints_r0 src)) ++ (wire_Ints_r1 src)).length ≤ big)) then
    bif (bytes_Equal_r ((wire_PutInts_r ([] : List UInt8) (wire_Ints_r0 src)) ++ (wire_Ints_r1 src)) src) then
      ret (law02_awake_r)
    else
    ret false
    else fail
    else fail
    else fail
    else fail
    else fail
  else
  bif (wire_Ints_P src) then
  bif ((wire_Ints_r2 src) != (0 : Int)) then
    ret (law02_awake_r)
  else
  bif (wire_PutInts_P ([] : List UInt8) (wire_Ints_r0 src)) then
  bif (decide (((wire_PutInts_r ([] : List UInt8) (wire_Ints_r0 src)) ++ (wire_Ints_r1 src)).length ≤ big)) then
  bif (bytes_Equal_r ((wire_PutInts_r ([] : List UInt8) (wire_Ints_r0 src)) ++ (wire_Ints_r1 src)) src) then
    ret (law02_awake_r)
  else
  ret false
  else fail
  else fail
  else fail
  else fail
  else fail
  else fail
  else fail

def WireReturns {X : Type} (F : Nat) (l : List Int) (b : List UInt8) (rest_ : List UInt8) (fail : X) (ret : Bool → X) : X :=
  bif (law02_short_P ([b, rest_] : List (List UInt8))) then
  bif (!(law02_short_r ([b, rest_] : List (List UInt8)))) then
    ret (law02_awake_r)
  else
  bif (decide (((l.length : Nat) : Int) > (60 : Int))) then
    ret (law02_awake_r)
  else
  bif (law02_numbers_P l) then
  bif (wire_PutInt_P ([] : List UInt8) (((law02_numbers_r l).length : Nat) : Int)) then
  bif (wire_PutBytes_P (wire_PutInt_r ([] : List UInt8) (((law02_numbers_r l).length : Nat) : Int)) b) then
  bif (wire_PutText_P (wire_PutBytes_r (wire_PutInt_r ([] : List UInt8) (((law02_numbers_r l).length : Nat) : Int)) b) b) then
  bif (wire_PutInts_P (wire_PutText_r (wire_PutBytes_r (wire_PutInt_r ([] : List UInt8) (((law02_numbers_r l).length : Nat) : Int)) b) b) (law02_numbers_r l)) then
  bif (decide (((wire_PutInts_r (wire_PutText_r (wire_PutBytes_r (wire_PutInt_r ([] : List UInt8) (((law02_numbers_r l).length : Nat) : Int)) b) b) (law02_numbers_r l)) ++ rest_).length ≤ big)) then
  bif (wire_Int_P ((wire_PutInts_r (wire_PutText_r (wire_PutBytes_r (wire_PutInt_r ([] : List UInt8) (((law02_numbers_r l).length : Nat) : Int)) b) b) (law02_numbers_r l)) ++ rest_)) then
  bif (wire_Bytes_P (wire_Int_r1 ((wire_PutInts_r (wire_PutText_r (wire_PutBytes_r (wire_PutInt_r ([] : List UInt8) (((law02_numbers_r l).length : Nat) : Int)) b) b) (law02_numbers_r l)) ++ rest_))) then
  bif (wire_Text_P (wire_Bytes_r1 (wire_Int_r1 ((wire_PutInts_r (wire_PutText_r (wire_PutBytes_r (wire_PutInt_r ([] : List UInt8) (((law02_numbers_r l).length : Nat) : Int)) b) b) (law02_numbers_r l)) ++ rest_)))) then
  bif (wire_Ints_P (wire_Text_r1 (wire_Bytes_r1 (wire_Int_r1 ((wire_PutInts_r (wire_PutText_r (wire_PutBytes_r (wire_PutInt_r ([] : List UInt8) (((law02_numbers_r l).length : Nat) : Int)) b) b) (law02_numbers_r l)) ++ rest_))))) then
  bif ((addI (addI (addI (wire_Int_r2 ((wire_PutInts_r (wire_PutText_r (wire_PutBytes_r (wire_PutInt_r ([] : List UInt8) (((law02_numbers_r l).length : Nat) : Int)) b) b) (law02_numbers_r l)) ++ rest_)) (wire_Bytes_r2 (wire_Int_r1 ((wire_PutInts_r (wire_PutText_r (wire_PutBytes_r (wire_PutInt_r ([] : List UInt8) (((law02_numbers_r l).length : Nat) : Int)) b) b) (law02_numbers_r l)) ++ rest_)))) (wire_Text_r2 (wire_Bytes_r1 (wire_Int_r1 ((wire_PutInts_r (wire_PutText_r (wire_PutBytes_r (wire_PutInt_r ([] : List UInt8) (((law02_numbers_r l).length : Nat) : Int)) b) b) (law02_numbers_r l)) ++ rest_))))) (wire_Ints_r2 (wire_Text_r1 (wire_Bytes_r1 (wire_Int_r1 ((wire_PutInts_r (wire_PutText_r (wire_PutBytes_r (wire_PutInt_r ([] : List UInt8) (((law02_numbers_r l).length : Nat) : Int)) b) b) (law02_numbers_r l)) ++ rest_)))))) == (0 : Int)) then
    bif ((wire_Int_r0 ((wire_PutInts_r (wire_PutText_r (wire_PutBytes_r (wire_PutInt_r ([] : List UInt8) (((law02_numbers_r l).length : Nat) : Int)) b) b) (law02_numbers_r l)) ++ rest_)) == (((law02_numbers_r l).length : Nat) : Int)) then
      bif (bytes_Equal_r (wire_Bytes_r0 (wire_Int_r1 ((wire_PutInts_r (wire_PutText_r (wire_PutBytes_r (wire_PutInt_r ([] : List UInt8) (((law02_numbers_r l).length : Nat) : Int)) b) b) (law02_numbers_r l)) ++ rest_))) b) then
        bif ((wire_Text_r0 (wire_Bytes_r1 (wire_Int_r1 ((wire_PutInts_r (wire_PutText_r (wire_PutBytes_r (wire_PutInt_r ([] : List UInt8) (((law02_numbers_r l).length : Nat) : Int)) b) b) (law02_numbers_r l)) ++ rest_)))) == b) then
          bif (equal_int_P (wire_Ints_r0 (wire_Text_r1 (wire_Bytes_r1 (wire_Int_r1 ((wire_PutInts_r (wire_PutText_r (wire_PutBytes_r (wire_PutInt_r ([] : List UInt8) (((law02_numbers_r l).length : Nat) : Int)) b) b) (law02_numbers_r l)) ++ rest_))))) (law02_numbers_r l)) then
          bif (equal_int_r (wire_Ints_r0 (wire_Text_r1 (wire_Bytes_r1 (wire_Int_r1 ((wire_PutInts_r (wire_PutText_r (wire_PutBytes_r (wire_PutInt_r ([] : List UInt8) (((law02_numbers_r l).length : Nat) : Int)) b) b) (law02_numbers_r l)) ++ rest_))))) (law02_numbers_r l)) then
            bif (bytes_Equal_r (wire_Ints_r1 (wire_Text_r1 (wire_Bytes_r1 (wire_Int_r1 ((wire_PutInts_r (wire_PutText_r (wire_PutBytes_r (wire_PutInt_r ([] : List UInt8) (((law02_numbers_r l).length : Nat) : Int)) b) b) (law02_numbers_r l)) ++ rest_))))) rest_) then
              ret (law02_awake_r)
            else
            ret false
          else
          ret false
          else fail
        else
        ret false
      else
      ret false
    else
    ret false
  else
  ret false
  else fail
  else fail
  else fail
  else fail
  else fail
  else fail
  else fail
  else fail
  else fail
  else fail
  else fail

end Go.AI
