/- Plain functions, printed by running the machine on symbols. -/
import Derived.Test.YtadpmbipdafjiaaWireS
namespace Go.AI
open Go
set_option linter.unusedVariables false

def tab_bae91b : List UInt8 := [0, 1, 2, 2, 3, 3, 3, 3, 4, 4, 4, 4, 4, 4, 4, 4, 5, 5, 5, 5, 5, 5, 5, 5, 5, 5, 5, 5, 5, 5, 5, 5, 6, 6, 6, 6, 6, 6, 6, 6, 6, 6, 6, 6, 6, 6, 6, 6, 6, 6, 6, 6, 6, 6, 6, 6, 6, 6, 6, 6, 6, 6, 6, 6, 7, 7, 7, 7, 7, 7, 7, 7, 7, 7, 7, 7, 7, 7, 7, 7, 7, 7, 7, 7, 7, 7, 7, 7, 7, 7, 7, 7, 7, 7, 7, 7, 7, 7, 7, 7, 7, 7, 7, 7, 7, 7, 7, 7, 7, 7, 7, 7, 7, 7, 7, 7, 7, 7, 7, 7, 7, 7, 7, 7, 7, 7, 7, 7, 8, 8, 8, 8, 8, 8, 8, 8, 8, 8, 8, 8, 8, 8, 8, 8, 8, 8, 8, 8, 8, 8, 8, 8, 8, 8, 8, 8, 8, 8, 8, 8, 8, 8, 8, 8, 8, 8, 8, 8, 8, 8, 8, 8, 8, 8, 8, 8, 8, 8, 8, 8, 8, 8, 8, 8, 8, 8, 8, 8, 8, 8, 8, 8, 8, 8, 8, 8, 8, 8, 8, 8, 8, 8, 8, 8, 8, 8, 8, 8, 8, 8, 8, 8, 8, 8, 8, 8, 8, 8, 8, 8, 8, 8, 8, 8, 8, 8, 8, 8, 8, 8, 8, 8, 8, 8, 8, 8, 8, 8, 8, 8, 8, 8, 8, 8, 8, 8, 8, 8, 8, 8, 8, 8, 8, 8, 8, 8]
def bits_Len64 {X : Type} (F : Nat) (x_ : Int) (fail : X) (ret : Int → X) : X :=
  bif (decide (x_ ≥ (4294967296 : Int))) then
    bif (decide ((shrU x_ (32 : Int)) ≥ (65536 : Int))) then
      bif (decide ((shrU (shrU x_ (32 : Int)) (16 : Int)) ≥ (256 : Int))) then
        bif ((decide ((0 : Int) ≤ ((((cvUB (shrU (shrU (shrU x_ (32 : Int)) (16 : Int)) (8 : Int)))).toNat : Nat) : Int))) && (decide (((((cvUB (shrU (shrU (shrU x_ (32 : Int)) (16 : Int)) (8 : Int)))).toNat : Nat) : Int) < ((tab_bae91b.length : Nat) : Int)))) then
        ret (addI (56 : Int) (cvBI (List.getD tab_bae91b ((cvUB (shrU (shrU (shrU x_ (32 : Int)) (16 : Int)) (8 : Int)))).toNat (0 : UInt8))))
        else fail
      else
      bif ((decide ((0 : Int) ≤ ((((cvUB (shrU (shrU x_ (32 : Int)) (16 : Int)))).toNat : Nat) : Int))) && (decide (((((cvUB (shrU (shrU x_ (32 : Int)) (16 : Int)))).toNat : Nat) : Int) < ((tab_bae91b.length : Nat) : Int)))) then
      ret (addI (48 : Int) (cvBI (List.getD tab_bae91b ((cvUB (shrU (shrU x_ (32 : Int)) (16 : Int)))).toNat (0 : UInt8))))
      else fail
    else
    bif (decide ((shrU x_ (32 : Int)) ≥ (256 : Int))) then
      bif ((decide ((0 : Int) ≤ ((((cvUB (shrU (shrU x_ (32 : Int)) (8 : Int)))).toNat : Nat) : Int))) && (decide (((((cvUB (shrU (shrU x_ (32 : Int)) (8 : Int)))).toNat : Nat) : Int) < ((tab_bae91b.length : Nat) : Int)))) then
      ret (addI (40 : Int) (cvBI (List.getD tab_bae91b ((cvUB (shrU (shrU x_ (32 : Int)) (8 : Int)))).toNat (0 : UInt8))))
      else fail
    else
    bif ((decide ((0 : Int) ≤ ((((cvUB (shrU x_ (32 : Int)))).toNat : Nat) : Int))) && (decide (((((cvUB (shrU x_ (32 : Int)))).toNat : Nat) : Int) < ((tab_bae91b.length : Nat) : Int)))) then
    ret (addI (32 : Int) (cvBI (List.getD tab_bae91b ((cvUB (shrU x_ (32 : Int)))).toNat (0 : UInt8))))
    else fail
  else
  bif (decide (x_ ≥ (65536 : Int))) then
    bif (decide ((shrU x_ (16 : Int)) ≥ (256 : Int))) then
      bif ((decide ((0 : Int) ≤ ((((cvUB (shrU (shrU x_ (16 : Int)) (8 : Int)))).toNat : Nat) : Int))) && (decide (((((cvUB (shrU (shrU x_ (16 : Int)) (8 : Int)))).toNat : Nat) : Int) < ((tab_bae91b.length : Nat) : Int)))) then
      ret (addI (24 : Int) (cvBI (List.getD tab_bae91b ((cvUB (shrU (shrU x_ (16 : Int)) (8 : Int)))).toNat (0 : UInt8))))
      else fail
    else
    bif ((decide ((0 : Int) ≤ ((((cvUB (shrU x_ (16 : Int)))).toNat : Nat) : Int))) && (decide (((((cvUB (shrU x_ (16 : Int)))).toNat : Nat) : Int) < ((tab_bae91b.length : Nat) : Int)))) then
    ret (addI (16 : Int) (cvBI (List.getD tab_bae91b ((cvUB (shrU x_ (16 : Int)))).toNat (0 : UInt8))))
    else fail
  else
  bif (decide (x_ ≥ (256 : Int))) then
    bif ((decide ((0 : Int) ≤ ((((cvUB (shrU x_ (8 : Int)))).toNat : Nat) : Int))) && (decide (((((cvUB (shrU x_ (8 : Int)))).toNat : Nat) : Int) < ((tab_bae91b.length : Nat) : Int)))) then
    ret (addI (8 : Int) (cvBI (List.getD tab_bae91b ((cvUB (shrU x_ (8 : Int)))).toNat (0 : UInt8))))
    else fail
  else
  bif ((decide ((0 : Int) ≤ ((((cvUB x_)).toNat : Nat) : Int))) && (decide (((((cvUB x_)).toNat : Nat) : Int) < ((tab_bae91b.length : Nat) : Int)))) then
  ret (addI (0 : Int) (cvBI (List.getD tab_bae91b ((cvUB x_)).toNat (0 : UInt8))))
  else fail

def bits_Len8 {X : Type} (F : Nat) (x_ : UInt8) (fail : X) (ret : Int → X) : X :=
  bif ((decide ((0 : Int) ≤ (((x_).toNat : Nat) : Int))) && (decide ((((x_).toNat : Nat) : Int) < ((tab_bae91b.length : Nat) : Int)))) then
  ret (cvBI (List.getD tab_bae91b (x_).toNat (0 : UInt8)))
  else fail

def bits_Len {X : Type} (F : Nat) (x_ : Int) (fail : X) (ret : Int → X) : X :=
  bif (bits_Len64_P x_) then
  ret (bits_Len64_r x_)
  else fail

def bits_LeadingZeros8 {X : Type} (F : Nat) (x_ : UInt8) (fail : X) (ret : Int → X) : X :=
  ret (subI (8 : Int) (bits_Len8_r x_))

def wire_number {X : Type} (F : Nat) (n : Int) (fail : X) (ret : Int → X) : X :=
  bif (decide (n < (0 : Int))) then
    ret (0 : Int)
  else
  bif (decide (n > (9007199254740991 : Int))) then
    ret (0 : Int)
  else
  ret n

def wire_further {X : Type} (F : Nat) (n : Int) (fail : X) (ret : Int → X) : X :=
  bif (bits_Len_P (cvIU n)) then
  ret (quoI (maxI (0 : Int) (subI (bits_Len_r (cvIU n)) (1 : Int))) (7 : Int))
  else fail

def wire_Size {X : Type} (F : Nat) (n : Int) (fail : X) (ret : Int → X) : X :=
  bif (wire_further_P (wire_number_r n)) then
  ret (addI (wire_further_r (wire_number_r n)) (1 : Int))
  else fail

def clone_byte {X : Type} (F : Nat) (s : List UInt8) (fail : X) (both : X → X → X) (ret : List UInt8 → X) : X :=
  bif (List.isEmpty s) then
    both (
      ret ([] : List UInt8)) (
      bif (decide (s.length ≤ big)) then
      ret s
      else fail)
  else
  bif (decide (s.length ≤ big)) then
  ret s
  else fail

def clone_int {X : Type} (F : Nat) (s : List Int) (fail : X) (both : X → X → X) (ret : List Int → X) : X :=
  bif (List.isEmpty s) then
    both (
      ret ([] : List Int)) (
      bif (decide (s.length ≤ big)) then
      ret s
      else fail)
  else
  bif (decide (s.length ≤ big)) then
  ret s
  else fail

def wire_put_l1 {X : Type} (F : Nat) (fail : X) (next : Int → Int → List UInt8 → X) (ex0 : Int → Int → List UInt8 → X) (n : Int) (i : Int) (dst : List UInt8) : X :=
  bif (decide (i ≥ (0 : Int))) then
    bif (decide ((0 : Int) ≤ (mulI (8 : Int) i))) then
    bif (decide ((dst ++ ([(cvIB (shrI n (mulI (8 : Int) i)))] : List UInt8)).length ≤ big)) then
    next n (subI i (1 : Int)) (dst ++ ([(cvIB (shrI n (mulI (8 : Int) i)))] : List UInt8))
    else fail
    else fail
  else
  ex0 n i dst
def wire_put_l1F {X : Type} (F : Nat) (fail : X) (ex0 : Int → Int → List UInt8 → X) : Nat → Int → Int → List UInt8 → X
  | 0, _, _, _ => fail
  | m + 1, n, i, dst => wire_put_l1 F fail (wire_put_l1F F fail ex0 m) ex0 n i dst

def wire_put {X : Type} (F : Nat) (dst : List UInt8) (n : Int) (fail : X) (ret : List UInt8 → X) : X :=
  bif (wire_further_P (wire_number_r n)) then
  bif (decide ((0 : Int) ≤ (subI (8 : Int) (wire_further_r (wire_number_r n))))) then
  bif (decide ((0 : Int) ≤ (mulI (8 : Int) (wire_further_r (wire_number_r n))))) then
  bif (decide ((dst ++ ([(orB (shlB (255 : UInt8) (subI (8 : Int) (wire_further_r (wire_number_r n)))) (cvIB (shrI (wire_number_r n) (mulI (8 : Int) (wire_further_r (wire_number_r n))))))] : List UInt8)).length ≤ big)) then
  wire_put_l1F F fail
    (fun (n1 : Int) (i : Int) (dst1 : List UInt8) =>
      ret dst1)
    F (wire_number_r n) (subI (wire_further_r (wire_number_r n)) (1 : Int)) (dst ++ ([(orB (shlB (255 : UInt8) (subI (8 : Int) (wire_further_r (wire_number_r n)))) (cvIB (shrI (wire_number_r n) (mulI (8 : Int) (wire_further_r (wire_number_r n))))))] : List UInt8))
  else fail
  else fail
  else fail
  else fail

def wire_PutInt {X : Type} (F : Nat) (dst : List UInt8) (n : Int) (fail : X) (ret : List UInt8 → X) : X :=
  bif (clone_byte_P dst) then
  bif (wire_put_P (clone_byte_r dst) n) then
  ret (wire_put_r (clone_byte_r dst) n)
  else fail
  else fail

def wire_Int_l1 {X : Type} (F : Nat) (fail : X) (next : List UInt8 → Int → Int → List UInt8 → Int → Int → X) (ex0 : List UInt8 → Int → Int → List UInt8 → Int → Int → X) (src : List UInt8) (k : Int) (n : Int) (s33 : List UInt8) (s34 : Int) (s35 : Int) : X :=
  bif (decide (s35 < s34)) then
    bif ((decide ((0 : Int) ≤ s35)) && (decide (s35 < ((s33.length : Nat) : Int)))) then
    next src k (orI (shlI n (8 : Int)) (cvBI (List.getD s33 (s35).toNat (0 : UInt8)))) s33 s34 (addI s35 (1 : Int))
    else fail
  else
  ex0 src k n s33 s34 s35
def wire_Int_l1F {X : Type} (F : Nat) (fail : X) (ex0 : List UInt8 → Int → Int → List UInt8 → Int → Int → X) : Nat → List UInt8 → Int → Int → List UInt8 → Int → Int → X
  | 0, _, _, _, _, _, _ => fail
  | m + 1, src, k, n, s33, s34, s35 => wire_Int_l1 F fail (wire_Int_l1F F fail ex0 m) ex0 src k n s33 s34 s35

def wire_Int {X : Type} (F : Nat) (src : List UInt8) (fail : X) (ret : Int → List UInt8 → Int → X) : X :=
  bif (((src.length : Nat) : Int) == (0 : Int)) then
    ret (0 : Int) ([] : List UInt8) (9 : Int)
  else
  bif (decide ((0 : Int) < ((src.length : Nat) : Int))) then
  bif (decide ((bits_LeadingZeros8_r (notB (List.getD src 0 (0 : UInt8)))) > (7 : Int))) then
    ret (0 : Int) ([] : List UInt8) (3 : Int)
  else
  bif (decide (((src.length : Nat) : Int) ≤ (bits_LeadingZeros8_r (notB (List.getD src 0 (0 : UInt8)))))) then
    ret (0 : Int) ([] : List UInt8) (9 : Int)
  else
  bif (decide ((0 : Int) < ((src.length : Nat) : Int))) then
  bif (decide ((0 : Int) ≤ (bits_LeadingZeros8_r (notB (List.getD src 0 (0 : UInt8)))))) then
  bif ((decide ((1 : Int) ≤ (addI (bits_LeadingZeros8_r (notB (List.getD src 0 (0 : UInt8)))) (1 : Int)))) && (decide ((addI (bits_LeadingZeros8_r (notB (List.getD src 0 (0 : UInt8)))) (1 : Int)) ≤ ((src.length : Nat) : Int)))) then
  wire_Int_l1F F fail
    (fun (src1 : List UInt8) (k : Int) (n : Int) (s33 : List UInt8) (s34 : Int) (s35 : Int) =>
      bif (decide (n > (9007199254740991 : Int))) then
        ret (0 : Int) ([] : List UInt8) (3 : Int)
      else
      bif (wire_further_P n) then
      bif ((wire_further_r n) != k) then
        ret (0 : Int) ([] : List UInt8) (3 : Int)
      else
      bif ((decide ((0 : Int) ≤ (addI k (1 : Int)))) && (decide ((addI k (1 : Int)) ≤ ((src1.length : Nat) : Int)))) then
      bif (clone_byte_P (List.drop ((addI k (1 : Int))).toNat src1)) then
      ret n (clone_byte_r (List.drop ((addI k (1 : Int))).toNat src1)) (0 : Int)
      else fail
      else fail
      else fail)
    F src (bits_LeadingZeros8_r (notB (List.getD src 0 (0 : UInt8)))) (cvBI (andB (List.getD src 0 (0 : UInt8)) (shrB (127 : UInt8) (bits_LeadingZeros8_r (notB (List.getD src 0 (0 : UInt8))))))) (List.drop 1 (List.take ((addI (bits_LeadingZeros8_r (notB (List.getD src 0 (0 : UInt8)))) (1 : Int))).toNat src)) (((List.drop 1 (List.take ((addI (bits_LeadingZeros8_r (notB (List.getD src 0 (0 : UInt8)))) (1 : Int))).toNat src)).length : Nat) : Int) (0 : Int)
  else fail
  else fail
  else fail
  else fail

def ref02_power_l1 {X : Type} (F : Nat) (fail : X) (next : Int → Int → Int → X) (ex0 : Int → Int → Int → X) (n : Int) (p : Int) (i : Int) : X :=
  bif (decide (i < n)) then
    next n (mulI (2 : Int) p) (addI i (1 : Int))
  else
  ex0 n p i
def ref02_power_l1F {X : Type} (F : Nat) (fail : X) (ex0 : Int → Int → Int → X) : Nat → Int → Int → Int → X
  | 0, _, _, _ => fail
  | m + 1, n, p, i => ref02_power_l1 F fail (ref02_power_l1F F fail ex0 m) ex0 n p i

def ref02_power {X : Type} (F : Nat) (n : Int) (fail : X) (ret : Int → X) : X :=
  ref02_power_l1F F fail
    (fun (n1 : Int) (p : Int) (i : Int) =>
      ret p)
    F n (1 : Int) (0 : Int)

def ref02_number {X : Type} (F : Nat) (n : Int) (fail : X) (ret : Int → X) : X :=
  bif (decide (n < (0 : Int))) then
    ret (0 : Int)
  else
  bif (decide (n > (9007199254740991 : Int))) then
    ret (0 : Int)
  else
  ret n

def ref02_Size_l1 {X : Type} (F : Nat) (fail : X) (next : Int → Int → X) (ex0 : Int → Int → X) (n : Int) (k : Int) : X :=
  bif (ref02_power_P (mulI (7 : Int) (addI k (1 : Int)))) then
  bif (decide ((ref02_number_r n) ≥ (ref02_power_r (mulI (7 : Int) (addI k (1 : Int)))))) then
    next n (addI k (1 : Int))
  else
  ex0 n k
  else fail
def ref02_Size_l1F {X : Type} (F : Nat) (fail : X) (ex0 : Int → Int → X) : Nat → Int → Int → X
  | 0, _, _ => fail
  | m + 1, n, k => ref02_Size_l1 F fail (ref02_Size_l1F F fail ex0 m) ex0 n k

def ref02_Size {X : Type} (F : Nat) (n : Int) (fail : X) (ret : Int → X) : X :=
  ref02_Size_l1F F fail
    (fun (n1 : Int) (k : Int) =>
      ret (addI k (1 : Int)))
    F n (0 : Int)

def ref02_PutInt_l1 {X : Type} (F : Nat) (fail : X) (next : Int → Int → List UInt8 → X) (ex0 : Int → Int → List UInt8 → X) (n : Int) (i : Int) (out : List UInt8) : X :=
  bif (decide (i ≥ (0 : Int))) then
    bif (ref02_power_P (mulI (8 : Int) i)) then
    bif ((ref02_power_r (mulI (8 : Int) i)) != (0 : Int)) then
    bif (decide ((out ++ ([(cvIB (remI (quoI n (ref02_power_r (mulI (8 : Int) i))) (256 : Int)))] : List UInt8)).length ≤ big)) then
    next n (subI i (1 : Int)) (out ++ ([(cvIB (remI (quoI n (ref02_power_r (mulI (8 : Int) i))) (256 : Int)))] : List UInt8))
    else fail
    else fail
    else fail
  else
  ex0 n i out
def ref02_PutInt_l1F {X : Type} (F : Nat) (fail : X) (ex0 : Int → Int → List UInt8 → X) : Nat → Int → Int → List UInt8 → X
  | 0, _, _, _ => fail
  | m + 1, n, i, out => ref02_PutInt_l1 F fail (ref02_PutInt_l1F F fail ex0 m) ex0 n i out

def ref02_PutInt {X : Type} (F : Nat) (dst : List UInt8) (n : Int) (fail : X) (ret : List UInt8 → X) : X :=
  bif (decide (dst.length ≤ big)) then
  bif (ref02_power_P (subI (8 : Int) (subI (ref02_Size_r (ref02_number_r n)) (1 : Int)))) then
  bif (ref02_power_P (mulI (8 : Int) (subI (ref02_Size_r (ref02_number_r n)) (1 : Int)))) then
  bif ((ref02_power_r (mulI (8 : Int) (subI (ref02_Size_r (ref02_number_r n)) (1 : Int)))) != (0 : Int)) then
  bif (decide ((dst ++ ([(cvIB (addI (subI (256 : Int) (ref02_power_r (subI (8 : Int) (subI (ref02_Size_r (ref02_number_r n)) (1 : Int))))) (quoI (ref02_number_r n) (ref02_power_r (mulI (8 : Int) (subI (ref02_Size_r (ref02_number_r n)) (1 : Int)))))))] : List UInt8)).length ≤ big)) then
  ref02_PutInt_l1F F fail
    (fun (n1 : Int) (i : Int) (out : List UInt8) =>
      ret out)
    F (ref02_number_r n) (subI (subI (ref02_Size_r (ref02_number_r n)) (1 : Int)) (1 : Int)) (dst ++ ([(cvIB (addI (subI (256 : Int) (ref02_power_r (subI (8 : Int) (subI (ref02_Size_r (ref02_number_r n)) (1 : Int))))) (quoI (ref02_number_r n) (ref02_power_r (mulI (8 : Int) (subI (ref02_Size_r (ref02_number_r n)) (1 : Int)))))))] : List UInt8))
  else fail
  else fail
  else fail
  else fail
  else fail

def ref02_rest {X : Type} (F : Nat) (b : List UInt8) (fail : X) (ret : List UInt8 → X) : X :=
  bif (decide (b.length ≤ big)) then
  ret b
  else fail

def ref02_Int_l1 {X : Type} (F : Nat) (fail : X) (next : List UInt8 → Int → Int → X) (ex0 : List UInt8 → Int → Int → X) (src : List UInt8) (first : Int) (k : Int) : X :=
  bif (ref02_power_P (subI (7 : Int) k)) then
  bif (decide (first ≥ (subI (256 : Int) (ref02_power_r (subI (7 : Int) k))))) then
    next src first (addI k (1 : Int))
  else
  ex0 src first k
  else fail
def ref02_Int_l1F {X : Type} (F : Nat) (fail : X) (ex0 : List UInt8 → Int → Int → X) : Nat → List UInt8 → Int → Int → X
  | 0, _, _, _ => fail
  | m + 1, src, first, k => ref02_Int_l1 F fail (ref02_Int_l1F F fail ex0 m) ex0 src first k

def ref02_Int_l2 {X : Type} (F : Nat) (fail : X) (next : List UInt8 → Int → Int → Int → Int → X) (ex0 : List UInt8 → Int → Int → Int → Int → X) (src : List UInt8) (first : Int) (k : Int) (n : Int) (i : Int) : X :=
  bif (decide (i ≤ k)) then
    bif ((decide ((0 : Int) ≤ i)) && (decide (i < ((src.length : Nat) : Int)))) then
    next src first k (addI (mulI (256 : Int) n) (cvBI (List.getD src (i).toNat (0 : UInt8)))) (addI i (1 : Int))
    else fail
  else
  ex0 src first k n i
def ref02_Int_l2F {X : Type} (F : Nat) (fail : X) (ex0 : List UInt8 → Int → Int → Int → Int → X) : Nat → List UInt8 → Int → Int → Int → Int → X
  | 0, _, _, _, _, _ => fail
  | m + 1, src, first, k, n, i => ref02_Int_l2 F fail (ref02_Int_l2F F fail ex0 m) ex0 src first k n i

def ref02_Int {X : Type} (F : Nat) (src : List UInt8) (fail : X) (ret : Int → List UInt8 → Int → X) : X :=
  bif (((src.length : Nat) : Int) == (0 : Int)) then
    ret (0 : Int) ([] : List UInt8) (9 : Int)
  else
  bif (decide ((0 : Int) < ((src.length : Nat) : Int))) then
  bif ((cvBI (List.getD src 0 (0 : UInt8))) == (255 : Int)) then
    ret (0 : Int) ([] : List UInt8) (3 : Int)
  else
  ref02_Int_l1F F fail
    (fun (src1 : List UInt8) (first : Int) (k : Int) =>
      bif (decide (((src1.length : Nat) : Int) < (addI k (1 : Int)))) then
        ret (0 : Int) ([] : List UInt8) (9 : Int)
      else
      bif (ref02_power_P (subI (8 : Int) k)) then
      ref02_Int_l2F F fail
        (fun (src2 : List UInt8) (first1 : Int) (k1 : Int) (n : Int) (i : Int) =>
          bif (decide (n > (9007199254740991 : Int))) then
            ret (0 : Int) ([] : List UInt8) (3 : Int)
          else
          bif ((ref02_Size_r n) != (addI k1 (1 : Int))) then
            ret (0 : Int) ([] : List UInt8) (3 : Int)
          else
          bif ((decide ((0 : Int) ≤ (addI k1 (1 : Int)))) && (decide ((addI k1 (1 : Int)) ≤ ((src2.length : Nat) : Int)))) then
          bif (ref02_rest_P (List.drop ((addI k1 (1 : Int))).toNat src2)) then
          ret n (ref02_rest_r (List.drop ((addI k1 (1 : Int))).toNat src2)) (0 : Int)
          else fail
          else fail)
        F src1 first k (subI first (subI (256 : Int) (ref02_power_r (subI (8 : Int) k)))) (1 : Int)
      else fail)
    F src (cvBI (List.getD src 0 (0 : UInt8))) (0 : Int)
  else fail

end Go.AI
