/- Plain functions, printed by running the machine on symbols. -/
import Derived.Test.YtadpmbipdafjiaaWireS
namespace Go.AI
open Go
set_option linter.unusedVariables false

def wire_PutBytes_l1 {X : Type} (F : Nat) (fail : X) (next : List UInt8 → Int → Int → List UInt8 → X) (ex0 : List UInt8 → Int → Int → List UInt8 → X) (s14 : List UInt8) (s15 : Int) (s16 : Int) (dst : List UInt8) : X :=
  bif (decide (s16 < s15)) then
    bif ((decide ((0 : Int) ≤ s16)) && (decide (s16 < ((s14.length : Nat) : Int)))) then
    bif (decide ((dst ++ ([(List.getD s14 (s16).toNat (0 : UInt8))] : List UInt8)).length ≤ big)) then
    next s14 s15 (addI s16 (1 : Int)) (dst ++ ([(List.getD s14 (s16).toNat (0 : UInt8))] : List UInt8))
    else fail
    else fail
  else
  ex0 s14 s15 s16 dst
def wire_PutBytes_l1F {X : Type} (F : Nat) (fail : X) (ex0 : List UInt8 → Int → Int → List UInt8 → X) : Nat → List UInt8 → Int → Int → List UInt8 → X
  | 0, _, _, _, _ => fail
  | m + 1, s14, s15, s16, dst => wire_PutBytes_l1 F fail (wire_PutBytes_l1F F fail ex0 m) ex0 s14 s15 s16 dst

def wire_PutBytes {X : Type} (F : Nat) (dst : List UInt8) (b : List UInt8) (fail : X) (ret : List UInt8 → X) : X :=
  bif (clone_byte_P dst) then
  bif (wire_put_P (clone_byte_r dst) ((b.length : Nat) : Int)) then
  wire_PutBytes_l1F F fail
    (fun (s14 : List UInt8) (s15 : Int) (s16 : Int) (dst1 : List UInt8) =>
      ret dst1)
    F b ((b.length : Nat) : Int) (0 : Int) (wire_put_r (clone_byte_r dst) ((b.length : Nat) : Int))
  else fail
  else fail

def wire_PutText_l1 {X : Type} (F : Nat) (fail : X) (next : Int → Int → List UInt8 → List UInt8 → X) (ex0 : Int → Int → List UInt8 → List UInt8 → X) (s15 : Int) (s16 : Int) (dst : List UInt8) (s14 : List UInt8) : X :=
  bif (decide (s16 < s15)) then
    bif ((decide ((0 : Int) ≤ s16)) && (decide (s16 < ((s14.length : Nat) : Int)))) then
    bif (decide ((dst ++ ([(List.getD s14 (s16).toNat (0 : UInt8))] : List UInt8)).length ≤ big)) then
    next s15 (addI s16 (1 : Int)) (dst ++ ([(List.getD s14 (s16).toNat (0 : UInt8))] : List UInt8)) s14
    else fail
    else fail
  else
  ex0 s15 s16 dst s14
def wire_PutText_l1F {X : Type} (F : Nat) (fail : X) (ex0 : Int → Int → List UInt8 → List UInt8 → X) : Nat → Int → Int → List UInt8 → List UInt8 → X
  | 0, _, _, _, _ => fail
  | m + 1, s15, s16, dst, s14 => wire_PutText_l1 F fail (wire_PutText_l1F F fail ex0 m) ex0 s15 s16 dst s14

def wire_PutText {X : Type} (F : Nat) (dst : List UInt8) (s : List UInt8) (fail : X) (ret : List UInt8 → X) : X :=
  bif (decide (s.length ≤ big)) then
  bif (clone_byte_P dst) then
  bif (wire_put_P (clone_byte_r dst) ((s.length : Nat) : Int)) then
  wire_PutText_l1F F fail
    (fun (s15 : Int) (s16 : Int) (dst1 : List UInt8) (s14 : List UInt8) =>
      ret dst1)
    F ((s.length : Nat) : Int) (0 : Int) (wire_put_r (clone_byte_r dst) ((s.length : Nat) : Int)) s
  else fail
  else fail
  else fail

def wire_PutInts_l1 {X : Type} (F : Nat) (fail : X) (next : List Int → Int → Int → List UInt8 → X) (ex0 : List Int → Int → Int → List UInt8 → X) (s14 : List Int) (s15 : Int) (s16 : Int) (dst : List UInt8) : X :=
  bif (decide (s16 < s15)) then
    bif ((decide ((0 : Int) ≤ s16)) && (decide (s16 < ((s14.length : Nat) : Int)))) then
    bif (wire_put_P dst (List.getD s14 (s16).toNat (0 : Int))) then
    next s14 s15 (addI s16 (1 : Int)) (wire_put_r dst (List.getD s14 (s16).toNat (0 : Int)))
    else fail
    else fail
  else
  ex0 s14 s15 s16 dst
def wire_PutInts_l1F {X : Type} (F : Nat) (fail : X) (ex0 : List Int → Int → Int → List UInt8 → X) : Nat → List Int → Int → Int → List UInt8 → X
  | 0, _, _, _, _ => fail
  | m + 1, s14, s15, s16, dst => wire_PutInts_l1 F fail (wire_PutInts_l1F F fail ex0 m) ex0 s14 s15 s16 dst

def wire_PutInts {X : Type} (F : Nat) (dst : List UInt8) (l : List Int) (fail : X) (ret : List UInt8 → X) : X :=
  bif (clone_byte_P dst) then
  bif (wire_put_P (clone_byte_r dst) ((l.length : Nat) : Int)) then
  wire_PutInts_l1F F fail
    (fun (s14 : List Int) (s15 : Int) (s16 : Int) (dst1 : List UInt8) =>
      ret dst1)
    F l ((l.length : Nat) : Int) (0 : Int) (wire_put_r (clone_byte_r dst) ((l.length : Nat) : Int))
  else fail
  else fail

def wire_Bytes {X : Type} (F : Nat) (src : List UInt8) (fail : X) (ret : List UInt8 → List UInt8 → Int → X) : X :=
  bif (wire_Int_P src) then
  bif ((wire_Int_r2 src) == (0 : Int)) then
    bif (decide ((wire_Int_r0 src) > (65536 : Int))) then
      ret ([] : List UInt8) ([] : List UInt8) (5 : Int)
    else
    bif ((wire_Int_r2 src) != (0 : Int)) then
      ret ([] : List UInt8) ([] : List UInt8) (wire_Int_r2 src)
    else
    bif (decide ((((wire_Int_r1 src).length : Nat) : Int) < (wire_Int_r0 src))) then
      ret ([] : List UInt8) ([] : List UInt8) (9 : Int)
    else
    bif ((decide ((0 : Int) ≤ (wire_Int_r0 src))) && (decide ((wire_Int_r0 src) ≤ (((wire_Int_r1 src).length : Nat) : Int)))) then
    bif (clone_byte_P (List.take ((wire_Int_r0 src)).toNat (wire_Int_r1 src))) then
    bif ((decide ((0 : Int) ≤ (wire_Int_r0 src))) && (decide ((wire_Int_r0 src) ≤ (((wire_Int_r1 src).length : Nat) : Int)))) then
    bif (clone_byte_P (List.take ((wire_Int_r1 src).length - ((wire_Int_r0 src)).toNat) (List.drop ((wire_Int_r0 src)).toNat (wire_Int_r1 src)))) then
    ret (clone_byte_r (List.take ((wire_Int_r0 src)).toNat (wire_Int_r1 src))) (clone_byte_r (List.take ((wire_Int_r1 src).length - ((wire_Int_r0 src)).toNat) (List.drop ((wire_Int_r0 src)).toNat (wire_Int_r1 src)))) (0 : Int)
    else fail
    else fail
    else fail
    else fail
  else
  bif ((wire_Int_r2 src) != (0 : Int)) then
    ret ([] : List UInt8) ([] : List UInt8) (wire_Int_r2 src)
  else
  bif (decide ((((wire_Int_r1 src).length : Nat) : Int) < (wire_Int_r0 src))) then
    ret ([] : List UInt8) ([] : List UInt8) (9 : Int)
  else
  bif ((decide ((0 : Int) ≤ (wire_Int_r0 src))) && (decide ((wire_Int_r0 src) ≤ (((wire_Int_r1 src).length : Nat) : Int)))) then
  bif (clone_byte_P (List.take ((wire_Int_r0 src)).toNat (wire_Int_r1 src))) then
  bif ((decide ((0 : Int) ≤ (wire_Int_r0 src))) && (decide ((wire_Int_r0 src) ≤ (((wire_Int_r1 src).length : Nat) : Int)))) then
  bif (clone_byte_P (List.take ((wire_Int_r1 src).length - ((wire_Int_r0 src)).toNat) (List.drop ((wire_Int_r0 src)).toNat (wire_Int_r1 src)))) then
  ret (clone_byte_r (List.take ((wire_Int_r0 src)).toNat (wire_Int_r1 src))) (clone_byte_r (List.take ((wire_Int_r1 src).length - ((wire_Int_r0 src)).toNat) (List.drop ((wire_Int_r0 src)).toNat (wire_Int_r1 src)))) (0 : Int)
  else fail
  else fail
  else fail
  else fail
  else fail

def wire_Text {X : Type} (F : Nat) (src : List UInt8) (fail : X) (ret : List UInt8 → List UInt8 → Int → X) : X :=
  bif (wire_Bytes_P src) then
  ret (wire_Bytes_r0 src) (wire_Bytes_r1 src) (wire_Bytes_r2 src)
  else fail

def wire_Ints_l1 {X : Type} (F : Nat) (fail : X) (next : Int → Int → Int → List UInt8 → List Int → X) (ex0 : Int → Int → Int → List UInt8 → List Int → X) (ex1 : Int → Int → Int → List UInt8 → List Int → X) (s6 : Int) (s11 : Int) (s12 : Int) (b : List UInt8) (out : List Int) : X :=
  bif (decide (s12 < s11)) then
    bif (wire_Int_P b) then
    bif ((wire_Int_r2 b) != (0 : Int)) then
      ex0 (wire_Int_r2 b) s11 s12 b out
    else
    bif (decide ((out ++ ([(wire_Int_r0 b)] : List Int)).length ≤ big)) then
    next s6 s11 (addI s12 (1 : Int)) (wire_Int_r1 b) (out ++ ([(wire_Int_r0 b)] : List Int))
    else fail
    else fail
  else
  ex1 s6 s11 s12 b out
def wire_Ints_l1F {X : Type} (F : Nat) (fail : X) (ex0 : Int → Int → Int → List UInt8 → List Int → X) (ex1 : Int → Int → Int → List UInt8 → List Int → X) : Nat → Int → Int → Int → List UInt8 → List Int → X
  | 0, _, _, _, _, _ => fail
  | m + 1, s6, s11, s12, b, out => wire_Ints_l1 F fail (wire_Ints_l1F F fail ex0 ex1 m) ex0 ex1 s6 s11 s12 b out

def wire_Ints {X : Type} (F : Nat) (src : List UInt8) (fail : X) (ret : List Int → List UInt8 → Int → X) : X :=
  bif (wire_Int_P src) then
  bif ((wire_Int_r2 src) == (0 : Int)) then
    bif (decide ((wire_Int_r0 src) > (65536 : Int))) then
      ret ([] : List Int) ([] : List UInt8) (5 : Int)
    else
    bif ((wire_Int_r2 src) != (0 : Int)) then
      ret ([] : List Int) ([] : List UInt8) (wire_Int_r2 src)
    else
    wire_Ints_l1F F fail
      (fun (s6 : Int) (s11 : Int) (s12 : Int) (b : List UInt8) (out : List Int) =>
        bif (s6 != (0 : Int)) then
          ret ([] : List Int) ([] : List UInt8) s6
        else
        ret ([] : List Int) ([] : List UInt8) (0 : Int))
      (fun (s61 : Int) (s111 : Int) (s121 : Int) (b1 : List UInt8) (out1 : List Int) =>
        ret out1 b1 (0 : Int))
      F (0 : Int) (wire_Int_r0 src) (0 : Int) (wire_Int_r1 src) ([] : List Int)
  else
  bif ((wire_Int_r2 src) != (0 : Int)) then
    ret ([] : List Int) ([] : List UInt8) (wire_Int_r2 src)
  else
  wire_Ints_l1F F fail
    (fun (s62 : Int) (s112 : Int) (s122 : Int) (b2 : List UInt8) (out2 : List Int) =>
      bif (s62 != (0 : Int)) then
        ret ([] : List Int) ([] : List UInt8) s62
      else
      ret ([] : List Int) ([] : List UInt8) (0 : Int))
    (fun (s63 : Int) (s113 : Int) (s123 : Int) (b3 : List UInt8) (out3 : List Int) =>
      ret out3 b3 (0 : Int))
    F (0 : Int) (wire_Int_r0 src) (0 : Int) (wire_Int_r1 src) ([] : List Int)
  else fail

def ref02_PutBytes {X : Type} (F : Nat) (dst : List UInt8) (b : List UInt8) (fail : X) (ret : List UInt8 → X) : X :=
  bif (ref02_PutInt_P dst ((b.length : Nat) : Int)) then
  bif (decide (((ref02_PutInt_r dst ((b.length : Nat) : Int)) ++ b).length ≤ big)) then
  ret ((ref02_PutInt_r dst ((b.length : Nat) : Int)) ++ b)
  else fail
  else fail

def ref02_PutText {X : Type} (F : Nat) (dst : List UInt8) (s : List UInt8) (fail : X) (ret : List UInt8 → X) : X :=
  bif (ref02_PutInt_P dst ((s.length : Nat) : Int)) then
  bif (decide (((ref02_PutInt_r dst ((s.length : Nat) : Int)) ++ s).length ≤ big)) then
  ret ((ref02_PutInt_r dst ((s.length : Nat) : Int)) ++ s)
  else fail
  else fail

def ref02_PutInts_l1 {X : Type} (F : Nat) (fail : X) (next : List Int → Int → List UInt8 → X) (ex0 : List Int → Int → List UInt8 → X) (l : List Int) (i : Int) (out : List UInt8) : X :=
  bif (decide (i < ((l.length : Nat) : Int))) then
    bif ((decide ((0 : Int) ≤ i)) && (decide (i < ((l.length : Nat) : Int)))) then
    bif (ref02_PutInt_P out (List.getD l (i).toNat (0 : Int))) then
    next l (addI i (1 : Int)) (ref02_PutInt_r out (List.getD l (i).toNat (0 : Int)))
    else fail
    else fail
  else
  ex0 l i out
def ref02_PutInts_l1F {X : Type} (F : Nat) (fail : X) (ex0 : List Int → Int → List UInt8 → X) : Nat → List Int → Int → List UInt8 → X
  | 0, _, _, _ => fail
  | m + 1, l, i, out => ref02_PutInts_l1 F fail (ref02_PutInts_l1F F fail ex0 m) ex0 l i out

def ref02_PutInts {X : Type} (F : Nat) (dst : List UInt8) (l : List Int) (fail : X) (ret : List UInt8 → X) : X :=
  bif (ref02_PutInt_P dst ((l.length : Nat) : Int)) then
  ref02_PutInts_l1F F fail
    (fun (l1 : List Int) (i : Int) (out : List UInt8) =>
      ret out)
    F l (0 : Int) (ref02_PutInt_r dst ((l.length : Nat) : Int))
  else fail

def ref02_length {X : Type} (F : Nat) (src : List UInt8) (fail : X) (ret : Int → List UInt8 → Int → X) : X :=
  bif (ref02_Int_P src) then
  bif ((ref02_Int_r2 src) == (0 : Int)) then
    bif (decide ((ref02_Int_r0 src) > (65536 : Int))) then
      ret (0 : Int) ([] : List UInt8) (5 : Int)
    else
    ret (ref02_Int_r0 src) (ref02_Int_r1 src) (ref02_Int_r2 src)
  else
  ret (ref02_Int_r0 src) (ref02_Int_r1 src) (ref02_Int_r2 src)
  else fail

def ref02_Bytes {X : Type} (F : Nat) (src : List UInt8) (fail : X) (ret : List UInt8 → List UInt8 → Int → X) : X :=
  bif (ref02_length_P src) then
  bif ((ref02_length_r2 src) != (0 : Int)) then
    ret ([] : List UInt8) ([] : List UInt8) (ref02_length_r2 src)
  else
  bif (decide ((((ref02_length_r1 src).length : Nat) : Int) < (ref02_length_r0 src))) then
    ret ([] : List UInt8) ([] : List UInt8) (9 : Int)
  else
  bif ((decide ((0 : Int) ≤ (ref02_length_r0 src))) && (decide ((ref02_length_r0 src) ≤ (((ref02_length_r1 src).length : Nat) : Int)))) then
  bif (ref02_rest_P (List.take ((ref02_length_r0 src)).toNat (ref02_length_r1 src))) then
  bif ((decide ((0 : Int) ≤ (ref02_length_r0 src))) && (decide ((ref02_length_r0 src) ≤ (((ref02_length_r1 src).length : Nat) : Int)))) then
  bif (ref02_rest_P (List.take ((ref02_length_r1 src).length - ((ref02_length_r0 src)).toNat) (List.drop ((ref02_length_r0 src)).toNat (ref02_length_r1 src)))) then
  ret (ref02_rest_r (List.take ((ref02_length_r0 src)).toNat (ref02_length_r1 src))) (ref02_rest_r (List.take ((ref02_length_r1 src).length - ((ref02_length_r0 src)).toNat) (List.drop ((ref02_length_r0 src)).toNat (ref02_length_r1 src)))) (0 : Int)
  else fail
  else fail
  else fail
  else fail
  else fail

def ref02_Ints_l1 {X : Type} (F : Nat) (fail : X) (next : Int → Int → Int → List UInt8 → List Int → X) (ex0 : Int → Int → Int → List UInt8 → List Int → X) (ex1 : Int → Int → Int → List UInt8 → List Int → X) (s4 : Int) (n : Int) (i : Int) (b : List UInt8) (out : List Int) : X :=
  bif (decide (i < n)) then
    bif (ref02_Int_P b) then
    bif ((ref02_Int_r2 b) != (0 : Int)) then
      ex0 (ref02_Int_r2 b) n i b out
    else
    bif (decide ((out ++ ([(ref02_Int_r0 b)] : List Int)).length ≤ big)) then
    next s4 n (addI i (1 : Int)) (ref02_Int_r1 b) (out ++ ([(ref02_Int_r0 b)] : List Int))
    else fail
    else fail
  else
  ex1 s4 n i b out
def ref02_Ints_l1F {X : Type} (F : Nat) (fail : X) (ex0 : Int → Int → Int → List UInt8 → List Int → X) (ex1 : Int → Int → Int → List UInt8 → List Int → X) : Nat → Int → Int → Int → List UInt8 → List Int → X
  | 0, _, _, _, _, _ => fail
  | m + 1, s4, n, i, b, out => ref02_Ints_l1 F fail (ref02_Ints_l1F F fail ex0 ex1 m) ex0 ex1 s4 n i b out

def ref02_Ints {X : Type} (F : Nat) (src : List UInt8) (fail : X) (ret : List Int → List UInt8 → Int → X) : X :=
  bif (ref02_length_P src) then
  bif ((ref02_length_r2 src) != (0 : Int)) then
    ret ([] : List Int) ([] : List UInt8) (ref02_length_r2 src)
  else
  ref02_Ints_l1F F fail
    (fun (s4 : Int) (n : Int) (i : Int) (b : List UInt8) (out : List Int) =>
      ret ([] : List Int) ([] : List UInt8) s4)
    (fun (s41 : Int) (n1 : Int) (i1 : Int) (b1 : List UInt8) (out1 : List Int) =>
      ret out1 b1 (0 : Int))
    F (0 : Int) (ref02_length_r0 src) (0 : Int) (ref02_length_r1 src) ([] : List Int)
  else fail

def bytes_Equal {X : Type} (F : Nat) (a : List UInt8) (b : List UInt8) (fail : X) (ret : Bool → X) : X :=
  ret (a == b)

def equal_int_l1 {X : Type} (F : Nat) (fail : X) (next : List Int → List Int → Bool → Int → Int → X) (ex0 : List Int → List Int → Bool → Int → Int → X) (ex1 : List Int → List Int → Bool → Int → Int → X) (s1 : List Int) (s2 : List Int) (s4 : Bool) (s12 : Int) (s13 : Int) : X :=
  bif (decide (s13 < s12)) then
    bif ((decide ((0 : Int) ≤ s13)) && (decide (s13 < ((s1.length : Nat) : Int)))) then
    bif ((decide ((0 : Int) ≤ s13)) && (decide (s13 < ((s2.length : Nat) : Int)))) then
    bif ((List.getD s1 (s13).toNat (0 : Int)) != (List.getD s2 (s13).toNat (0 : Int))) then
      ex0 s1 s2 false s12 s13
    else
    next s1 s2 s4 s12 (addI s13 (1 : Int))
    else fail
    else fail
  else
  ex1 s1 s2 s4 s12 s13
def equal_int_l1F {X : Type} (F : Nat) (fail : X) (ex0 : List Int → List Int → Bool → Int → Int → X) (ex1 : List Int → List Int → Bool → Int → Int → X) : Nat → List Int → List Int → Bool → Int → Int → X
  | 0, _, _, _, _, _ => fail
  | m + 1, s1, s2, s4, s12, s13 => equal_int_l1 F fail (equal_int_l1F F fail ex0 ex1 m) ex0 ex1 s1 s2 s4 s12 s13

def equal_int {X : Type} (F : Nat) (s1 : List Int) (s2 : List Int) (fail : X) (ret : Bool → X) : X :=
  bif (((s1.length : Nat) : Int) != ((s2.length : Nat) : Int)) then
    ret false
  else
  equal_int_l1F F fail
    (fun (s11 : List Int) (s21 : List Int) (s4 : Bool) (s12 : Int) (s13 : Int) =>
      ret s4)
    (fun (s14 : List Int) (s22 : List Int) (s41 : Bool) (s121 : Int) (s131 : Int) =>
      ret true)
    F s1 s2 false ((s1.length : Nat) : Int) (0 : Int)

def law02_short_l1 {X : Type} (F : Nat) (fail : X) (next : List (List UInt8) → Int → Int → Int → X) (ex0 : List (List UInt8) → Int → Int → Int → X) (ex1 : List (List UInt8) → Int → Int → Int → X) (s : List (List UInt8)) (s4 : Int) (s7 : Int) (s8 : Int) : X :=
  bif (decide (s8 < s7)) then
    bif ((decide ((0 : Int) ≤ s8)) && (decide (s8 < ((s.length : Nat) : Int)))) then
    bif (decide ((((List.getD s (s8).toNat ([] : List UInt8)).length : Nat) : Int) > (400 : Int))) then
      ex0 s s8 s7 s8
    else
    next s s4 s7 (addI s8 (1 : Int))
    else fail
  else
  ex1 s s4 s7 s8
def law02_short_l1F {X : Type} (F : Nat) (fail : X) (ex0 : List (List UInt8) → Int → Int → Int → X) (ex1 : List (List UInt8) → Int → Int → Int → X) : Nat → List (List UInt8) → Int → Int → Int → X
  | 0, _, _, _, _ => fail
  | m + 1, s, s4, s7, s8 => law02_short_l1 F fail (law02_short_l1F F fail ex0 ex1 m) ex0 ex1 s s4 s7 s8

def law02_short {X : Type} (F : Nat) (l : List (List UInt8)) (fail : X) (ret : Bool → X) : X :=
  law02_short_l1F F fail
    (fun (s : List (List UInt8)) (s4 : Int) (s7 : Int) (s8 : Int) =>
      ret (!(decide (s4 ≥ (0 : Int)))))
    (fun (s1 : List (List UInt8)) (s41 : Int) (s71 : Int) (s81 : Int) =>
      ret true)
    F l (0 : Int) ((l.length : Nat) : Int) (0 : Int)

end Go.AI
