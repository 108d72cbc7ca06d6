/- Plain functions, printed by running the machine on symbols. -/
import Derived.Test.YtfpconfgbkoifaaCipherS
namespace Go.AI
open Go
set_option linter.unusedVariables false

def cKeys {X : Type} (F : Nat) (key : List UInt8) (fail : X) (ret : List UInt8 → List UInt8 → X) : X :=
  bif (dMac_P key ([(101 : UInt8), (110 : UInt8), (99 : UInt8), (114 : UInt8), (121 : UInt8), (112 : UInt8), (116 : UInt8)] : List UInt8)) then
  bif (dMac_P key ([(97 : UInt8), (117 : UInt8), (116 : UInt8), (104 : UInt8), (101 : UInt8), (110 : UInt8), (116 : UInt8), (105 : UInt8), (99 : UInt8), (97 : UInt8), (116 : UInt8), (101 : UInt8)] : List UInt8)) then
  ret (dMac_r key ([(101 : UInt8), (110 : UInt8), (99 : UInt8), (114 : UInt8), (121 : UInt8), (112 : UInt8), (116 : UInt8)] : List UInt8)) (dMac_r key ([(97 : UInt8), (117 : UInt8), (116 : UInt8), (104 : UInt8), (101 : UInt8), (110 : UInt8), (116 : UInt8), (105 : UInt8), (99 : UInt8), (97 : UInt8), (116 : UInt8), (101 : UInt8)] : List UInt8))
  else fail
  else fail

def cTag_l1 {X : Type} (F : Nat) (fail : X) (next : Int → List UInt8 → Int → List UInt8 → List UInt8 → X) (ex0 : Int → List UInt8 → Int → List UInt8 → List UInt8 → X) (nonce : Int) (b : List UInt8) (s10 : Int) (key : List UInt8) (l : List UInt8) : X :=
  bif (decide (s10 < (8 : Int))) then
    bif (decide ((0 : Int) ≤ (mulI (8 : Int) s10))) then
    bif (decide ((l ++ ([(cvIB (shrI nonce (mulI (8 : Int) s10)))] : List UInt8)).length ≤ big)) then
    next nonce b (addI s10 (1 : Int)) key (l ++ ([(cvIB (shrI nonce (mulI (8 : Int) s10)))] : List UInt8))
    else fail
    else fail
  else
  ex0 nonce b s10 key l
def cTag_l1F {X : Type} (F : Nat) (fail : X) (ex0 : Int → List UInt8 → Int → List UInt8 → List UInt8 → X) : Nat → Int → List UInt8 → Int → List UInt8 → List UInt8 → X
  | 0, _, _, _, _, _ => fail
  | m + 1, nonce, b, s10, key, l => cTag_l1 F fail (cTag_l1F F fail ex0 m) ex0 nonce b s10 key l

def cTag {X : Type} (F : Nat) (key : List UInt8) (nonce : Int) (b : List UInt8) (fail : X) (ret : List UInt8 → X) : X :=
  cTag_l1F F fail
    (fun (nonce1 : Int) (b1 : List UInt8) (s10 : Int) (key1 : List UInt8) (l : List UInt8) =>
      bif (decide ((l ++ b1).length ≤ big)) then
      bif (dMac_P (List.take 32 key1) (l ++ b1)) then
      ret (List.take 16 (dMac_r (List.take 32 key1) (l ++ b1)))
      else fail
      else fail)
    F nonce b (0 : Int) key ([] : List UInt8)

def cUsable {X : Type} (F : Nat) (key : List UInt8) (fail : X) (ret : Bool → X) : X :=
  bif (decide (((key.length : Nat) : Int) ≥ (1 : Int))) then
    ret (decide (((key.length : Nat) : Int) ≤ (64 : Int)))
  else
  ret false

def cSeal_l1 {X : Type} (F : Nat) (fail : X) (next : Int → Int → List UInt8 → Int → List UInt8 → List UInt8 → List UInt8 → List UInt8 → List UInt8 → X) (ex0 : Int → Int → List UInt8 → Int → List UInt8 → List UInt8 → List UInt8 → List UInt8 → List UInt8 → X) (nonce : Int) (s10 : Int) (key : List UInt8) (nonce1 : Int) (b : List UInt8) (b1 : List UInt8) (key1 : List UInt8) (l : List UInt8) (authenticate : List UInt8) : X :=
  bif (decide (s10 < (8 : Int))) then
    bif (decide ((0 : Int) ≤ (mulI (8 : Int) s10))) then
    bif (decide ((l ++ ([(cvIB (shrI nonce (mulI (8 : Int) s10)))] : List UInt8)).length ≤ big)) then
    next nonce (addI s10 (1 : Int)) key nonce1 b b1 key1 (l ++ ([(cvIB (shrI nonce (mulI (8 : Int) s10)))] : List UInt8)) authenticate
    else fail
    else fail
  else
  ex0 nonce s10 key nonce1 b b1 key1 l authenticate
def cSeal_l1F {X : Type} (F : Nat) (fail : X) (ex0 : Int → Int → List UInt8 → Int → List UInt8 → List UInt8 → List UInt8 → List UInt8 → List UInt8 → X) : Nat → Int → Int → List UInt8 → Int → List UInt8 → List UInt8 → List UInt8 → List UInt8 → List UInt8 → X
  | 0, _, _, _, _, _, _, _, _, _ => fail
  | m + 1, nonce, s10, key, nonce1, b, b1, key1, l, authenticate => cSeal_l1 F fail (cSeal_l1F F fail ex0 m) ex0 nonce s10 key nonce1 b b1 key1 l authenticate

def cSeal {X : Type} (F : Nat) (key : List UInt8) (nonce : Int) (b : List UInt8) (fail : X) (ret : List UInt8 → Int → X) : X :=
  bif (!(cUsable_r key)) then
    ret ([] : List UInt8) (1 : Int)
  else
  bif (decide (((b.length : Nat) : Int) > (65520 : Int))) then
    ret ([] : List UInt8) (5 : Int)
  else
  bif (cKeys_P key) then
  bif (cStream_P (cKeys_r0 key) nonce b) then
  bif ((cStream_r1 (cKeys_r0 key) nonce b) != (0 : Int)) then
    ret ([] : List UInt8) (cStream_r1 (cKeys_r0 key) nonce b)
  else
  cSeal_l1F F fail
    (fun (nonce1 : Int) (s10 : Int) (key1 : List UInt8) (nonce2 : Int) (b1 : List UInt8) (b2 : List UInt8) (key2 : List UInt8) (l : List UInt8) (authenticate : List UInt8) =>
      bif (decide ((l ++ b2).length ≤ big)) then
      bif (dMac_P (List.take 32 key2) (l ++ b2)) then
      bif (decide ((b2 ++ (List.take 16 (dMac_r (List.take 32 key2) (l ++ b2)))).length ≤ big)) then
      ret (b2 ++ (List.take 16 (dMac_r (List.take 32 key2) (l ++ b2)))) (0 : Int)
      else fail
      else fail
      else fail)
    F nonce (0 : Int) key nonce b (cStream_r0 (cKeys_r0 key) nonce b) (cKeys_r1 key) ([] : List UInt8) (cKeys_r1 key)
  else fail
  else fail

def cOpen {X : Type} (F : Nat) (key : List UInt8) (nonce : Int) (b : List UInt8) (fail : X) (ret : List UInt8 → Int → X) : X :=
  bif (!(cUsable_r key)) then
    ret ([] : List UInt8) (1 : Int)
  else
  bif (decide (((b.length : Nat) : Int) > (65536 : Int))) then
    ret ([] : List UInt8) (5 : Int)
  else
  bif (!(cRange_r nonce)) then
    ret ([] : List UInt8) (2 : Int)
  else
  bif (decide ((subI ((b.length : Nat) : Int) (16 : Int)) < (0 : Int))) then
    ret ([] : List UInt8) (9 : Int)
  else
  bif (cKeys_P key) then
  bif ((decide ((0 : Int) ≤ (subI ((b.length : Nat) : Int) (16 : Int)))) && (decide ((subI ((b.length : Nat) : Int) (16 : Int)) ≤ ((b.length : Nat) : Int)))) then
  bif (cTag_P (cKeys_r1 key) nonce (List.take ((subI ((b.length : Nat) : Int) (16 : Int))).toNat b)) then
  bif ((decide ((0 : Int) ≤ (subI ((b.length : Nat) : Int) (16 : Int)))) && (decide ((subI ((b.length : Nat) : Int) (16 : Int)) ≤ ((b.length : Nat) : Int)))) then
  bif (equal_byte_P (cTag_r (cKeys_r1 key) nonce (List.take ((subI ((b.length : Nat) : Int) (16 : Int))).toNat b)) (List.drop ((subI ((b.length : Nat) : Int) (16 : Int))).toNat b)) then
  bif (!(equal_byte_r (cTag_r (cKeys_r1 key) nonce (List.take ((subI ((b.length : Nat) : Int) (16 : Int))).toNat b)) (List.drop ((subI ((b.length : Nat) : Int) (16 : Int))).toNat b))) then
    ret ([] : List UInt8) (25 : Int)
  else
  bif ((decide ((0 : Int) ≤ (subI ((b.length : Nat) : Int) (16 : Int)))) && (decide ((subI ((b.length : Nat) : Int) (16 : Int)) ≤ ((b.length : Nat) : Int)))) then
  bif (cStream_P (cKeys_r0 key) nonce (List.take ((subI ((b.length : Nat) : Int) (16 : Int))).toNat b)) then
  ret (cStream_r0 (cKeys_r0 key) nonce (List.take ((subI ((b.length : Nat) : Int) (16 : Int))).toNat b)) (cStream_r1 (cKeys_r0 key) nonce (List.take ((subI ((b.length : Nat) : Int) (16 : Int))).toNat b))
  else fail
  else fail
  else fail
  else fail
  else fail
  else fail
  else fail

def clone_byte {X : Type} (F : Nat) (s : List UInt8) (fail : X) (both : X → X → X) (ret : List UInt8 → X) : X :=
  bif (List.isEmpty s) then
    both (
      ret ([] : List UInt8)) (
      bif (decide (s.length ≤ big)) then
      ret s
      else fail)
  else
  bif (decide (s.length ≤ big)) then
  ret s
  else fail

def equal_byte_l1 {X : Type} (F : Nat) (fail : X) (next : List UInt8 → List UInt8 → Bool → Int → Int → X) (ex0 : List UInt8 → List UInt8 → Bool → Int → Int → X) (ex1 : List UInt8 → List UInt8 → Bool → Int → Int → X) (s1 : List UInt8) (s2 : List UInt8) (s4 : Bool) (s12 : Int) (s13 : Int) : X :=
  bif (decide (s13 < s12)) then
    bif ((decide ((0 : Int) ≤ s13)) && (decide (s13 < ((s1.length : Nat) : Int)))) then
    bif ((decide ((0 : Int) ≤ s13)) && (decide (s13 < ((s2.length : Nat) : Int)))) then
    bif (((((List.getD s1 (s13).toNat (0 : UInt8))).toNat : Nat) : Int) != ((((List.getD s2 (s13).toNat (0 : UInt8))).toNat : Nat) : Int)) then
      ex0 s1 s2 false s12 s13
    else
    next s1 s2 s4 s12 (addI s13 (1 : Int))
    else fail
    else fail
  else
  ex1 s1 s2 s4 s12 s13
def equal_byte_l1F {X : Type} (F : Nat) (fail : X) (ex0 : List UInt8 → List UInt8 → Bool → Int → Int → X) (ex1 : List UInt8 → List UInt8 → Bool → Int → Int → X) : Nat → List UInt8 → List UInt8 → Bool → Int → Int → X
  | 0, _, _, _, _, _ => fail
  | m + 1, s1, s2, s4, s12, s13 => equal_byte_l1 F fail (equal_byte_l1F F fail ex0 ex1 m) ex0 ex1 s1 s2 s4 s12 s13

def equal_byte {X : Type} (F : Nat) (s1 : List UInt8) (s2 : List UInt8) (fail : X) (ret : Bool → X) : X :=
  bif (((s1.length : Nat) : Int) != ((s2.length : Nat) : Int)) then
    ret false
  else
  equal_byte_l1F F fail
    (fun (s11 : List UInt8) (s21 : List UInt8) (s4 : Bool) (s12 : Int) (s13 : Int) =>
      ret s4)
    (fun (s14 : List UInt8) (s22 : List UInt8) (s41 : Bool) (s121 : Int) (s131 : Int) =>
      ret true)
    F s1 s2 false ((s1.length : Nat) : Int) (0 : Int)

def bytes_Equal {X : Type} (F : Nat) (a : List UInt8) (b : List UInt8) (fail : X) (ret : Bool → X) : X :=
  ret (a == b)

def rKeys {X : Type} (F : Nat) (key : List UInt8) (fail : X) (ret : List UInt8 → List UInt8 → X) : X :=
  bif (rMac_P key ([(101 : UInt8), (110 : UInt8), (99 : UInt8), (114 : UInt8), (121 : UInt8), (112 : UInt8), (116 : UInt8)] : List UInt8)) then
  bif (rMac_P key ([(97 : UInt8), (117 : UInt8), (116 : UInt8), (104 : UInt8), (101 : UInt8), (110 : UInt8), (116 : UInt8), (105 : UInt8), (99 : UInt8), (97 : UInt8), (116 : UInt8), (101 : UInt8)] : List UInt8)) then
  ret (rMac_r key ([(101 : UInt8), (110 : UInt8), (99 : UInt8), (114 : UInt8), (121 : UInt8), (112 : UInt8), (116 : UInt8)] : List UInt8)) (rMac_r key ([(97 : UInt8), (117 : UInt8), (116 : UInt8), (104 : UInt8), (101 : UInt8), (110 : UInt8), (116 : UInt8), (105 : UInt8), (99 : UInt8), (97 : UInt8), (116 : UInt8), (101 : UInt8)] : List UInt8))
  else fail
  else fail

def rTag_l1 {X : Type} (F : Nat) (fail : X) (next : Int → List UInt8 → Int → List UInt8 → List UInt8 → X) (ex0 : Int → List UInt8 → Int → List UInt8 → List UInt8 → X) (nonce : Int) (b : List UInt8) (i : Int) (key : List UInt8) (k : List UInt8) : X :=
  bif (decide (i < (32 : Int))) then
    bif ((decide ((0 : Int) ≤ i)) && (decide (i < ((32 : Nat) : Int)))) then
    bif (decide ((k ++ ([(List.getD key (i).toNat (0 : UInt8))] : List UInt8)).length ≤ big)) then
    next nonce b (addI i (1 : Int)) key (k ++ ([(List.getD key (i).toNat (0 : UInt8))] : List UInt8))
    else fail
    else fail
  else
  ex0 nonce b i key k
def rTag_l1F {X : Type} (F : Nat) (fail : X) (ex0 : Int → List UInt8 → Int → List UInt8 → List UInt8 → X) : Nat → Int → List UInt8 → Int → List UInt8 → List UInt8 → X
  | 0, _, _, _, _, _ => fail
  | m + 1, nonce, b, i, key, k => rTag_l1 F fail (rTag_l1F F fail ex0 m) ex0 nonce b i key k

def rTag_l2 {X : Type} (F : Nat) (fail : X) (next : Int → List UInt8 → List UInt8 → X) (ex0 : Int → List UInt8 → List UInt8 → X) (i : Int) (d_ : List UInt8) (out : List UInt8) : X :=
  bif (decide (i < (16 : Int))) then
    bif ((decide ((0 : Int) ≤ i)) && (decide (i < ((32 : Nat) : Int)))) then
    bif (decide ((out ++ ([(List.getD d_ (i).toNat (0 : UInt8))] : List UInt8)).length ≤ big)) then
    next (addI i (1 : Int)) d_ (out ++ ([(List.getD d_ (i).toNat (0 : UInt8))] : List UInt8))
    else fail
    else fail
  else
  ex0 i d_ out
def rTag_l2F {X : Type} (F : Nat) (fail : X) (ex0 : Int → List UInt8 → List UInt8 → X) : Nat → Int → List UInt8 → List UInt8 → X
  | 0, _, _, _ => fail
  | m + 1, i, d_, out => rTag_l2 F fail (rTag_l2F F fail ex0 m) ex0 i d_ out

def rTag {X : Type} (F : Nat) (key : List UInt8) (nonce : Int) (b : List UInt8) (fail : X) (ret : List UInt8 → X) : X :=
  rTag_l1F F fail
    (fun (nonce1 : Int) (b1 : List UInt8) (i : Int) (key1 : List UInt8) (k : List UInt8) =>
      bif (rLittle_P nonce1 (8 : Int)) then
      bif (decide (((rLittle_r nonce1 (8 : Int)) ++ b1).length ≤ big)) then
      bif (rMac_P k ((rLittle_r nonce1 (8 : Int)) ++ b1)) then
      rTag_l2F F fail
        (fun (i1 : Int) (d_ : List UInt8) (out : List UInt8) =>
          ret out)
        F (0 : Int) (rMac_r k ((rLittle_r nonce1 (8 : Int)) ++ b1)) ([] : List UInt8)
      else fail
      else fail
      else fail)
    F nonce b (0 : Int) key ([] : List UInt8)

def rSeal {X : Type} (F : Nat) (key : List UInt8) (nonce : Int) (b : List UInt8) (fail : X) (ret : List UInt8 → Int → X) : X :=
  bif (decide (((key.length : Nat) : Int) < (1 : Int))) then
    ret ([] : List UInt8) (1 : Int)
  else
  bif (decide (((key.length : Nat) : Int) > (64 : Int))) then
    ret ([] : List UInt8) (1 : Int)
  else
  bif (decide (((b.length : Nat) : Int) > (65520 : Int))) then
    ret ([] : List UInt8) (5 : Int)
  else
  bif (rKeys_P key) then
  bif (rStream_P (rKeys_r0 key) nonce b) then
  bif ((rStream_r1 (rKeys_r0 key) nonce b) != (0 : Int)) then
    ret ([] : List UInt8) (rStream_r1 (rKeys_r0 key) nonce b)
  else
  bif (rTag_P (rKeys_r1 key) nonce (rStream_r0 (rKeys_r0 key) nonce b)) then
  bif (decide (((rStream_r0 (rKeys_r0 key) nonce b) ++ (rTag_r (rKeys_r1 key) nonce (rStream_r0 (rKeys_r0 key) nonce b))).length ≤ big)) then
  ret ((rStream_r0 (rKeys_r0 key) nonce b) ++ (rTag_r (rKeys_r1 key) nonce (rStream_r0 (rKeys_r0 key) nonce b))) (0 : Int)
  else fail
  else fail
  else fail
  else fail

def rOpen {X : Type} (F : Nat) (key : List UInt8) (nonce : Int) (b : List UInt8) (fail : X) (ret : List UInt8 → Int → X) : X :=
  bif (decide (((key.length : Nat) : Int) < (1 : Int))) then
    ret ([] : List UInt8) (1 : Int)
  else
  bif (decide (((key.length : Nat) : Int) > (64 : Int))) then
    ret ([] : List UInt8) (1 : Int)
  else
  bif (decide (((b.length : Nat) : Int) > (65536 : Int))) then
    ret ([] : List UInt8) (5 : Int)
  else
  bif (!(rNonces_r nonce)) then
    ret ([] : List UInt8) (2 : Int)
  else
  bif (decide (((b.length : Nat) : Int) < (16 : Int))) then
    ret ([] : List UInt8) (9 : Int)
  else
  bif (rKeys_P key) then
  bif ((decide ((0 : Int) ≤ (subI ((b.length : Nat) : Int) (16 : Int)))) && (decide ((subI ((b.length : Nat) : Int) (16 : Int)) ≤ ((b.length : Nat) : Int)))) then
  bif (rTag_P (rKeys_r1 key) nonce (List.take ((subI ((b.length : Nat) : Int) (16 : Int))).toNat b)) then
  bif ((decide ((0 : Int) ≤ (subI ((b.length : Nat) : Int) (16 : Int)))) && (decide ((subI ((b.length : Nat) : Int) (16 : Int)) ≤ ((b.length : Nat) : Int)))) then
  bif (!((rTag_r (rKeys_r1 key) nonce (List.take ((subI ((b.length : Nat) : Int) (16 : Int))).toNat b)) == (List.drop ((subI ((b.length : Nat) : Int) (16 : Int))).toNat b))) then
    ret ([] : List UInt8) (25 : Int)
  else
  bif ((decide ((0 : Int) ≤ (subI ((b.length : Nat) : Int) (16 : Int)))) && (decide ((subI ((b.length : Nat) : Int) (16 : Int)) ≤ ((b.length : Nat) : Int)))) then
  bif (rStream_P (rKeys_r0 key) nonce (List.take ((subI ((b.length : Nat) : Int) (16 : Int))).toNat b)) then
  ret (rStream_r0 (rKeys_r0 key) nonce (List.take ((subI ((b.length : Nat) : Int) (16 : Int))).toNat b)) (rStream_r1 (rKeys_r0 key) nonce (List.take ((subI ((b.length : Nat) : Int) (16 : Int))).toNat b))
  else fail
  else fail
  else fail
  else fail
  else fail
  else fail

def law47_short_l1 {X : Type} (F : Nat) (fail : X) (next : List (List UInt8) → Int → Int → Int → X) (ex0 : List (List UInt8) → Int → Int → Int → X) (ex1 : List (List UInt8) → Int → Int → Int → X) (s : List (List UInt8)) (s4 : Int) (s7 : Int) (s8 : Int) : X :=
  bif (decide (s8 < s7)) then
    bif ((decide ((0 : Int) ≤ s8)) && (decide (s8 < ((s.length : Nat) : Int)))) then
    bif (decide ((((List.getD s (s8).toNat ([] : List UInt8)).length : Nat) : Int) > (300 : Int))) then
      bif (decide ((((List.getD s (s8).toNat ([] : List UInt8)).length : Nat) : Int) ≤ (65520 : Int))) then
        ex0 s s8 s7 s8
      else
      bif (decide ((((List.getD s (s8).toNat ([] : List UInt8)).length : Nat) : Int) > (65545 : Int))) then
        ex0 s s8 s7 s8
      else
      next s s4 s7 (addI s8 (1 : Int))
    else
    bif (decide ((((List.getD s (s8).toNat ([] : List UInt8)).length : Nat) : Int) > (65545 : Int))) then
      ex0 s s8 s7 s8
    else
    next s s4 s7 (addI s8 (1 : Int))
    else fail
  else
  ex1 s s4 s7 s8
def law47_short_l1F {X : Type} (F : Nat) (fail : X) (ex0 : List (List UInt8) → Int → Int → Int → X) (ex1 : List (List UInt8) → Int → Int → Int → X) : Nat → List (List UInt8) → Int → Int → Int → X
  | 0, _, _, _, _ => fail
  | m + 1, s, s4, s7, s8 => law47_short_l1 F fail (law47_short_l1F F fail ex0 ex1 m) ex0 ex1 s s4 s7 s8

def law47_short {X : Type} (F : Nat) (l : List (List UInt8)) (fail : X) (ret : Bool → X) : X :=
  law47_short_l1F F fail
    (fun (s : List (List UInt8)) (s4 : Int) (s7 : Int) (s8 : Int) =>
      ret (!(decide (s4 ≥ (0 : Int)))))
    (fun (s1 : List (List UInt8)) (s41 : Int) (s71 : Int) (s81 : Int) =>
      ret true)
    F l (0 : Int) ((l.length : Nat) : Int) (0 : Int)

end Go.AI
