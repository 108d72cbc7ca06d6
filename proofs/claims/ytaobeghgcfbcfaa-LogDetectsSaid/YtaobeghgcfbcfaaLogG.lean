/- Plain functions, printed by running the machine on symbols. -/
import Derived.Test.YtaobeghgcfbcfaaLogS
namespace Go.AI
open Go
set_option linter.unusedVariables false

def rSameOps_l1 {X : Type} (F : Nat) (fail : X) (next : List (Int × (Int × ((List (List UInt8)) × Unit))) → List (Int × (Int × ((List (List UInt8)) × Unit))) → Bool → Int → X) (ex0 : List (Int × (Int × ((List (List UInt8)) × Unit))) → List (Int × (Int × ((List (List UInt8)) × Unit))) → Bool → Int → X) (ex1 : List (Int × (Int × ((List (List UInt8)) × Unit))) → List (Int × (Int × ((List (List UInt8)) × Unit))) → Bool → Int → X) (a : List (Int × (Int × ((List (List UInt8)) × Unit)))) (b : List (Int × (Int × ((List (List UInt8)) × Unit)))) (s4 : Bool) (i : Int) : X :=
  bif (decide (i < ((a.length : Nat) : Int))) then
    bif ((decide ((0 : Int) ≤ i)) && (decide (i < ((a.length : Nat) : Int)))) then
    bif ((decide ((0 : Int) ≤ i)) && (decide (i < ((b.length : Nat) : Int)))) then
    bif ((List.getD a (i).toNat ((0 : Int), ((0 : Int), (([] : List (List UInt8)), ())))).1 != (List.getD b (i).toNat ((0 : Int), ((0 : Int), (([] : List (List UInt8)), ())))).1) then
      ex0 a b false i
    else
    bif ((decide ((0 : Int) ≤ i)) && (decide (i < ((a.length : Nat) : Int)))) then
    bif ((decide ((0 : Int) ≤ i)) && (decide (i < ((b.length : Nat) : Int)))) then
    bif ((List.getD a (i).toNat ((0 : Int), ((0 : Int), (([] : List (List UInt8)), ())))).2.1 != (List.getD b (i).toNat ((0 : Int), ((0 : Int), (([] : List (List UInt8)), ())))).2.1) then
      ex0 a b false i
    else
    bif ((decide ((0 : Int) ≤ i)) && (decide (i < ((a.length : Nat) : Int)))) then
    bif ((decide ((0 : Int) ≤ i)) && (decide (i < ((b.length : Nat) : Int)))) then
    bif (rSamePages_P (List.getD a (i).toNat ((0 : Int), ((0 : Int), (([] : List (List UInt8)), ())))).2.2.1 (List.getD b (i).toNat ((0 : Int), ((0 : Int), (([] : List (List UInt8)), ())))).2.2.1) then
    bif (!(rSamePages_r (List.getD a (i).toNat ((0 : Int), ((0 : Int), (([] : List (List UInt8)), ())))).2.2.1 (List.getD b (i).toNat ((0 : Int), ((0 : Int), (([] : List (List UInt8)), ())))).2.2.1)) then
      ex0 a b false i
    else
    next a b s4 (addI i (1 : Int))
    else fail
    else fail
    else fail
    else fail
    else fail
    else fail
    else fail
  else
  ex1 a b s4 i
def rSameOps_l1F {X : Type} (F : Nat) (fail : X) (ex0 : List (Int × (Int × ((List (List UInt8)) × Unit))) → List (Int × (Int × ((List (List UInt8)) × Unit))) → Bool → Int → X) (ex1 : List (Int × (Int × ((List (List UInt8)) × Unit))) → List (Int × (Int × ((List (List UInt8)) × Unit))) → Bool → Int → X) : Nat → List (Int × (Int × ((List (List UInt8)) × Unit))) → List (Int × (Int × ((List (List UInt8)) × Unit))) → Bool → Int → X
  | 0, _, _, _, _ => fail
  | m + 1, a, b, s4, i => rSameOps_l1 F fail (rSameOps_l1F F fail ex0 ex1 m) ex0 ex1 a b s4 i

def rSameOps {X : Type} (F : Nat) (a : List (Int × (Int × ((List (List UInt8)) × Unit)))) (b : List (Int × (Int × ((List (List UInt8)) × Unit)))) (fail : X) (ret : Bool → X) : X :=
  bif (((a.length : Nat) : Int) != ((b.length : Nat) : Int)) then
    ret false
  else
  rSameOps_l1F F fail
    (fun (a1 : List (Int × (Int × ((List (List UInt8)) × Unit)))) (b1 : List (Int × (Int × ((List (List UInt8)) × Unit)))) (s4 : Bool) (i : Int) =>
      ret s4)
    (fun (a2 : List (Int × (Int × ((List (List UInt8)) × Unit)))) (b2 : List (Int × (Int × ((List (List UInt8)) × Unit)))) (s41 : Bool) (i1 : Int) =>
      ret true)
    F a b false (0 : Int)

def shifted_l1 {X : Type} (F : Nat) (fail : X) (next : UInt32 → Int → X) (ex0 : UInt32 → Int → X) (register : UInt32) (s4 : Int) : X :=
  bif (decide (s4 < (8 : Int))) then
    bif (((((andW register (1 : UInt32))).toNat : Nat) : Int) == (1 : Int)) then
      next (xorW (shrW register (1 : Int)) (3988292384 : UInt32)) (addI s4 (1 : Int))
    else
    next (shrW register (1 : Int)) (addI s4 (1 : Int))
  else
  ex0 register s4
def shifted_l1F {X : Type} (F : Nat) (fail : X) (ex0 : UInt32 → Int → X) : Nat → UInt32 → Int → X
  | 0, _, _ => fail
  | m + 1, register, s4 => shifted_l1 F fail (shifted_l1F F fail ex0 m) ex0 register s4

def shifted {X : Type} (F : Nat) (register : UInt32) (fail : X) (ret : UInt32 → X) : X :=
  shifted_l1F F fail
    (fun (register1 : UInt32) (s4 : Int) =>
      ret register1)
    F register (0 : Int)

def ctable_l1 {X : Type} (F : Nat) (fail : X) (next : Int → List UInt32 → List UInt32 → X) (ex0 : Int → List UInt32 → List UInt32 → X) (s3 : Int) (s0 : List UInt32) (out : List UInt32) : X :=
  bif (decide (s3 < (256 : Int))) then
    bif (shifted_P (cvIW s3)) then
    bif ((decide ((0 : Int) ≤ s3)) && (decide (s3 < ((256 : Nat) : Int)))) then
    next (addI s3 (1 : Int)) s0 (List.set out (s3).toNat (shifted_r (cvIW s3)))
    else fail
    else fail
  else
  ex0 s3 s0 out
def ctable_l1F {X : Type} (F : Nat) (fail : X) (ex0 : Int → List UInt32 → List UInt32 → X) : Nat → Int → List UInt32 → List UInt32 → X
  | 0, _, _, _ => fail
  | m + 1, s3, s0, out => ctable_l1 F fail (ctable_l1F F fail ex0 m) ex0 s3 s0 out

def ctable {X : Type} (F : Nat)  (fail : X) (ret : List UInt32 → X) : X :=
  ctable_l1F F fail
    (fun (s3 : Int) (s0 : List UInt32) (out : List UInt32) =>
      ret out)
    F (0 : Int) (List.replicate 256 (0 : UInt32)) (List.replicate 256 (0 : UInt32))

def cUpd_l1 {X : Type} (F : Nat) (fail : X) (next : List UInt8 → Int → Int → UInt32 → UInt32 → UInt32 → List UInt32 → List UInt8 → X) (ex0 : List UInt8 → Int → Int → UInt32 → UInt32 → UInt32 → List UInt32 → List UInt8 → X) (s5 : List UInt8) (s6 : Int) (s7 : Int) (s4 : UInt32) (s61 : UInt32) (register : UInt32) (t : List UInt32) (bytes : List UInt8) : X :=
  bif (decide (s7 < s6)) then
    bif ((decide ((0 : Int) ≤ s7)) && (decide (s7 < ((s5.length : Nat) : Int)))) then
    bif ((decide ((0 : Int) ≤ ((((xorB (cvWB register) (List.getD s5 (s7).toNat (0 : UInt8)))).toNat : Nat) : Int))) && (decide (((((xorB (cvWB register) (List.getD s5 (s7).toNat (0 : UInt8)))).toNat : Nat) : Int) < ((256 : Nat) : Int)))) then
    next s5 s6 (addI s7 (1 : Int)) s4 s61 (xorW (shrW register (8 : Int)) (List.getD t ((xorB (cvWB register) (List.getD s5 (s7).toNat (0 : UInt8)))).toNat (0 : UInt32))) t bytes
    else fail
    else fail
  else
  ex0 s5 s6 s7 s4 s61 register t bytes
def cUpd_l1F {X : Type} (F : Nat) (fail : X) (ex0 : List UInt8 → Int → Int → UInt32 → UInt32 → UInt32 → List UInt32 → List UInt8 → X) : Nat → List UInt8 → Int → Int → UInt32 → UInt32 → UInt32 → List UInt32 → List UInt8 → X
  | 0, _, _, _, _, _, _, _, _ => fail
  | m + 1, s5, s6, s7, s4, s61, register, t, bytes => cUpd_l1 F fail (cUpd_l1F F fail ex0 m) ex0 s5 s6 s7 s4 s61 register t bytes

def cUpd {X : Type} (F : Nat) (sum : UInt32) (b : List UInt8) (fail : X) (ret : UInt32 → X) : X :=
  bif (ctable_P) then
  cUpd_l1F F fail
    (fun (s5 : List UInt8) (s6 : Int) (s7 : Int) (s4 : UInt32) (s61 : UInt32) (register : UInt32) (t : List UInt32) (bytes : List UInt8) =>
      ret (notW register))
    F b ((b.length : Nat) : Int) (0 : Int) (0 : UInt32) (notW sum) (notW sum) (ctable_r) b
  else fail

def cSum {X : Type} (F : Nat) (b : List UInt8) (fail : X) (ret : UInt32 → X) : X :=
  bif (cUpd_P (0 : UInt32) b) then
  ret (cUpd_r (0 : UInt32) b)
  else fail

def kReg_l1 {X : Type} (F : Nat) (fail : X) (next : UInt32 → Int → X) (ex0 : UInt32 → Int → X) (r : UInt32) (i : Int) : X :=
  bif (decide (i < (8 : Int))) then
    bif (((((remW r (2 : UInt32))).toNat : Nat) : Int) == (1 : Int)) then
      next (xorW (shrW r (1 : Int)) (3988292384 : UInt32)) (addI i (1 : Int))
    else
    next (shrW r (1 : Int)) (addI i (1 : Int))
  else
  ex0 r i
def kReg_l1F {X : Type} (F : Nat) (fail : X) (ex0 : UInt32 → Int → X) : Nat → UInt32 → Int → X
  | 0, _, _ => fail
  | m + 1, r, i => kReg_l1 F fail (kReg_l1F F fail ex0 m) ex0 r i

def kReg {X : Type} (F : Nat) (r : UInt32) (b : UInt8) (fail : X) (ret : UInt32 → X) : X :=
  kReg_l1F F fail
    (fun (r1 : UInt32) (i : Int) =>
      ret r1)
    F (xorW r (cvBW b)) (0 : Int)

def kUpd_l1 {X : Type} (F : Nat) (fail : X) (next : List UInt8 → UInt32 → Int → X) (ex0 : List UInt8 → UInt32 → Int → X) (b : List UInt8) (r : UInt32) (i : Int) : X :=
  bif (decide (i < ((b.length : Nat) : Int))) then
    bif ((decide ((0 : Int) ≤ i)) && (decide (i < ((b.length : Nat) : Int)))) then
    bif (kReg_P r (List.getD b (i).toNat (0 : UInt8))) then
    next b (kReg_r r (List.getD b (i).toNat (0 : UInt8))) (addI i (1 : Int))
    else fail
    else fail
  else
  ex0 b r i
def kUpd_l1F {X : Type} (F : Nat) (fail : X) (ex0 : List UInt8 → UInt32 → Int → X) : Nat → List UInt8 → UInt32 → Int → X
  | 0, _, _, _ => fail
  | m + 1, b, r, i => kUpd_l1 F fail (kUpd_l1F F fail ex0 m) ex0 b r i

def kUpd {X : Type} (F : Nat) (sum : UInt32) (b : List UInt8) (fail : X) (ret : UInt32 → X) : X :=
  kUpd_l1F F fail
    (fun (b1 : List UInt8) (r : UInt32) (i : Int) =>
      ret (notW r))
    F b (notW sum) (0 : Int)

def kSum {X : Type} (F : Nat) (b : List UInt8) (fail : X) (ret : UInt32 → X) : X :=
  bif (kUpd_P (0 : UInt32) b) then
  ret (kUpd_r (0 : UInt32) b)
  else fail

def needed {X : Type} (F : Nat) (length : Int) (fail : X) (ret : Int → X) : X :=
  ret (quoI (subI (addI length (15 : Int)) (1 : Int)) (15 : Int))

def lPages {X : Type} (F : Nat) (length : Int) (fail : X) (ret : Int → X) : X :=
  bif (decide (length < (0 : Int))) then
    ret (0 : Int)
  else
  bif (decide (length > (65536 : Int))) then
    ret (0 : Int)
  else
  bif (needed_P length) then
  ret (addI (needed_r length) (1 : Int))
  else fail

def lCheck {X : Type} (F : Nat) (l : (Int × (Int × (Int × Unit)))) (fail : X) (ret : Int → X) : X :=
  bif (decide (l.2.2.1 < (2 : Int))) then
    ret (2 : Int)
  else
  bif (decide (l.2.2.1 > (8192 : Int))) then
    bif (decide (l.2.2.1 > (8192 : Int))) then
      ret (2 : Int)
    else
    bif (decide (l.2.1 < (0 : Int))) then
      ret (3 : Int)
    else
    bif (decide (l.2.1 ≥ l.1)) then
      ret (3 : Int)
    else
    ret (0 : Int)
  else
  bif (decide (l.1 < (1 : Int))) then
    ret (2 : Int)
  else
  bif (decide (l.1 > l.2.2.1)) then
    ret (2 : Int)
  else
  bif (decide (l.2.1 < (0 : Int))) then
    ret (3 : Int)
  else
  bif (decide (l.2.1 ≥ l.1)) then
    ret (3 : Int)
  else
  ret (0 : Int)

def lHead {X : Type} (F : Nat)  (fail : X) (ret : List UInt8 → X) : X :=
  ret ((([(3 : UInt8)] : List UInt8) ++ (List.take (min ([(99 : UInt8), (111 : UInt8), (109 : UInt8), (112 : UInt8), (97 : UInt8), (99 : UInt8), (116 : UInt8), (111 : UInt8), (114 : UInt8), (32 : UInt8), (108 : UInt8), (111 : UInt8), (103 : UInt8), (32 : UInt8), (49 : UInt8)] : List UInt8).length 15) ([(99 : UInt8), (111 : UInt8), (109 : UInt8), (112 : UInt8), (97 : UInt8), (99 : UInt8), (116 : UInt8), (111 : UInt8), (114 : UInt8), (32 : UInt8), (108 : UInt8), (111 : UInt8), (103 : UInt8), (32 : UInt8), (49 : UInt8)] : List UInt8))) ++ (List.drop (1 + (min ([(99 : UInt8), (111 : UInt8), (109 : UInt8), (112 : UInt8), (97 : UInt8), (99 : UInt8), (116 : UInt8), (111 : UInt8), (114 : UInt8), (32 : UInt8), (108 : UInt8), (111 : UInt8), (103 : UInt8), (32 : UInt8), (49 : UInt8)] : List UInt8).length 15)) ([(3 : UInt8), (0 : UInt8), (0 : UInt8), (0 : UInt8), (0 : UInt8), (0 : UInt8), (0 : UInt8), (0 : UInt8), (0 : UInt8), (0 : UInt8), (0 : UInt8), (0 : UInt8), (0 : UInt8), (0 : UInt8), (0 : UInt8), (0 : UInt8)] : List UInt8)))

def lValue_l1 {X : Type} (F : Nat) (fail : X) (next : Int → List UInt8 → Int → Int → X) (ex0 : Int → List UInt8 → Int → Int → X) (n : Int) (s6 : List UInt8) (s7 : Int) (s8 : Int) : X :=
  bif (decide (s8 < s7)) then
    bif ((decide ((0 : Int) ≤ s8)) && (decide (s8 < ((s6.length : Nat) : Int)))) then
    next (orI (shlI n (8 : Int)) (cvBI (List.getD s6 (s8).toNat (0 : UInt8)))) s6 s7 (addI s8 (1 : Int))
    else fail
  else
  ex0 n s6 s7 s8
def lValue_l1F {X : Type} (F : Nat) (fail : X) (ex0 : Int → List UInt8 → Int → Int → X) : Nat → Int → List UInt8 → Int → Int → X
  | 0, _, _, _, _ => fail
  | m + 1, n, s6, s7, s8 => lValue_l1 F fail (lValue_l1F F fail ex0 m) ex0 n s6 s7 s8

def lValue {X : Type} (F : Nat) (from_ : List UInt8) (fail : X) (ret : Int → X) : X :=
  lValue_l1F F fail
    (fun (n : Int) (s6 : List UInt8) (s7 : Int) (s8 : Int) =>
      ret n)
    F (0 : Int) from_ ((from_.length : Nat) : Int) (0 : Int)

def lEnd_l1 {X : Type} (F : Nat) (fail : X) (next : Nat → Nat → Int → Int → Int → List UInt8 → List UInt8 → List UInt8 → X) (ex0 : Nat → Nat → Int → Int → Int → List UInt8 → List UInt8 → List UInt8 → X) (to_i : Nat) (to_n : Nat) (n : Int) (s6 : Int) (s7 : Int) (payload : List UInt8) (to : List UInt8) (s4 : List UInt8) : X :=
  bif (decide (s7 < s6)) then
    bif (decide ((0 : Int) ≤ (mulI (8 : Int) s7))) then
    bif ((decide ((0 : Int) ≤ (subI (subI ((to_n : Nat) : Int) (1 : Int)) s7))) && (decide ((subI (subI ((to_n : Nat) : Int) (1 : Int)) s7) < ((to_n : Nat) : Int)))) then
    next to_i to_n n s6 (addI s7 (1 : Int)) payload (List.set to (to_i + ((subI (subI ((to_n : Nat) : Int) (1 : Int)) s7)).toNat) (cvIB (shrI n (mulI (8 : Int) s7)))) s4
    else fail
    else fail
  else
  ex0 to_i to_n n s6 s7 payload to s4
def lEnd_l1F {X : Type} (F : Nat) (fail : X) (ex0 : Nat → Nat → Int → Int → Int → List UInt8 → List UInt8 → List UInt8 → X) : Nat → Nat → Nat → Int → Int → Int → List UInt8 → List UInt8 → List UInt8 → X
  | 0, _, _, _, _, _, _, _, _ => fail
  | m + 1, to_i, to_n, n, s6, s7, payload, to, s4 => lEnd_l1 F fail (lEnd_l1F F fail ex0 m) ex0 to_i to_n n s6 s7 payload to s4

def lEnd_l2 {X : Type} (F : Nat) (fail : X) (next : Nat → Nat → Int → Int → Int → List UInt8 → Nat → Nat → List UInt8 → List UInt8 → X) (ex0 : Nat → Nat → Int → Int → Int → List UInt8 → Nat → Nat → List UInt8 → List UInt8 → X) (to_i : Nat) (to_n : Nat) (n : Int) (s6 : Int) (s7 : Int) (payload : List UInt8) (s10_i : Nat) (s10_n : Nat) (to : List UInt8) (s4 : List UInt8) : X :=
  bif (decide (s7 < s6)) then
    bif (decide ((0 : Int) ≤ (mulI (8 : Int) s7))) then
    bif ((decide ((0 : Int) ≤ (subI (subI ((to_n : Nat) : Int) (1 : Int)) s7))) && (decide ((subI (subI ((to_n : Nat) : Int) (1 : Int)) s7) < ((to_n : Nat) : Int)))) then
    next to_i to_n n s6 (addI s7 (1 : Int)) payload s10_i s10_n (List.set to (to_i + ((subI (subI ((to_n : Nat) : Int) (1 : Int)) s7)).toNat) (cvIB (shrI n (mulI (8 : Int) s7)))) s4
    else fail
    else fail
  else
  ex0 to_i to_n n s6 s7 payload s10_i s10_n to s4
def lEnd_l2F {X : Type} (F : Nat) (fail : X) (ex0 : Nat → Nat → Int → Int → Int → List UInt8 → Nat → Nat → List UInt8 → List UInt8 → X) : Nat → Nat → Nat → Int → Int → Int → List UInt8 → Nat → Nat → List UInt8 → List UInt8 → X
  | 0, _, _, _, _, _, _, _, _, _, _ => fail
  | m + 1, to_i, to_n, n, s6, s7, payload, s10_i, s10_n, to, s4 => lEnd_l2 F fail (lEnd_l2F F fail ex0 m) ex0 to_i to_n n s6 s7 payload s10_i s10_n to s4

def lEnd_l3 {X : Type} (F : Nat) (fail : X) (next : Nat → Nat → Int → Int → Int → List UInt8 → Nat → Nat → Nat → Nat → List UInt8 → List UInt8 → X) (ex0 : Nat → Nat → Int → Int → Int → List UInt8 → Nat → Nat → Nat → Nat → List UInt8 → List UInt8 → X) (to_i : Nat) (to_n : Nat) (n : Int) (s6 : Int) (s7 : Int) (payload : List UInt8) (s10_i : Nat) (s10_n : Nat) (s19_i : Nat) (s19_n : Nat) (to : List UInt8) (s4 : List UInt8) : X :=
  bif (decide (s7 < s6)) then
    bif (decide ((0 : Int) ≤ (mulI (8 : Int) s7))) then
    bif ((decide ((0 : Int) ≤ (subI (subI ((to_n : Nat) : Int) (1 : Int)) s7))) && (decide ((subI (subI ((to_n : Nat) : Int) (1 : Int)) s7) < ((to_n : Nat) : Int)))) then
    next to_i to_n n s6 (addI s7 (1 : Int)) payload s10_i s10_n s19_i s19_n (List.set to (to_i + ((subI (subI ((to_n : Nat) : Int) (1 : Int)) s7)).toNat) (cvIB (shrI n (mulI (8 : Int) s7)))) s4
    else fail
    else fail
  else
  ex0 to_i to_n n s6 s7 payload s10_i s10_n s19_i s19_n to s4
def lEnd_l3F {X : Type} (F : Nat) (fail : X) (ex0 : Nat → Nat → Int → Int → Int → List UInt8 → Nat → Nat → Nat → Nat → List UInt8 → List UInt8 → X) : Nat → Nat → Nat → Int → Int → Int → List UInt8 → Nat → Nat → Nat → Nat → List UInt8 → List UInt8 → X
  | 0, _, _, _, _, _, _, _, _, _, _, _, _ => fail
  | m + 1, to_i, to_n, n, s6, s7, payload, s10_i, s10_n, s19_i, s19_n, to, s4 => lEnd_l3 F fail (lEnd_l3F F fail ex0 m) ex0 to_i to_n n s6 s7 payload s10_i s10_n s19_i s19_n to s4

def lEnd {X : Type} (F : Nat) (payload : List UInt8) (commits : Int) (fail : X) (ret : List UInt8 → X) : X :=
  lEnd_l1F F fail
    (fun (to_i : Nat) (to_n : Nat) (n : Int) (s6 : Int) (s7 : Int) (payload1 : List UInt8) (to : List UInt8) (s4 : List UInt8) =>
      bif (needed_P ((payload1.length : Nat) : Int)) then
      lEnd_l2F F fail
        (fun (to_i1 : Nat) (to_n1 : Nat) (n1 : Int) (s61 : Int) (s71 : Int) (payload2 : List UInt8) (s10_i : Nat) (s10_n : Nat) (to1 : List UInt8) (s41 : List UInt8) =>
          lEnd_l2F F fail
            (fun (to_i2 : Nat) (to_n2 : Nat) (n2 : Int) (s62 : Int) (s72 : Int) (payload3 : List UInt8) (s10_i1 : Nat) (s10_n1 : Nat) (to2 : List UInt8) (s42 : List UInt8) =>
              bif (cSum_P payload3) then
              lEnd_l3F F fail
                (fun (to_i3 : Nat) (to_n3 : Nat) (n3 : Int) (s63 : Int) (s73 : Int) (payload4 : List UInt8) (s10_i2 : Nat) (s10_n2 : Nat) (s19_i : Nat) (s19_n : Nat) (to3 : List UInt8) (s43 : List UInt8) =>
                  ret to3)
                F 12 4 (cvWI (cSum_r payload3)) (4 : Int) (0 : Int) payload3 s10_i1 s10_n1 12 4 to2 s42
              else fail)
            F 8 4 ((payload2.length : Nat) : Int) (4 : Int) (0 : Int) payload2 s10_i s10_n to1 s41)
        F 5 3 (needed_r ((payload1.length : Nat) : Int)) (3 : Int) (0 : Int) payload1 5 3 to s4
      else fail)
    F 1 4 commits (4 : Int) (0 : Int) payload ([(2 : UInt8), (0 : UInt8), (0 : UInt8), (0 : UInt8), (0 : UInt8), (0 : UInt8), (0 : UInt8), (0 : UInt8), (0 : UInt8), (0 : UInt8), (0 : UInt8), (0 : UInt8), (0 : UInt8), (0 : UInt8), (0 : UInt8), (0 : UInt8)] : List UInt8) z16

def lWrite {X : Type} (F : Nat) (at_ : Int) (l : List (List UInt8)) (fail : X) (ret : (Int × (Int × ((List (List UInt8)) × Unit))) → X) : X :=
  ret ((0 : Int), (at_, (l, ())))

def lSync {X : Type} (F : Nat)  (fail : X) (ret : (Int × (Int × ((List (List UInt8)) × Unit))) → X) : X :=
  ret ((1 : Int), ((0 : Int), (([] : List (List UInt8)), ())))

def cfB_0_l1 {X : Type} (F : Nat) (fail : X) (next : List UInt8 → Int → Int → Int → X) (ex0 : List UInt8 → Int → Int → Int → X) (ex1 : List UInt8 → Int → Int → Int → X) (s : List UInt8) (s4 : Int) (s7 : Int) (s8 : Int) : X :=
  bif (decide (s8 < s7)) then
    bif ((decide ((0 : Int) ≤ s8)) && (decide (s8 < ((s.length : Nat) : Int)))) then
    bif (((((List.getD s (s8).toNat (0 : UInt8))).toNat : Nat) : Int) != (0 : Int)) then
      ex0 s s8 s7 s8
    else
    next s s4 s7 (addI s8 (1 : Int))
    else fail
  else
  ex1 s s4 s7 s8
def cfB_0_l1F {X : Type} (F : Nat) (fail : X) (ex0 : List UInt8 → Int → Int → Int → X) (ex1 : List UInt8 → Int → Int → Int → X) : Nat → List UInt8 → Int → Int → Int → X
  | 0, _, _, _, _ => fail
  | m + 1, s, s4, s7, s8 => cfB_0_l1 F fail (cfB_0_l1F F fail ex0 ex1 m) ex0 ex1 s s4 s7 s8

def cfB_0 {X : Type} (F : Nat) (s : List UInt8) (fail : X) (ret : Bool → X) : X :=
  cfB_0_l1F F fail
    (fun (s1 : List UInt8) (s4 : Int) (s7 : Int) (s8 : Int) =>
      ret (decide (s4 ≥ (0 : Int))))
    (fun (s2 : List UInt8) (s41 : Int) (s71 : Int) (s81 : Int) =>
      ret false)
    F s (0 : Int) ((s.length : Nat) : Int) (0 : Int)

def lFormat {X : Type} (F : Nat) (size : Int) (fail : X) (ret : (Int × (Int × (Int × Unit))) → List (Int × (Int × ((List (List UInt8)) × Unit))) → Int → X) : X :=
  bif (decide (size < (2 : Int))) then
    ret ((0 : Int), ((0 : Int), ((0 : Int), ()))) ([] : List (Int × (Int × ((List (List UInt8)) × Unit)))) (2 : Int)
  else
  bif (decide (size > (8192 : Int))) then
    ret ((0 : Int), ((0 : Int), ((0 : Int), ()))) ([] : List (Int × (Int × ((List (List UInt8)) × Unit)))) (2 : Int)
  else
  bif (((decide ((0 : Int) ≤ size)) && true) && (decide (size ≤ ((big : Nat) : Int)))) then
  bif (lWrite_P (0 : Int) (List.replicate (size).toNat z16)) then
  bif (lSync_P) then
  bif (lHead_P) then
  bif (lWrite_P (0 : Int) ([(lHead_r)] : List (List UInt8))) then
  bif (lSync_P) then
  ret ((1 : Int), ((0 : Int), (size, ()))) ([(lWrite_r (0 : Int) (List.replicate (size).toNat z16)), (lSync_r), (lWrite_r (0 : Int) ([(lHead_r)] : List (List UInt8))), (lSync_r)] : List (Int × (Int × ((List (List UInt8)) × Unit)))) (0 : Int)
  else fail
  else fail
  else fail
  else fail
  else fail
  else fail

def lAppend_l1 {X : Type} (F : Nat) (fail : X) (next : Int → List UInt8 → Int → Int → List (List UInt8) → List UInt8 → Int → (Int × (Int × (Int × Unit))) → (Int × (Int × (Int × Unit))) → X) (ex0 : Int → List UInt8 → Int → Int → List (List UInt8) → List UInt8 → Int → (Int × (Int × (Int × Unit))) → (Int × (Int × (Int × Unit))) → X) (i : Int) (payload : List UInt8) (s6 : Int) (n : Int) (parts : List (List UInt8)) (s1 : List UInt8) (s2 : Int) (l : (Int × (Int × (Int × Unit)))) (s4 : (Int × (Int × (Int × Unit)))) : X :=
  bif (decide (i < ((s1.length : Nat) : Int))) then
    bif ((decide ((0 : Int) ≤ i)) && (decide (i ≤ ((s1.length : Nat) : Int)))) then
    bif ((((decide ((0 : Int) ≤ i)) && (decide (i ≤ (addI i (minI s2 (((List.drop (i).toNat s1).length : Nat) : Int)))))) && (decide ((addI i (minI s2 (((List.drop (i).toNat s1).length : Nat) : Int))) ≤ ((s1.length : Nat) : Int)))) && ((addI i (minI s2 (((List.drop (i).toNat s1).length : Nat) : Int))) == (addI i (minI s2 (((List.drop (i).toNat s1).length : Nat) : Int))))) then
    bif (decide ((parts ++ ([((([(1 : UInt8)] : List UInt8) ++ (List.take (min (List.drop (i).toNat (List.take ((addI i (minI s2 (((List.drop (i).toNat s1).length : Nat) : Int)))).toNat s1)).length 15) (List.drop (i).toNat (List.take ((addI i (minI s2 (((List.drop (i).toNat s1).length : Nat) : Int)))).toNat s1)))) ++ (List.drop (1 + (min (List.drop (i).toNat (List.take ((addI i (minI s2 (((List.drop (i).toNat s1).length : Nat) : Int)))).toNat s1)).length 15)) ([(1 : UInt8), (0 : UInt8), (0 : UInt8), (0 : UInt8), (0 : UInt8), (0 : UInt8), (0 : UInt8), (0 : UInt8), (0 : UInt8), (0 : UInt8), (0 : UInt8), (0 : UInt8), (0 : UInt8), (0 : UInt8), (0 : UInt8), (0 : UInt8)] : List UInt8)))] : List (List UInt8))).length ≤ big)) then
    next (addI i s2) payload s6 n (parts ++ ([((([(1 : UInt8)] : List UInt8) ++ (List.take (min (List.drop (i).toNat (List.take ((addI i (minI s2 (((List.drop (i).toNat s1).length : Nat) : Int)))).toNat s1)).length 15) (List.drop (i).toNat (List.take ((addI i (minI s2 (((List.drop (i).toNat s1).length : Nat) : Int)))).toNat s1)))) ++ (List.drop (1 + (min (List.drop (i).toNat (List.take ((addI i (minI s2 (((List.drop (i).toNat s1).length : Nat) : Int)))).toNat s1)).length 15)) ([(1 : UInt8), (0 : UInt8), (0 : UInt8), (0 : UInt8), (0 : UInt8), (0 : UInt8), (0 : UInt8), (0 : UInt8), (0 : UInt8), (0 : UInt8), (0 : UInt8), (0 : UInt8), (0 : UInt8), (0 : UInt8), (0 : UInt8), (0 : UInt8)] : List UInt8)))] : List (List UInt8))) s1 s2 l s4
    else fail
    else fail
    else fail
  else
  ex0 i payload s6 n parts s1 s2 l s4
def lAppend_l1F {X : Type} (F : Nat) (fail : X) (ex0 : Int → List UInt8 → Int → Int → List (List UInt8) → List UInt8 → Int → (Int × (Int × (Int × Unit))) → (Int × (Int × (Int × Unit))) → X) : Nat → Int → List UInt8 → Int → Int → List (List UInt8) → List UInt8 → Int → (Int × (Int × (Int × Unit))) → (Int × (Int × (Int × Unit))) → X
  | 0, _, _, _, _, _, _, _, _, _ => fail
  | m + 1, i, payload, s6, n, parts, s1, s2, l, s4 => lAppend_l1 F fail (lAppend_l1F F fail ex0 m) ex0 i payload s6 n parts s1 s2 l s4

def lAppend {X : Type} (F : Nat) (l : (Int × (Int × (Int × Unit)))) (payload : List UInt8) (fail : X) (ret : (Int × (Int × (Int × Unit))) → List (Int × (Int × ((List (List UInt8)) × Unit))) → Int → X) : X :=
  bif ((lCheck_r l) != (0 : Int)) then
    ret ((0 : Int), ((0 : Int), ((0 : Int), ()))) ([] : List (Int × (Int × ((List (List UInt8)) × Unit)))) (lCheck_r l)
  else
  bif (lPages_P ((payload.length : Nat) : Int)) then
  bif (decide (((payload.length : Nat) : Int) > (65536 : Int))) then
    ret ((0 : Int), ((0 : Int), ((0 : Int), ()))) ([] : List (Int × (Int × ((List (List UInt8)) × Unit)))) (5 : Int)
  else
  bif (decide ((lPages_r ((payload.length : Nat) : Int)) > (subI l.2.2.1 l.1))) then
    ret ((0 : Int), ((0 : Int), ((0 : Int), ()))) ([] : List (Int × (Int × ((List (List UInt8)) × Unit)))) (11 : Int)
  else
  bif (decide ((lPages_r ((payload.length : Nat) : Int)) > (1 : Int))) then
    lAppend_l1F F fail
      (fun (i : Int) (payload1 : List UInt8) (s6 : Int) (n : Int) (parts : List (List UInt8)) (s1 : List UInt8) (s2 : Int) (l1 : (Int × (Int × (Int × Unit)))) (s4 : (Int × (Int × (Int × Unit)))) =>
        bif (lWrite_P l1.1 parts) then
        bif (lSync_P) then
        bif (lEnd_P payload1 (addI l1.2.1 (1 : Int))) then
        bif (lWrite_P (subI (addI l1.1 n) (1 : Int)) ([(lEnd_r payload1 (addI l1.2.1 (1 : Int)))] : List (List UInt8))) then
        bif (lSync_P) then
        ret ((addI l1.1 n), ((addI l1.2.1 (1 : Int)), (l1.2.2.1, ()))) ([(lWrite_r l1.1 parts), (lSync_r), (lWrite_r (subI (addI l1.1 n) (1 : Int)) ([(lEnd_r payload1 (addI l1.2.1 (1 : Int)))] : List (List UInt8))), (lSync_r)] : List (Int × (Int × ((List (List UInt8)) × Unit)))) (0 : Int)
        else fail
        else fail
        else fail
        else fail
        else fail)
      F (0 : Int) payload (0 : Int) (lPages_r ((payload.length : Nat) : Int)) ([] : List (List UInt8)) payload (15 : Int) l ((0 : Int), ((0 : Int), ((0 : Int), ())))
  else
  bif (lEnd_P payload (addI l.2.1 (1 : Int))) then
  bif (lWrite_P (subI (addI l.1 (lPages_r ((payload.length : Nat) : Int))) (1 : Int)) ([(lEnd_r payload (addI l.2.1 (1 : Int)))] : List (List UInt8))) then
  bif (lSync_P) then
  ret ((addI l.1 (lPages_r ((payload.length : Nat) : Int))), ((addI l.2.1 (1 : Int)), (l.2.2.1, ()))) ([(lWrite_r (subI (addI l.1 (lPages_r ((payload.length : Nat) : Int))) (1 : Int)) ([(lEnd_r payload (addI l.2.1 (1 : Int)))] : List (List UInt8))), (lSync_r)] : List (Int × (Int × ((List (List UInt8)) × Unit)))) (0 : Int)
  else fail
  else fail
  else fail
  else fail

def lScan_l2 {X : Type} (F : Nat) (fail : X) (next : Int → Int → List (List UInt8) → Int → Int → Int → ((List (List UInt8)) × Unit) → List UInt8 → Bool → List UInt8 → List (List UInt8) → X) (ex0 : Int → Int → List (List UInt8) → Int → Int → Int → ((List (List UInt8)) × Unit) → List UInt8 → Bool → List UInt8 → List (List UInt8) → X) (ex1 : Int → Int → List (List UInt8) → Int → Int → Int → ((List (List UInt8)) × Unit) → List UInt8 → Bool → List UInt8 → List (List UInt8) → X) (number : Int) (count : Int) (l : List (List UInt8)) (first : Int) (s5 : Int) (left : Int) (r : ((List (List UInt8)) × Unit)) (payload : List UInt8) (ok : Bool) (p : List UInt8) (out : List (List UInt8)) : X :=
  bif (((((List.getD p 0 (0 : UInt8))).toNat : Nat) : Int) == (1 : Int)) then
    bif (decide ((payload ++ (List.take 15 (List.drop 1 p))).length ≤ big)) then
    bif (!(decide (((r.1.length : Nat) : Int) > (0 : Int)))) then
      ex0 number (addI count (1 : Int)) l first s5 left r (payload ++ (List.take 15 (List.drop 1 p))) ok p out
    else
    bif (decide ((0 : Int) < ((r.1.length : Nat) : Int))) then
    bif (decide ((1 : Int) ≤ ((r.1.length : Nat) : Int))) then
    next number (addI count (1 : Int)) l first s5 left ((List.drop 1 r.1), r.2) (payload ++ (List.take 15 (List.drop 1 p))) ok (List.getD r.1 0 z16) out
    else fail
    else fail
    else fail
  else
  ex1 number count l first s5 left r payload ok p out
def lScan_l2F {X : Type} (F : Nat) (fail : X) (ex0 : Int → Int → List (List UInt8) → Int → Int → Int → ((List (List UInt8)) × Unit) → List UInt8 → Bool → List UInt8 → List (List UInt8) → X) (ex1 : Int → Int → List (List UInt8) → Int → Int → Int → ((List (List UInt8)) × Unit) → List UInt8 → Bool → List UInt8 → List (List UInt8) → X) : Nat → Int → Int → List (List UInt8) → Int → Int → Int → ((List (List UInt8)) × Unit) → List UInt8 → Bool → List UInt8 → List (List UInt8) → X
  | 0, _, _, _, _, _, _, _, _, _, _, _ => fail
  | m + 1, number, count, l, first, s5, left, r, payload, ok, p, out => lScan_l2 F fail (lScan_l2F F fail ex0 ex1 m) ex0 ex1 number count l first s5 left r payload ok p out

def lScan_l1 {X : Type} (F : Nat) (fail : X) (next : List (List UInt8) → Int → Int → List (List UInt8) → ((List (List UInt8)) × Unit) → X) (ex0 : List (List UInt8) → Int → Int → List (List UInt8) → ((List (List UInt8)) × Unit) → X) (l : List (List UInt8)) (first : Int) (s5 : Int) (out : List (List UInt8)) (r : ((List (List UInt8)) × Unit)) : X :=
  bif (!(decide (((r.1.length : Nat) : Int) > (0 : Int)))) then
    ex0 l first (subI ((l.length : Nat) : Int) ((r.1.length : Nat) : Int)) out r
  else
  bif (decide ((0 : Int) < ((r.1.length : Nat) : Int))) then
  bif (decide ((1 : Int) ≤ ((r.1.length : Nat) : Int))) then
  lScan_l2F F fail
    (fun (number : Int) (count : Int) (l1 : List (List UInt8)) (first1 : Int) (s51 : Int) (left : Int) (r1 : ((List (List UInt8)) × Unit)) (payload : List UInt8) (ok : Bool) (p : List UInt8) (out1 : List (List UInt8)) =>
      ex0 l1 first1 (subI ((l1.length : Nat) : Int) left) out1 r1)
    (fun (number1 : Int) (count1 : Int) (l2 : List (List UInt8)) (first2 : Int) (s52 : Int) (left1 : Int) (r2 : ((List (List UInt8)) × Unit)) (payload1 : List UInt8) (ok1 : Bool) (p1 : List UInt8) (out2 : List (List UInt8)) =>
      bif (lValue_P (List.take 4 (List.drop 8 p1))) then
      bif (((((List.getD p1 0 (0 : UInt8))).toNat : Nat) : Int) == (2 : Int)) then
        bif (lValue_P (List.take 4 (List.drop 1 p1))) then
        bif ((lValue_r (List.take 4 (List.drop 1 p1))) == number1) then
          bif (lValue_P (List.take 3 (List.drop 5 p1))) then
          bif ((lValue_r (List.take 3 (List.drop 5 p1))) == count1) then
            bif (decide ((lValue_r (List.take 4 (List.drop 8 p1))) ≤ (65536 : Int))) then
              bif (needed_P (lValue_r (List.take 4 (List.drop 8 p1)))) then
              bif (!((needed_r (lValue_r (List.take 4 (List.drop 8 p1)))) == count1)) then
                ex0 l2 first2 (subI ((l2.length : Nat) : Int) left1) out2 r2
              else
              bif ((decide ((0 : Int) ≤ (lValue_r (List.take 4 (List.drop 8 p1))))) && (decide ((lValue_r (List.take 4 (List.drop 8 p1))) ≤ ((payload1.length : Nat) : Int)))) then
              bif (((decide ((0 : Int) ≤ (lValue_r (List.take 4 (List.drop 8 p1))))) && (decide ((lValue_r (List.take 4 (List.drop 8 p1))) ≤ ((payload1.length : Nat) : Int)))) && ((lValue_r (List.take 4 (List.drop 8 p1))) == (lValue_r (List.take 4 (List.drop 8 p1))))) then
              bif (cfB_P (List.take (payload1.length - ((lValue_r (List.take 4 (List.drop 8 p1)))).toNat) (List.drop ((lValue_r (List.take 4 (List.drop 8 p1)))).toNat payload1)) (64 : Nat)) then
              bif (!(cfB_r (List.take (payload1.length - ((lValue_r (List.take 4 (List.drop 8 p1)))).toNat) (List.drop ((lValue_r (List.take 4 (List.drop 8 p1)))).toNat payload1)) (64 : Nat))) then
                bif (lValue_P (List.take 4 (List.drop 12 p1))) then
                bif (cSum_P (List.take ((lValue_r (List.take 4 (List.drop 8 p1)))).toNat payload1)) then
                bif (!((lValue_r (List.take 4 (List.drop 12 p1))) == (cvWI (cSum_r (List.take ((lValue_r (List.take 4 (List.drop 8 p1)))).toNat payload1))))) then
                  ex0 l2 first2 (subI ((l2.length : Nat) : Int) left1) out2 r2
                else
                bif (decide ((out2 ++ ([(List.take ((lValue_r (List.take 4 (List.drop 8 p1)))).toNat payload1)] : List (List UInt8))).length ≤ big)) then
                next l2 first2 s52 (out2 ++ ([(List.take ((lValue_r (List.take 4 (List.drop 8 p1)))).toNat payload1)] : List (List UInt8))) r2
                else fail
                else fail
                else fail
              else
              ex0 l2 first2 (subI ((l2.length : Nat) : Int) left1) out2 r2
              else fail
              else fail
              else fail
              else fail
            else
            ex0 l2 first2 (subI ((l2.length : Nat) : Int) left1) out2 r2
          else
          ex0 l2 first2 (subI ((l2.length : Nat) : Int) left1) out2 r2
          else fail
        else
        ex0 l2 first2 (subI ((l2.length : Nat) : Int) left1) out2 r2
        else fail
      else
      ex0 l2 first2 (subI ((l2.length : Nat) : Int) left1) out2 r2
      else fail)
    F (addI first ((out.length : Nat) : Int)) (0 : Int) l first s5 ((r.1.length : Nat) : Int) ((List.drop 1 r.1), r.2) ([] : List UInt8) false (List.getD r.1 0 z16) out
  else fail
  else fail
def lScan_l1F {X : Type} (F : Nat) (fail : X) (ex0 : List (List UInt8) → Int → Int → List (List UInt8) → ((List (List UInt8)) × Unit) → X) : Nat → List (List UInt8) → Int → Int → List (List UInt8) → ((List (List UInt8)) × Unit) → X
  | 0, _, _, _, _, _ => fail
  | m + 1, l, first, s5, out, r => lScan_l1 F fail (lScan_l1F F fail ex0 m) ex0 l first s5 out r

def lScan {X : Type} (F : Nat) (l : List (List UInt8)) (first : Int) (fail : X) (ret : List (List UInt8) → Int → X) : X :=
  bif (decide (first < (1 : Int))) then
    ret ([] : List (List UInt8)) (0 : Int)
  else
  bif (decide (first > (8192 : Int))) then
    ret ([] : List (List UInt8)) (0 : Int)
  else
  lScan_l1F F fail
    (fun (l1 : List (List UInt8)) (first1 : Int) (s5 : Int) (s4 : List (List UInt8)) (r : ((List (List UInt8)) × Unit)) =>
      ret s4 s5)
    F l first (0 : Int) ([] : List (List UInt8)) (l, ())

def lOpen {X : Type} (F : Nat) (d_ : ((List (List UInt8)) × ((List (Int × ((List UInt8) × Unit))) × Unit))) (fail : X) (ret : (Int × (Int × (Int × Unit))) → List (List UInt8) → Int → X) : X :=
  bif (dRead_P d_ (0 : Int) ((d_.1.length : Nat) : Int)) then
  bif ((dRead_r1 d_ (0 : Int) ((d_.1.length : Nat) : Int)) != (0 : Int)) then
    ret ((0 : Int), ((0 : Int), ((0 : Int), ()))) ([] : List (List UInt8)) (dRead_r1 d_ (0 : Int) ((d_.1.length : Nat) : Int))
  else
  bif (decide ((((dRead_r0 d_ (0 : Int) ((d_.1.length : Nat) : Int)).length : Nat) : Int) < (2 : Int))) then
    ret ((0 : Int), ((0 : Int), ((0 : Int), ()))) ([] : List (List UInt8)) (2 : Int)
  else
  bif (decide ((0 : Int) < (((dRead_r0 d_ (0 : Int) ((d_.1.length : Nat) : Int)).length : Nat) : Int))) then
  bif (lHead_P) then
  bif (!(beqT (.arr 16 (.int .u8)) (List.getD (dRead_r0 d_ (0 : Int) ((d_.1.length : Nat) : Int)) 0 z16) (lHead_r))) then
    ret ((0 : Int), ((0 : Int), ((0 : Int), ()))) ([] : List (List UInt8)) (3 : Int)
  else
  bif (decide ((1 : Int) ≤ (((dRead_r0 d_ (0 : Int) ((d_.1.length : Nat) : Int)).length : Nat) : Int))) then
  bif (lScan_P (List.take ((dRead_r0 d_ (0 : Int) ((d_.1.length : Nat) : Int)).length - 1) (List.drop 1 (dRead_r0 d_ (0 : Int) ((d_.1.length : Nat) : Int)))) (1 : Int)) then
  ret ((addI (1 : Int) (lScan_r1 (List.take ((dRead_r0 d_ (0 : Int) ((d_.1.length : Nat) : Int)).length - 1) (List.drop 1 (dRead_r0 d_ (0 : Int) ((d_.1.length : Nat) : Int)))) (1 : Int))), ((((lScan_r0 (List.take ((dRead_r0 d_ (0 : Int) ((d_.1.length : Nat) : Int)).length - 1) (List.drop 1 (dRead_r0 d_ (0 : Int) ((d_.1.length : Nat) : Int)))) (1 : Int)).length : Nat) : Int), ((((dRead_r0 d_ (0 : Int) ((d_.1.length : Nat) : Int)).length : Nat) : Int), ()))) (lScan_r0 (List.take ((dRead_r0 d_ (0 : Int) ((d_.1.length : Nat) : Int)).length - 1) (List.drop 1 (dRead_r0 d_ (0 : Int) ((d_.1.length : Nat) : Int)))) (1 : Int)) (0 : Int)
  else fail
  else fail
  else fail
  else fail
  else fail

def qDataPages {X : Type} (F : Nat) (n : Int) (fail : X) (ret : Int → X) : X :=
  ret (quoI (addI n (14 : Int)) (15 : Int))

def qPages {X : Type} (F : Nat) (length : Int) (fail : X) (ret : Int → X) : X :=
  bif (decide (length < (0 : Int))) then
    ret (0 : Int)
  else
  bif (decide (length > (65536 : Int))) then
    ret (0 : Int)
  else
  bif (qDataPages_P length) then
  ret (addI (qDataPages_r length) (1 : Int))
  else fail

def qLCheck {X : Type} (F : Nat) (l : (Int × (Int × (Int × Unit)))) (fail : X) (ret : Int → X) : X :=
  bif (decide (l.2.2.1 < (2 : Int))) then
    ret (2 : Int)
  else
  bif (decide (l.2.2.1 > (8192 : Int))) then
    ret (2 : Int)
  else
  bif (decide (l.1 < (1 : Int))) then
    ret (2 : Int)
  else
  bif (decide (l.1 > l.2.2.1)) then
    ret (2 : Int)
  else
  bif (decide (l.2.1 < (0 : Int))) then
    ret (3 : Int)
  else
  bif (decide (l.2.1 > (subI l.1 (1 : Int)))) then
    ret (3 : Int)
  else
  ret (0 : Int)

def qHeader_l1 {X : Type} (F : Nat) (fail : X) (next : List UInt8 → Int → List UInt8 → List UInt8 → X) (ex0 : List UInt8 → Int → List UInt8 → List UInt8 → X) (text : List UInt8) (i : Int) (s0 : List UInt8) (p : List UInt8) : X :=
  bif (decide (i < ((text.length : Nat) : Int))) then
    bif ((decide ((0 : Int) ≤ i)) && (decide (i < ((text.length : Nat) : Int)))) then
    bif ((decide ((0 : Int) ≤ (addI i (1 : Int)))) && (decide ((addI i (1 : Int)) < ((16 : Nat) : Int)))) then
    next text (addI i (1 : Int)) s0 (List.set p ((addI i (1 : Int))).toNat (List.getD text (i).toNat (0 : UInt8)))
    else fail
    else fail
  else
  ex0 text i s0 p
def qHeader_l1F {X : Type} (F : Nat) (fail : X) (ex0 : List UInt8 → Int → List UInt8 → List UInt8 → X) : Nat → List UInt8 → Int → List UInt8 → List UInt8 → X
  | 0, _, _, _, _ => fail
  | m + 1, text, i, s0, p => qHeader_l1 F fail (qHeader_l1F F fail ex0 m) ex0 text i s0 p

def qHeader {X : Type} (F : Nat)  (fail : X) (ret : List UInt8 → X) : X :=
  qHeader_l1F F fail
    (fun (text : List UInt8) (i : Int) (s0 : List UInt8) (p : List UInt8) =>
      ret p)
    F ([(99 : UInt8), (111 : UInt8), (109 : UInt8), (112 : UInt8), (97 : UInt8), (99 : UInt8), (116 : UInt8), (111 : UInt8), (114 : UInt8), (32 : UInt8), (108 : UInt8), (111 : UInt8), (103 : UInt8), (32 : UInt8), (49 : UInt8)] : List UInt8) (0 : Int) z16 ([(3 : UInt8), (0 : UInt8), (0 : UInt8), (0 : UInt8), (0 : UInt8), (0 : UInt8), (0 : UInt8), (0 : UInt8), (0 : UInt8), (0 : UInt8), (0 : UInt8), (0 : UInt8), (0 : UInt8), (0 : UInt8), (0 : UInt8), (0 : UInt8)] : List UInt8)

def qFormat {X : Type} (F : Nat) (size : Int) (fail : X) (ret : (Int × (Int × (Int × Unit))) → List (Int × (Int × ((List (List UInt8)) × Unit))) → Int → X) : X :=
  bif (decide (size < (2 : Int))) then
    ret ((0 : Int), ((0 : Int), ((0 : Int), ()))) ([] : List (Int × (Int × ((List (List UInt8)) × Unit)))) (2 : Int)
  else
  bif (decide (size > (8192 : Int))) then
    ret ((0 : Int), ((0 : Int), ((0 : Int), ()))) ([] : List (Int × (Int × ((List (List UInt8)) × Unit)))) (2 : Int)
  else
  bif (((decide ((0 : Int) ≤ size)) && true) && (decide (size ≤ ((big : Nat) : Int)))) then
  bif (qHeader_P) then
  ret ((1 : Int), ((0 : Int), (size, ()))) ([((0 : Int), ((0 : Int), ((List.replicate (size).toNat z16), ()))), ((1 : Int), ((0 : Int), (([] : List (List UInt8)), ()))), ((0 : Int), ((0 : Int), (([(qHeader_r)] : List (List UInt8)), ()))), ((1 : Int), ((0 : Int), (([] : List (List UInt8)), ())))] : List (Int × (Int × ((List (List UInt8)) × Unit)))) (0 : Int)
  else fail
  else fail

def qData_l1 {X : Type} (F : Nat) (fail : X) (next : List UInt8 → Int → List (List UInt8) → X) (ex0 : List UInt8 → Int → List (List UInt8) → X) (payload : List UInt8) (i : Int) (out : List (List UInt8)) : X :=
  bif (decide (i < ((out.length : Nat) : Int))) then
    bif ((decide ((0 : Int) ≤ i)) && (decide (i < ((out.length : Nat) : Int)))) then
    next payload (addI i (1 : Int)) (List.set out (i).toNat (List.set (List.getD out (i).toNat z16) 0 (1 : UInt8)))
    else fail
  else
  ex0 payload i out
def qData_l1F {X : Type} (F : Nat) (fail : X) (ex0 : List UInt8 → Int → List (List UInt8) → X) : Nat → List UInt8 → Int → List (List UInt8) → X
  | 0, _, _, _ => fail
  | m + 1, payload, i, out => qData_l1 F fail (qData_l1F F fail ex0 m) ex0 payload i out

def qData_l2 {X : Type} (F : Nat) (fail : X) (next : List UInt8 → Int → List (List UInt8) → X) (ex0 : List UInt8 → Int → List (List UInt8) → X) (payload : List UInt8) (i : Int) (out : List (List UInt8)) : X :=
  bif (decide (i < ((payload.length : Nat) : Int))) then
    bif ((decide ((0 : Int) ≤ i)) && (decide (i < ((payload.length : Nat) : Int)))) then
    bif ((decide ((0 : Int) ≤ (quoI i (15 : Int)))) && (decide ((quoI i (15 : Int)) < ((out.length : Nat) : Int)))) then
    bif ((decide ((0 : Int) ≤ (addI (1 : Int) (remI i (15 : Int))))) && (decide ((addI (1 : Int) (remI i (15 : Int))) < ((16 : Nat) : Int)))) then
    next payload (addI i (1 : Int)) (List.set out ((quoI i (15 : Int))).toNat (List.set (List.getD out ((quoI i (15 : Int))).toNat z16) ((addI (1 : Int) (remI i (15 : Int)))).toNat (List.getD payload (i).toNat (0 : UInt8))))
    else fail
    else fail
    else fail
  else
  ex0 payload i out
def qData_l2F {X : Type} (F : Nat) (fail : X) (ex0 : List UInt8 → Int → List (List UInt8) → X) : Nat → List UInt8 → Int → List (List UInt8) → X
  | 0, _, _, _ => fail
  | m + 1, payload, i, out => qData_l2 F fail (qData_l2F F fail ex0 m) ex0 payload i out

def qData {X : Type} (F : Nat) (payload : List UInt8) (fail : X) (ret : List (List UInt8) → X) : X :=
  bif (qDataPages_P ((payload.length : Nat) : Int)) then
  bif (((decide ((0 : Int) ≤ (qDataPages_r ((payload.length : Nat) : Int)))) && true) && (decide ((qDataPages_r ((payload.length : Nat) : Int)) ≤ ((big : Nat) : Int)))) then
  qData_l1F F fail
    (fun (payload1 : List UInt8) (i : Int) (out : List (List UInt8)) =>
      qData_l2F F fail
        (fun (payload2 : List UInt8) (i1 : Int) (out1 : List (List UInt8)) =>
          ret out1)
        F payload1 (0 : Int) out)
    F payload (0 : Int) (List.replicate ((qDataPages_r ((payload.length : Nat) : Int))).toNat z16)
  else fail
  else fail

def qPut_l1 {X : Type} (F : Nat) (fail : X) (next : Int → Int → Int → List UInt8 → List UInt8 → X) (ex0 : Int → Int → Int → List UInt8 → List UInt8 → X) (at_ : Int) (n : Int) (i : Int) (p : List UInt8) (s8 : List UInt8) : X :=
  bif (decide (i ≥ (0 : Int))) then
    bif ((decide ((0 : Int) ≤ (addI at_ i))) && (decide ((addI at_ i) < ((16 : Nat) : Int)))) then
    next at_ (quoI n (256 : Int)) (subI i (1 : Int)) (List.set p ((addI at_ i)).toNat (cvIB (remI n (256 : Int)))) s8
    else fail
  else
  ex0 at_ n i p s8
def qPut_l1F {X : Type} (F : Nat) (fail : X) (ex0 : Int → Int → Int → List UInt8 → List UInt8 → X) : Nat → Int → Int → Int → List UInt8 → List UInt8 → X
  | 0, _, _, _, _, _ => fail
  | m + 1, at_, n, i, p, s8 => qPut_l1 F fail (qPut_l1F F fail ex0 m) ex0 at_ n i p s8

def qPut {X : Type} (F : Nat) (p : List UInt8) (at_ : Int) (size : Int) (n : Int) (fail : X) (ret : List UInt8 → X) : X :=
  qPut_l1F F fail
    (fun (at_1 : Int) (n1 : Int) (i : Int) (p1 : List UInt8) (s8 : List UInt8) =>
      ret p1)
    F at_ n (subI size (1 : Int)) p z16

def qGet_l1 {X : Type} (F : Nat) (fail : X) (next : Int → Int → Int → Int → List UInt8 → X) (ex0 : Int → Int → Int → Int → List UInt8 → X) (at_ : Int) (size : Int) (n : Int) (i : Int) (p : List UInt8) : X :=
  bif (decide (i < size)) then
    bif ((decide ((0 : Int) ≤ (addI at_ i))) && (decide ((addI at_ i) < ((16 : Nat) : Int)))) then
    next at_ size (addI (mulI (256 : Int) n) (cvBI (List.getD p ((addI at_ i)).toNat (0 : UInt8)))) (addI i (1 : Int)) p
    else fail
  else
  ex0 at_ size n i p
def qGet_l1F {X : Type} (F : Nat) (fail : X) (ex0 : Int → Int → Int → Int → List UInt8 → X) : Nat → Int → Int → Int → Int → List UInt8 → X
  | 0, _, _, _, _, _ => fail
  | m + 1, at_, size, n, i, p => qGet_l1 F fail (qGet_l1F F fail ex0 m) ex0 at_ size n i p

def qGet {X : Type} (F : Nat) (p : List UInt8) (at_ : Int) (size : Int) (fail : X) (ret : Int → X) : X :=
  qGet_l1F F fail
    (fun (at_1 : Int) (size1 : Int) (n : Int) (i : Int) (p1 : List UInt8) =>
      ret n)
    F at_ size (0 : Int) (0 : Int) p

def qCommit {X : Type} (F : Nat) (payload : List UInt8) (number : Int) (fail : X) (ret : List UInt8 → X) : X :=
  bif (qPut_P ([(2 : UInt8), (0 : UInt8), (0 : UInt8), (0 : UInt8), (0 : UInt8), (0 : UInt8), (0 : UInt8), (0 : UInt8), (0 : UInt8), (0 : UInt8), (0 : UInt8), (0 : UInt8), (0 : UInt8), (0 : UInt8), (0 : UInt8), (0 : UInt8)] : List UInt8) (1 : Int) (4 : Int) number) then
  bif (qDataPages_P ((payload.length : Nat) : Int)) then
  bif (qPut_P (qPut_r ([(2 : UInt8), (0 : UInt8), (0 : UInt8), (0 : UInt8), (0 : UInt8), (0 : UInt8), (0 : UInt8), (0 : UInt8), (0 : UInt8), (0 : UInt8), (0 : UInt8), (0 : UInt8), (0 : UInt8), (0 : UInt8), (0 : UInt8), (0 : UInt8)] : List UInt8) (1 : Int) (4 : Int) number) (5 : Int) (3 : Int) (qDataPages_r ((payload.length : Nat) : Int))) then
  bif (qPut_P (qPut_r (qPut_r ([(2 : UInt8), (0 : UInt8), (0 : UInt8), (0 : UInt8), (0 : UInt8), (0 : UInt8), (0 : UInt8), (0 : UInt8), (0 : UInt8), (0 : UInt8), (0 : UInt8), (0 : UInt8), (0 : UInt8), (0 : UInt8), (0 : UInt8), (0 : UInt8)] : List UInt8) (1 : Int) (4 : Int) number) (5 : Int) (3 : Int) (qDataPages_r ((payload.length : Nat) : Int))) (8 : Int) (4 : Int) ((payload.length : Nat) : Int)) then
  bif (kSum_P payload) then
  bif (qPut_P (qPut_r (qPut_r (qPut_r ([(2 : UInt8), (0 : UInt8), (0 : UInt8), (0 : UInt8), (0 : UInt8), (0 : UInt8), (0 : UInt8), (0 : UInt8), (0 : UInt8), (0 : UInt8), (0 : UInt8), (0 : UInt8), (0 : UInt8), (0 : UInt8), (0 : UInt8), (0 : UInt8)] : List UInt8) (1 : Int) (4 : Int) number) (5 : Int) (3 : Int) (qDataPages_r ((payload.length : Nat) : Int))) (8 : Int) (4 : Int) ((payload.length : Nat) : Int)) (12 : Int) (4 : Int) (cvWI (kSum_r payload))) then
  ret (qPut_r (qPut_r (qPut_r (qPut_r ([(2 : UInt8), (0 : UInt8), (0 : UInt8), (0 : UInt8), (0 : UInt8), (0 : UInt8), (0 : UInt8), (0 : UInt8), (0 : UInt8), (0 : UInt8), (0 : UInt8), (0 : UInt8), (0 : UInt8), (0 : UInt8), (0 : UInt8), (0 : UInt8)] : List UInt8) (1 : Int) (4 : Int) number) (5 : Int) (3 : Int) (qDataPages_r ((payload.length : Nat) : Int))) (8 : Int) (4 : Int) ((payload.length : Nat) : Int)) (12 : Int) (4 : Int) (cvWI (kSum_r payload)))
  else fail
  else fail
  else fail
  else fail
  else fail
  else fail

def qAppend {X : Type} (F : Nat) (l : (Int × (Int × (Int × Unit)))) (payload : List UInt8) (fail : X) (ret : (Int × (Int × (Int × Unit))) → List (Int × (Int × ((List (List UInt8)) × Unit))) → Int → X) : X :=
  bif ((qLCheck_r l) != (0 : Int)) then
    ret ((0 : Int), ((0 : Int), ((0 : Int), ()))) ([] : List (Int × (Int × ((List (List UInt8)) × Unit)))) (qLCheck_r l)
  else
  bif (decide (((payload.length : Nat) : Int) > (65536 : Int))) then
    ret ((0 : Int), ((0 : Int), ((0 : Int), ()))) ([] : List (Int × (Int × ((List (List UInt8)) × Unit)))) (5 : Int)
  else
  bif (qPages_P ((payload.length : Nat) : Int)) then
  bif (decide ((addI l.1 (qPages_r ((payload.length : Nat) : Int))) > l.2.2.1)) then
    ret ((0 : Int), ((0 : Int), ((0 : Int), ()))) ([] : List (Int × (Int × ((List (List UInt8)) × Unit)))) (11 : Int)
  else
  bif (decide ((qPages_r ((payload.length : Nat) : Int)) > (1 : Int))) then
    bif (qData_P payload) then
    bif (qCommit_P payload (addI l.2.1 (1 : Int))) then
    ret ((addI l.1 (qPages_r ((payload.length : Nat) : Int))), ((addI l.2.1 (1 : Int)), (l.2.2.1, ()))) ([((0 : Int), (l.1, ((qData_r payload), ()))), ((1 : Int), ((0 : Int), (([] : List (List UInt8)), ()))), ((0 : Int), ((subI (addI l.1 (qPages_r ((payload.length : Nat) : Int))) (1 : Int)), (([(qCommit_r payload (addI l.2.1 (1 : Int)))] : List (List UInt8)), ()))), ((1 : Int), ((0 : Int), (([] : List (List UInt8)), ())))] : List (Int × (Int × ((List (List UInt8)) × Unit)))) (0 : Int)
    else fail
    else fail
  else
  bif (qCommit_P payload (addI l.2.1 (1 : Int))) then
  ret ((addI l.1 (qPages_r ((payload.length : Nat) : Int))), ((addI l.2.1 (1 : Int)), (l.2.2.1, ()))) ([((0 : Int), ((subI (addI l.1 (qPages_r ((payload.length : Nat) : Int))) (1 : Int)), (([(qCommit_r payload (addI l.2.1 (1 : Int)))] : List (List UInt8)), ()))), ((1 : Int), ((0 : Int), (([] : List (List UInt8)), ())))] : List (Int × (Int × ((List (List UInt8)) × Unit)))) (0 : Int)
  else fail
  else fail

def qComplete_l1 {X : Type} (F : Nat) (fail : X) (next : List (List UInt8) → Int → Int → X) (ex0 : List (List UInt8) → Int → Int → X) (l : List (List UInt8)) (number : Int) (k : Int) : X :=
  bif (decide (k < ((l.length : Nat) : Int))) then
    bif ((decide ((0 : Int) ≤ k)) && (decide (k < ((l.length : Nat) : Int)))) then
    bif (((((List.getD (List.getD l (k).toNat z16) 0 (0 : UInt8))).toNat : Nat) : Int) == (1 : Int)) then
      next l number (addI k (1 : Int))
    else
    ex0 l number k
    else fail
  else
  ex0 l number k
def qComplete_l1F {X : Type} (F : Nat) (fail : X) (ex0 : List (List UInt8) → Int → Int → X) : Nat → List (List UInt8) → Int → Int → X
  | 0, _, _, _ => fail
  | m + 1, l, number, k => qComplete_l1 F fail (qComplete_l1F F fail ex0 m) ex0 l number k

def qComplete_l2 {X : Type} (F : Nat) (fail : X) (next : List (List UInt8) → Int → Int → Int → Int → List UInt8 → X) (ex0 : List (List UInt8) → Int → Int → Int → Int → List UInt8 → X) (l : List (List UInt8)) (number : Int) (k : Int) (n : Int) (i : Int) (payload : List UInt8) : X :=
  bif (decide (i < n)) then
    bif ((decide ((0 : Int) ≤ (quoI i (15 : Int)))) && (decide ((quoI i (15 : Int)) < ((l.length : Nat) : Int)))) then
    bif ((decide ((0 : Int) ≤ (addI (1 : Int) (remI i (15 : Int))))) && (decide ((addI (1 : Int) (remI i (15 : Int))) < ((16 : Nat) : Int)))) then
    bif (decide ((payload ++ ([(List.getD (List.getD l ((quoI i (15 : Int))).toNat z16) ((addI (1 : Int) (remI i (15 : Int)))).toNat (0 : UInt8))] : List UInt8)).length ≤ big)) then
    next l number k n (addI i (1 : Int)) (payload ++ ([(List.getD (List.getD l ((quoI i (15 : Int))).toNat z16) ((addI (1 : Int) (remI i (15 : Int)))).toNat (0 : UInt8))] : List UInt8))
    else fail
    else fail
    else fail
  else
  ex0 l number k n i payload
def qComplete_l2F {X : Type} (F : Nat) (fail : X) (ex0 : List (List UInt8) → Int → Int → Int → Int → List UInt8 → X) : Nat → List (List UInt8) → Int → Int → Int → Int → List UInt8 → X
  | 0, _, _, _, _, _, _ => fail
  | m + 1, l, number, k, n, i, payload => qComplete_l2 F fail (qComplete_l2F F fail ex0 m) ex0 l number k n i payload

def qComplete {X : Type} (F : Nat) (l : List (List UInt8)) (number : Int) (fail : X) (ret : List UInt8 → Int → Bool → X) : X :=
  qComplete_l1F F fail
    (fun (l1 : List (List UInt8)) (number1 : Int) (k : Int) =>
      bif (k == ((l1.length : Nat) : Int)) then
        ret ([] : List UInt8) (0 : Int) false
      else
      bif ((decide ((0 : Int) ≤ k)) && (decide (k < ((l1.length : Nat) : Int)))) then
      bif (qGet_P (List.getD l1 (k).toNat z16) (8 : Int) (4 : Int)) then
      bif (decide ((qGet_r (List.getD l1 (k).toNat z16) (8 : Int) (4 : Int)) > (65536 : Int))) then
        ret ([] : List UInt8) (0 : Int) false
      else
      bif (decide ((qGet_r (List.getD l1 (k).toNat z16) (8 : Int) (4 : Int)) > (mulI (15 : Int) k))) then
        ret ([] : List UInt8) (0 : Int) false
      else
      qComplete_l2F F fail
        (fun (l2 : List (List UInt8)) (number2 : Int) (k1 : Int) (n : Int) (i : Int) (payload : List UInt8) =>
          bif ((decide ((0 : Int) ≤ k1)) && (decide (k1 < ((l2.length : Nat) : Int)))) then
          bif (qCommit_P payload number2) then
          bif (!(beqT (.arr 16 (.int .u8)) (List.getD l2 (k1).toNat z16) (qCommit_r payload number2))) then
            ret ([] : List UInt8) (0 : Int) false
          else
          bif ((decide ((0 : Int) ≤ k1)) && (decide (k1 < ((l2.length : Nat) : Int)))) then
          bif (qGet_P (List.getD l2 (k1).toNat z16) (5 : Int) (3 : Int)) then
          bif ((qGet_r (List.getD l2 (k1).toNat z16) (5 : Int) (3 : Int)) != k1) then
            ret ([] : List UInt8) (0 : Int) false
          else
          bif ((decide ((0 : Int) ≤ k1)) && (decide (k1 ≤ ((l2.length : Nat) : Int)))) then
          bif (qData_P payload) then
          bif (rSamePages_P (List.take (k1).toNat l2) (qData_r payload)) then
          bif (!(rSamePages_r (List.take (k1).toNat l2) (qData_r payload))) then
            ret ([] : List UInt8) (0 : Int) false
          else
          ret payload (addI k1 (1 : Int)) true
          else fail
          else fail
          else fail
          else fail
          else fail
          else fail
          else fail)
        F l1 number1 k (qGet_r (List.getD l1 (k).toNat z16) (8 : Int) (4 : Int)) (0 : Int) ([] : List UInt8)
      else fail
      else fail)
    F l number (0 : Int)

def qScan_l1 {X : Type} (F : Nat) (fail : X) (next : List (List UInt8) → Int → Int → List UInt8 → Int → Bool → List (List UInt8) → X) (ex0 : List (List UInt8) → Int → Int → List UInt8 → Int → Bool → List (List UInt8) → X) (l : List (List UInt8)) (first : Int) (n : Int) (b : List UInt8) (k : Int) (ok : Bool) (out : List (List UInt8)) : X :=
  bif ok then
    bif (decide ((out ++ ([b] : List (List UInt8))).length ≤ big)) then
    bif ((decide ((0 : Int) ≤ (addI n k))) && (decide ((addI n k) ≤ ((l.length : Nat) : Int)))) then
    bif (qComplete_P (List.drop ((addI n k)).toNat l) (addI first (((out ++ ([b] : List (List UInt8))).length : Nat) : Int))) then
    next l first (addI n k) (qComplete_r0 (List.drop ((addI n k)).toNat l) (addI first (((out ++ ([b] : List (List UInt8))).length : Nat) : Int))) (qComplete_r1 (List.drop ((addI n k)).toNat l) (addI first (((out ++ ([b] : List (List UInt8))).length : Nat) : Int))) (qComplete_r2 (List.drop ((addI n k)).toNat l) (addI first (((out ++ ([b] : List (List UInt8))).length : Nat) : Int))) (out ++ ([b] : List (List UInt8)))
    else fail
    else fail
    else fail
  else
  ex0 l first n b k ok out
def qScan_l1F {X : Type} (F : Nat) (fail : X) (ex0 : List (List UInt8) → Int → Int → List UInt8 → Int → Bool → List (List UInt8) → X) : Nat → List (List UInt8) → Int → Int → List UInt8 → Int → Bool → List (List UInt8) → X
  | 0, _, _, _, _, _, _, _ => fail
  | m + 1, l, first, n, b, k, ok, out => qScan_l1 F fail (qScan_l1F F fail ex0 m) ex0 l first n b k ok out

def qScan {X : Type} (F : Nat) (l : List (List UInt8)) (first : Int) (fail : X) (ret : List (List UInt8) → Int → X) : X :=
  bif (decide (first < (1 : Int))) then
    ret ([] : List (List UInt8)) (0 : Int)
  else
  bif (decide (first > (8192 : Int))) then
    ret ([] : List (List UInt8)) (0 : Int)
  else
  bif (qComplete_P l first) then
  qScan_l1F F fail
    (fun (l1 : List (List UInt8)) (first1 : Int) (n : Int) (b : List UInt8) (k : Int) (ok : Bool) (out : List (List UInt8)) =>
      ret out n)
    F l first (0 : Int) (qComplete_r0 l first) (qComplete_r1 l first) (qComplete_r2 l first) ([] : List (List UInt8))
  else fail

def qOpen {X : Type} (F : Nat) (d_ : ((List (List UInt8)) × ((List (Int × ((List UInt8) × Unit))) × Unit))) (fail : X) (ret : (Int × (Int × (Int × Unit))) → List (List UInt8) → Int → X) : X :=
  bif (rCheck_P d_) then
  bif ((rCheck_r d_) != (0 : Int)) then
    ret ((0 : Int), ((0 : Int), ((0 : Int), ()))) ([] : List (List UInt8)) (rCheck_r d_)
  else
  bif (decide (((d_.1.length : Nat) : Int) < (2 : Int))) then
    ret ((0 : Int), ((0 : Int), ((0 : Int), ()))) ([] : List (List UInt8)) (2 : Int)
  else
  bif (rRead_P d_ (0 : Int) ((d_.1.length : Nat) : Int)) then
  bif (decide ((0 : Int) < (((rRead_r0 d_ (0 : Int) ((d_.1.length : Nat) : Int)).length : Nat) : Int))) then
  bif (qHeader_P) then
  bif (!(beqT (.arr 16 (.int .u8)) (List.getD (rRead_r0 d_ (0 : Int) ((d_.1.length : Nat) : Int)) 0 z16) (qHeader_r))) then
    ret ((0 : Int), ((0 : Int), ((0 : Int), ()))) ([] : List (List UInt8)) (3 : Int)
  else
  bif (decide ((1 : Int) ≤ (((rRead_r0 d_ (0 : Int) ((d_.1.length : Nat) : Int)).length : Nat) : Int))) then
  bif (qScan_P (List.take ((rRead_r0 d_ (0 : Int) ((d_.1.length : Nat) : Int)).length - 1) (List.drop 1 (rRead_r0 d_ (0 : Int) ((d_.1.length : Nat) : Int)))) (1 : Int)) then
  ret ((addI (1 : Int) (qScan_r1 (List.take ((rRead_r0 d_ (0 : Int) ((d_.1.length : Nat) : Int)).length - 1) (List.drop 1 (rRead_r0 d_ (0 : Int) ((d_.1.length : Nat) : Int)))) (1 : Int))), ((((qScan_r0 (List.take ((rRead_r0 d_ (0 : Int) ((d_.1.length : Nat) : Int)).length - 1) (List.drop 1 (rRead_r0 d_ (0 : Int) ((d_.1.length : Nat) : Int)))) (1 : Int)).length : Nat) : Int), (((d_.1.length : Nat) : Int), ()))) (qScan_r0 (List.take ((rRead_r0 d_ (0 : Int) ((d_.1.length : Nat) : Int)).length - 1) (List.drop 1 (rRead_r0 d_ (0 : Int) ((d_.1.length : Nat) : Int)))) (1 : Int)) (0 : Int)
  else fail
  else fail
  else fail
  else fail
  else fail
  else fail

def qSameB_l1 {X : Type} (F : Nat) (fail : X) (next : List (List UInt8) → List (List UInt8) → Bool → Int → X) (ex0 : List (List UInt8) → List (List UInt8) → Bool → Int → X) (ex1 : List (List UInt8) → List (List UInt8) → Bool → Int → X) (a : List (List UInt8)) (b : List (List UInt8)) (s4 : Bool) (i : Int) : X :=
  bif (decide (i < ((a.length : Nat) : Int))) then
    bif ((decide ((0 : Int) ≤ i)) && (decide (i < ((a.length : Nat) : Int)))) then
    bif ((decide ((0 : Int) ≤ i)) && (decide (i < ((b.length : Nat) : Int)))) then
    bif (!((List.getD a (i).toNat ([] : List UInt8)) == (List.getD b (i).toNat ([] : List UInt8)))) then
      ex0 a b false i
    else
    next a b s4 (addI i (1 : Int))
    else fail
    else fail
  else
  ex1 a b s4 i
def qSameB_l1F {X : Type} (F : Nat) (fail : X) (ex0 : List (List UInt8) → List (List UInt8) → Bool → Int → X) (ex1 : List (List UInt8) → List (List UInt8) → Bool → Int → X) : Nat → List (List UInt8) → List (List UInt8) → Bool → Int → X
  | 0, _, _, _, _ => fail
  | m + 1, a, b, s4, i => qSameB_l1 F fail (qSameB_l1F F fail ex0 ex1 m) ex0 ex1 a b s4 i

def qSameB {X : Type} (F : Nat) (a : List (List UInt8)) (b : List (List UInt8)) (fail : X) (ret : Bool → X) : X :=
  bif (((a.length : Nat) : Int) != ((b.length : Nat) : Int)) then
    ret false
  else
  qSameB_l1F F fail
    (fun (a1 : List (List UInt8)) (b1 : List (List UInt8)) (s4 : Bool) (i : Int) =>
      ret s4)
    (fun (a2 : List (List UInt8)) (b2 : List (List UInt8)) (s41 : Bool) (i1 : Int) =>
      ret true)
    F a b false (0 : Int)

def ran {X : Type} (F : Nat) (d_ : ((List (List UInt8)) × ((List (Int × ((List UInt8) × Unit))) × Unit))) (ops : List (Int × (Int × ((List (List UInt8)) × Unit)))) (e_ : Int) (fail : X) (ret : ((List (List UInt8)) × ((List (Int × ((List UInt8) × Unit))) × Unit)) → Bool → X) : X :=
  bif (dRun_P d_ ops) then
  bif (e_ == (0 : Int)) then
    ret (dRun_r0 d_ ops) ((dRun_r2 d_ ops) == (0 : Int))
  else
  ret (dRun_r0 d_ ops) false
  else fail

def lfew_l1 {X : Type} (F : Nat) (fail : X) (next : List (List UInt8) → Bool → Int → X) (ex0 : List (List UInt8) → Bool → Int → X) (ex1 : List (List UInt8) → Bool → Int → X) (l : List (List UInt8)) (s2 : Bool) (i : Int) : X :=
  bif (decide (i < ((l.length : Nat) : Int))) then
    bif (decide (i < (20 : Int))) then
      bif ((decide ((0 : Int) ≤ i)) && (decide (i < ((l.length : Nat) : Int)))) then
      bif (decide ((((List.getD l (i).toNat ([] : List UInt8)).length : Nat) : Int) > (100 : Int))) then
        ex0 l false i
      else
      next l s2 (addI i (1 : Int))
      else fail
    else
    ex1 l s2 i
  else
  ex1 l s2 i
def lfew_l1F {X : Type} (F : Nat) (fail : X) (ex0 : List (List UInt8) → Bool → Int → X) (ex1 : List (List UInt8) → Bool → Int → X) : Nat → List (List UInt8) → Bool → Int → X
  | 0, _, _, _ => fail
  | m + 1, l, s2, i => lfew_l1 F fail (lfew_l1F F fail ex0 ex1 m) ex0 ex1 l s2 i

def lfew {X : Type} (F : Nat) (l : List (List UInt8)) (fail : X) (ret : Bool → X) : X :=
  lfew_l1F F fail
    (fun (l1 : List (List UInt8)) (s2 : Bool) (i : Int) =>
      ret s2)
    (fun (l2 : List (List UInt8)) (s21 : Bool) (i1 : Int) =>
      ret (decide (((l2.length : Nat) : Int) ≤ (20 : Int))))
    F l false (0 : Int)

def lBegin {X : Type} (F : Nat) (old : List (List UInt8)) (fail : X) (ret : ((List (List UInt8)) × ((List (Int × ((List UInt8) × Unit))) × Unit)) → (Int × (Int × (Int × Unit))) → Bool → X) : X :=
  bif (decide ((100 : Int) ≤ ((big : Nat) : Int))) then
  bif (lFormat_P (100 : Int)) then
  bif (ran_P ((((List.take 0 (List.replicate 100 z16)) ++ (List.take (min old.length (List.replicate 100 z16).length) old)) ++ (List.drop (0 + (min old.length (List.replicate 100 z16).length)) (List.replicate 100 z16))), (([] : List (Int × ((List UInt8) × Unit))), ())) (lFormat_r1 (100 : Int)) (lFormat_r2 (100 : Int))) then
  ret (ran_r0 ((((List.take 0 (List.replicate 100 z16)) ++ (List.take (min old.length (List.replicate 100 z16).length) old)) ++ (List.drop (0 + (min old.length (List.replicate 100 z16).length)) (List.replicate 100 z16))), (([] : List (Int × ((List UInt8) × Unit))), ())) (lFormat_r1 (100 : Int)) (lFormat_r2 (100 : Int))) (lFormat_r0 (100 : Int)) (ran_r1 ((((List.take 0 (List.replicate 100 z16)) ++ (List.take (min old.length (List.replicate 100 z16).length) old)) ++ (List.drop (0 + (min old.length (List.replicate 100 z16).length)) (List.replicate 100 z16))), (([] : List (Int × ((List UInt8) × Unit))), ())) (lFormat_r1 (100 : Int)) (lFormat_r2 (100 : Int)))
  else fail
  else fail
  else fail

end Go.AI
