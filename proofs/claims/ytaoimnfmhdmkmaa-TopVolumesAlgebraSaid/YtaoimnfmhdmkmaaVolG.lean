/- Plain functions, printed by running the machine on symbols. -/
import Derived.Test.YtaoimnfmhdmkmaaVolS
noncomputable section
namespace Go.AI
open Go
set_option linter.unusedVariables false

def tMul {X : Type} (F : Nat) (t : ((List UInt8) × ((List Int) × Unit))) (a : UInt8) (b : UInt8) (fail : X) (ret : UInt8 → X) : X :=
  bif ((((a).toNat : Nat) : Int) == (0 : Int)) then
    ret (0 : UInt8)
  else
  bif ((((b).toNat : Nat) : Int) == (0 : Int)) then
    ret (0 : UInt8)
  else
  bif ((decide ((0 : Int) ≤ (((a).toNat : Nat) : Int))) && (decide ((((a).toNat : Nat) : Int) < ((256 : Nat) : Int)))) then
  bif ((decide ((0 : Int) ≤ (((b).toNat : Nat) : Int))) && (decide ((((b).toNat : Nat) : Int) < ((256 : Nat) : Int)))) then
  bif ((decide ((0 : Int) ≤ (remI (addI (List.getD t.2.1 (a).toNat (0 : Int)) (List.getD t.2.1 (b).toNat (0 : Int))) (255 : Int)))) && (decide ((remI (addI (List.getD t.2.1 (a).toNat (0 : Int)) (List.getD t.2.1 (b).toNat (0 : Int))) (255 : Int)) < ((255 : Nat) : Int)))) then
  ret (List.getD t.1 ((remI (addI (List.getD t.2.1 (a).toNat (0 : Int)) (List.getD t.2.1 (b).toNat (0 : Int))) (255 : Int))).toNat (0 : UInt8))
  else fail
  else fail
  else fail

def tInv {X : Type} (F : Nat) (t : ((List UInt8) × ((List Int) × Unit))) (a : UInt8) (fail : X) (ret : UInt8 → X) : X :=
  bif ((decide ((0 : Int) ≤ (((a).toNat : Nat) : Int))) && (decide ((((a).toNat : Nat) : Int) < ((256 : Nat) : Int)))) then
  bif ((decide ((0 : Int) ≤ (remI (subI (255 : Int) (List.getD t.2.1 (a).toNat (0 : Int))) (255 : Int)))) && (decide ((remI (subI (255 : Int) (List.getD t.2.1 (a).toNat (0 : Int))) (255 : Int)) < ((255 : Nat) : Int)))) then
  ret (List.getD t.1 ((remI (subI (255 : Int) (List.getD t.2.1 (a).toNat (0 : Int))) (255 : Int))).toNat (0 : UInt8))
  else fail
  else fail

def gMul {X : Type} (F : Nat) (a : UInt8) (b : UInt8) (fail : X) (ret : UInt8 → X) : X :=
  bif (gField_P) then
  bif (tMul_P (gField_r) a b) then
  ret (tMul_r (gField_r) a b)
  else fail
  else fail

def isMat_l1 {X : Type} (F : Nat) (fail : X) (next : List (List UInt8) → Int → Int → Int → List (List UInt8) → X) (ex0 : List (List UInt8) → Int → Int → Int → List (List UInt8) → X) (ex1 : List (List UInt8) → Int → Int → Int → List (List UInt8) → X) (s : List (List UInt8)) (s4 : Int) (s7 : Int) (s8 : Int) (f : List (List UInt8)) : X :=
  bif (decide (s8 < s7)) then
    bif ((decide ((0 : Int) ≤ s8)) && (decide (s8 < ((s.length : Nat) : Int)))) then
    bif (decide ((0 : Int) < ((f.length : Nat) : Int))) then
    bif ((((List.getD s (s8).toNat ([] : List UInt8)).length : Nat) : Int) != (((List.getD f 0 ([] : List UInt8)).length : Nat) : Int)) then
      ex0 s s8 s7 s8 f
    else
    next s s4 s7 (addI s8 (1 : Int)) f
    else fail
    else fail
  else
  ex1 s s4 s7 s8 f
def isMat_l1F {X : Type} (F : Nat) (fail : X) (ex0 : List (List UInt8) → Int → Int → Int → List (List UInt8) → X) (ex1 : List (List UInt8) → Int → Int → Int → List (List UInt8) → X) : Nat → List (List UInt8) → Int → Int → Int → List (List UInt8) → X
  | 0, _, _, _, _, _ => fail
  | m + 1, s, s4, s7, s8, f => isMat_l1 F fail (isMat_l1F F fail ex0 ex1 m) ex0 ex1 s s4 s7 s8 f

def isMat {X : Type} (F : Nat) (m_ : List (List UInt8)) (fail : X) (ret : Bool → X) : X :=
  bif (decide (((m_.length : Nat) : Int) < (1 : Int))) then
    ret false
  else
  bif (decide (((m_.length : Nat) : Int) > (64 : Int))) then
    ret false
  else
  bif (decide ((0 : Int) < ((m_.length : Nat) : Int))) then
  bif (decide ((((List.getD m_ 0 ([] : List UInt8)).length : Nat) : Int) < (1 : Int))) then
    ret false
  else
  bif (decide ((0 : Int) < ((m_.length : Nat) : Int))) then
  bif (decide ((((List.getD m_ 0 ([] : List UInt8)).length : Nat) : Int) > (64 : Int))) then
    ret false
  else
  isMat_l1F F fail
    (fun (s : List (List UInt8)) (s4 : Int) (s7 : Int) (s8 : Int) (f : List (List UInt8)) =>
      ret (!(decide (s4 ≥ (0 : Int)))))
    (fun (s1 : List (List UInt8)) (s41 : Int) (s71 : Int) (s81 : Int) (f1 : List (List UInt8)) =>
      ret true)
    F m_ (0 : Int) ((m_.length : Nat) : Int) (0 : Int) m_
  else fail
  else fail

def gCauchy_l2 {X : Type} (F : Nat) (fail : X) (next : Int → Int → ((List UInt8) × ((List Int) × Unit)) → Int → Int → Int → Int → Int → List (List UInt8) → List UInt8 → X) (ex0 : Int → Int → ((List UInt8) × ((List Int) × Unit)) → Int → Int → Int → Int → Int → List (List UInt8) → List UInt8 → X) (rows : Int) (columns : Int) (t : ((List UInt8) × ((List Int) × Unit))) (i : Int) (s22 : Int) (s23 : Int) (s26 : Int) (s27 : Int) (out : List (List UInt8)) (row : List UInt8) : X :=
  bif (decide (s27 < s26)) then
    bif (tInv_P t (xorB (cvIB i) (cvIB (addI rows s27)))) then
    bif (decide ((row ++ ([(tInv_r t (xorB (cvIB i) (cvIB (addI rows s27))))] : List UInt8)).length ≤ big)) then
    next rows columns t i s22 s23 s26 (addI s27 (1 : Int)) out (row ++ ([(tInv_r t (xorB (cvIB i) (cvIB (addI rows s27))))] : List UInt8))
    else fail
    else fail
  else
  ex0 rows columns t i s22 s23 s26 s27 out row
def gCauchy_l2F {X : Type} (F : Nat) (fail : X) (ex0 : Int → Int → ((List UInt8) × ((List Int) × Unit)) → Int → Int → Int → Int → Int → List (List UInt8) → List UInt8 → X) : Nat → Int → Int → ((List UInt8) × ((List Int) × Unit)) → Int → Int → Int → Int → Int → List (List UInt8) → List UInt8 → X
  | 0, _, _, _, _, _, _, _, _, _, _ => fail
  | m + 1, rows, columns, t, i, s22, s23, s26, s27, out, row => gCauchy_l2 F fail (gCauchy_l2F F fail ex0 m) ex0 rows columns t i s22 s23 s26 s27 out row

def gCauchy_l1 {X : Type} (F : Nat) (fail : X) (next : Int → Int → ((List UInt8) × ((List Int) × Unit)) → Int → Int → List (List UInt8) → X) (ex0 : Int → Int → ((List UInt8) × ((List Int) × Unit)) → Int → Int → List (List UInt8) → X) (rows : Int) (columns : Int) (t : ((List UInt8) × ((List Int) × Unit))) (s22 : Int) (s23 : Int) (out : List (List UInt8)) : X :=
  bif (decide (s23 < s22)) then
    gCauchy_l2F F fail
      (fun (rows1 : Int) (columns1 : Int) (t1 : ((List UInt8) × ((List Int) × Unit))) (i : Int) (s221 : Int) (s231 : Int) (s26 : Int) (s27 : Int) (out1 : List (List UInt8)) (row : List UInt8) =>
        bif (decide ((out1 ++ ([row] : List (List UInt8))).length ≤ big)) then
        next rows1 columns1 t1 s221 (addI s231 (1 : Int)) (out1 ++ ([row] : List (List UInt8)))
        else fail)
      F rows columns t s23 s22 s23 columns (0 : Int) out ([] : List UInt8)
  else
  ex0 rows columns t s22 s23 out
def gCauchy_l1F {X : Type} (F : Nat) (fail : X) (ex0 : Int → Int → ((List UInt8) × ((List Int) × Unit)) → Int → Int → List (List UInt8) → X) : Nat → Int → Int → ((List UInt8) × ((List Int) × Unit)) → Int → Int → List (List UInt8) → X
  | 0, _, _, _, _, _, _ => fail
  | m + 1, rows, columns, t, s22, s23, out => gCauchy_l1 F fail (gCauchy_l1F F fail ex0 m) ex0 rows columns t s22 s23 out

def gCauchy {X : Type} (F : Nat) (rows : Int) (columns : Int) (fail : X) (ret : List (List UInt8) → Int → X) : X :=
  bif (decide ((minI rows columns) < (1 : Int))) then
    ret ([] : List (List UInt8)) (2 : Int)
  else
  bif (decide ((maxI rows columns) > (64 : Int))) then
    ret ([] : List (List UInt8)) (2 : Int)
  else
  bif (gField_P) then
  gCauchy_l1F F fail
    (fun (rows1 : Int) (columns1 : Int) (t : ((List UInt8) × ((List Int) × Unit))) (s22 : Int) (s23 : Int) (out : List (List UInt8)) =>
      ret out (0 : Int))
    F rows columns (gField_r) rows (0 : Int) ([] : List (List UInt8))
  else fail

def gProduct_l3 {X : Type} (F : Nat) (fail : X) (next : List (List UInt8) → ((List UInt8) × ((List Int) × Unit)) → UInt8 → List (List UInt8) → Int → Int → List UInt8 → Int → Int → List UInt8 → Int → Int → List (List UInt8) → List UInt8 → X) (ex0 : List (List UInt8) → ((List UInt8) × ((List Int) × Unit)) → UInt8 → List (List UInt8) → Int → Int → List UInt8 → Int → Int → List UInt8 → Int → Int → List (List UInt8) → List UInt8 → X) (b : List (List UInt8)) (t : ((List UInt8) × ((List Int) × Unit))) (x_ : UInt8) (s31 : List (List UInt8)) (s32 : Int) (s33 : Int) (s42 : List UInt8) (s43 : Int) (s44 : Int) (s52 : List UInt8) (s53 : Int) (s54 : Int) (out : List (List UInt8)) (sums : List UInt8) : X :=
  bif (decide (s54 < s53)) then
    bif ((decide ((0 : Int) ≤ s54)) && (decide (s54 < ((s52.length : Nat) : Int)))) then
    bif ((decide ((0 : Int) ≤ s54)) && (decide (s54 < ((sums.length : Nat) : Int)))) then
    bif (tMul_P t x_ (List.getD s52 (s54).toNat (0 : UInt8))) then
    bif ((decide ((0 : Int) ≤ s54)) && (decide (s54 < ((sums.length : Nat) : Int)))) then
    next b t x_ s31 s32 s33 s42 s43 s44 s52 s53 (addI s54 (1 : Int)) out (List.set sums (s54).toNat (xorB (List.getD sums (s54).toNat (0 : UInt8)) (tMul_r t x_ (List.getD s52 (s54).toNat (0 : UInt8)))))
    else fail
    else fail
    else fail
    else fail
  else
  ex0 b t x_ s31 s32 s33 s42 s43 s44 s52 s53 s54 out sums
def gProduct_l3F {X : Type} (F : Nat) (fail : X) (ex0 : List (List UInt8) → ((List UInt8) × ((List Int) × Unit)) → UInt8 → List (List UInt8) → Int → Int → List UInt8 → Int → Int → List UInt8 → Int → Int → List (List UInt8) → List UInt8 → X) : Nat → List (List UInt8) → ((List UInt8) × ((List Int) × Unit)) → UInt8 → List (List UInt8) → Int → Int → List UInt8 → Int → Int → List UInt8 → Int → Int → List (List UInt8) → List UInt8 → X
  | 0, _, _, _, _, _, _, _, _, _, _, _, _, _, _ => fail
  | m + 1, b, t, x_, s31, s32, s33, s42, s43, s44, s52, s53, s54, out, sums => gProduct_l3 F fail (gProduct_l3F F fail ex0 m) ex0 b t x_ s31 s32 s33 s42 s43 s44 s52 s53 s54 out sums

def gProduct_l2 {X : Type} (F : Nat) (fail : X) (next : List (List UInt8) → ((List UInt8) × ((List Int) × Unit)) → List (List UInt8) → Int → Int → List UInt8 → Int → Int → List (List UInt8) → List UInt8 → X) (ex0 : List (List UInt8) → ((List UInt8) × ((List Int) × Unit)) → List (List UInt8) → Int → Int → List UInt8 → Int → Int → List (List UInt8) → List UInt8 → X) (b : List (List UInt8)) (t : ((List UInt8) × ((List Int) × Unit))) (s31 : List (List UInt8)) (s32 : Int) (s33 : Int) (s42 : List UInt8) (s43 : Int) (s44 : Int) (out : List (List UInt8)) (sums : List UInt8) : X :=
  bif (decide (s44 < s43)) then
    bif ((decide ((0 : Int) ≤ s44)) && (decide (s44 < ((s42.length : Nat) : Int)))) then
    bif ((decide ((0 : Int) ≤ s44)) && (decide (s44 < ((b.length : Nat) : Int)))) then
    gProduct_l3F F fail
      (fun (b1 : List (List UInt8)) (t1 : ((List UInt8) × ((List Int) × Unit))) (x_ : UInt8) (s311 : List (List UInt8)) (s321 : Int) (s331 : Int) (s421 : List UInt8) (s431 : Int) (s441 : Int) (s52 : List UInt8) (s53 : Int) (s54 : Int) (out1 : List (List UInt8)) (sums1 : List UInt8) =>
        next b1 t1 s311 s321 s331 s421 s431 (addI s441 (1 : Int)) out1 sums1)
      F b t (List.getD s42 (s44).toNat (0 : UInt8)) s31 s32 s33 s42 s43 s44 (List.getD b (s44).toNat ([] : List UInt8)) (((List.getD b (s44).toNat ([] : List UInt8)).length : Nat) : Int) (0 : Int) out sums
    else fail
    else fail
  else
  ex0 b t s31 s32 s33 s42 s43 s44 out sums
def gProduct_l2F {X : Type} (F : Nat) (fail : X) (ex0 : List (List UInt8) → ((List UInt8) × ((List Int) × Unit)) → List (List UInt8) → Int → Int → List UInt8 → Int → Int → List (List UInt8) → List UInt8 → X) : Nat → List (List UInt8) → ((List UInt8) × ((List Int) × Unit)) → List (List UInt8) → Int → Int → List UInt8 → Int → Int → List (List UInt8) → List UInt8 → X
  | 0, _, _, _, _, _, _, _, _, _, _ => fail
  | m + 1, b, t, s31, s32, s33, s42, s43, s44, out, sums => gProduct_l2 F fail (gProduct_l2F F fail ex0 m) ex0 b t s31 s32 s33 s42 s43 s44 out sums

def gProduct_l1 {X : Type} (F : Nat) (fail : X) (next : List (List UInt8) → ((List UInt8) × ((List Int) × Unit)) → List (List UInt8) → Int → Int → List (List UInt8) → X) (ex0 : List (List UInt8) → ((List UInt8) × ((List Int) × Unit)) → List (List UInt8) → Int → Int → List (List UInt8) → X) (b : List (List UInt8)) (t : ((List UInt8) × ((List Int) × Unit))) (s31 : List (List UInt8)) (s32 : Int) (s33 : Int) (out : List (List UInt8)) : X :=
  bif (decide (s33 < s32)) then
    bif ((decide ((0 : Int) ≤ s33)) && (decide (s33 < ((s31.length : Nat) : Int)))) then
    bif (decide ((0 : Int) < ((b.length : Nat) : Int))) then
    bif (((decide ((0 : Int) ≤ (((List.getD b 0 ([] : List UInt8)).length : Nat) : Int))) && true) && (decide ((((List.getD b 0 ([] : List UInt8)).length : Nat) : Int) ≤ ((big : Nat) : Int)))) then
    gProduct_l2F F fail
      (fun (b1 : List (List UInt8)) (t1 : ((List UInt8) × ((List Int) × Unit))) (s311 : List (List UInt8)) (s321 : Int) (s331 : Int) (s42 : List UInt8) (s43 : Int) (s44 : Int) (out1 : List (List UInt8)) (sums : List UInt8) =>
        bif (decide ((out1 ++ ([sums] : List (List UInt8))).length ≤ big)) then
        next b1 t1 s311 s321 (addI s331 (1 : Int)) (out1 ++ ([sums] : List (List UInt8)))
        else fail)
      F b t s31 s32 s33 (List.getD s31 (s33).toNat ([] : List UInt8)) (((List.getD s31 (s33).toNat ([] : List UInt8)).length : Nat) : Int) (0 : Int) out (List.replicate (List.getD b 0 ([] : List UInt8)).length (0 : UInt8))
    else fail
    else fail
    else fail
  else
  ex0 b t s31 s32 s33 out
def gProduct_l1F {X : Type} (F : Nat) (fail : X) (ex0 : List (List UInt8) → ((List UInt8) × ((List Int) × Unit)) → List (List UInt8) → Int → Int → List (List UInt8) → X) : Nat → List (List UInt8) → ((List UInt8) × ((List Int) × Unit)) → List (List UInt8) → Int → Int → List (List UInt8) → X
  | 0, _, _, _, _, _, _ => fail
  | m + 1, b, t, s31, s32, s33, out => gProduct_l1 F fail (gProduct_l1F F fail ex0 m) ex0 b t s31 s32 s33 out

def gProduct {X : Type} (F : Nat) (a : List (List UInt8)) (b : List (List UInt8)) (fail : X) (ret : List (List UInt8) → Int → X) : X :=
  bif (isMat_P a) then
  bif (!(isMat_r a)) then
    ret ([] : List (List UInt8)) (6 : Int)
  else
  bif (isMat_P b) then
  bif (!(isMat_r b)) then
    ret ([] : List (List UInt8)) (6 : Int)
  else
  bif (decide ((0 : Int) < ((a.length : Nat) : Int))) then
  bif ((((List.getD a 0 ([] : List UInt8)).length : Nat) : Int) != ((b.length : Nat) : Int)) then
    ret ([] : List (List UInt8)) (23 : Int)
  else
  bif (gField_P) then
  gProduct_l1F F fail
    (fun (b1 : List (List UInt8)) (t : ((List UInt8) × ((List Int) × Unit))) (s31 : List (List UInt8)) (s32 : Int) (s33 : Int) (out : List (List UInt8)) =>
      ret out (0 : Int))
    F b (gField_r) a ((a.length : Nat) : Int) (0 : Int) ([] : List (List UInt8))
  else fail
  else fail
  else fail
  else fail

def sClone {X : Type} (F : Nat) (s : List UInt8) (fail : X) (both : X → X → X) (ret : List UInt8 → X) : X :=
  bif (List.isEmpty s) then
    both (
      ret ([] : List UInt8)) (
      bif (decide (s.length ≤ big)) then
      ret s
      else fail)
  else
  bif (decide (s.length ≤ big)) then
  ret s
  else fail

def pCheck_l1 {X : Type} (F : Nat) (fail : X) (next : List (List UInt8) → Int → Int → Int → List (List UInt8) → Int → X) (ex0 : List (List UInt8) → Int → Int → Int → List (List UInt8) → Int → X) (ex1 : List (List UInt8) → Int → Int → Int → List (List UInt8) → Int → X) (s : List (List UInt8)) (s4 : Int) (s7 : Int) (s8 : Int) (parts : List (List UInt8)) (s41 : Int) : X :=
  bif (decide (s8 < s7)) then
    bif ((decide ((0 : Int) ≤ s8)) && (decide (s8 < ((s.length : Nat) : Int)))) then
    bif (decide ((((List.getD s (s8).toNat ([] : List UInt8)).length : Nat) : Int) > (65536 : Int))) then
      ex0 s s8 s7 s8 parts s41
    else
    next s s4 s7 (addI s8 (1 : Int)) parts s41
    else fail
  else
  ex1 s s4 s7 s8 parts s41
def pCheck_l1F {X : Type} (F : Nat) (fail : X) (ex0 : List (List UInt8) → Int → Int → Int → List (List UInt8) → Int → X) (ex1 : List (List UInt8) → Int → Int → Int → List (List UInt8) → Int → X) : Nat → List (List UInt8) → Int → Int → Int → List (List UInt8) → Int → X
  | 0, _, _, _, _, _, _ => fail
  | m + 1, s, s4, s7, s8, parts, s41 => pCheck_l1 F fail (pCheck_l1F F fail ex0 ex1 m) ex0 ex1 s s4 s7 s8 parts s41

def pCheck_l2 {X : Type} (F : Nat) (fail : X) (next : List (List UInt8) → Int → Int → List (List UInt8) → Int → Int → X) (ex0 : List (List UInt8) → Int → Int → List (List UInt8) → Int → Int → X) (ex1 : List (List UInt8) → Int → Int → List (List UInt8) → Int → Int → X) (s5 : List (List UInt8)) (s6 : Int) (s7 : Int) (parts : List (List UInt8)) (s4 : Int) (length : Int) : X :=
  bif (decide (s7 < s6)) then
    bif ((decide ((0 : Int) ≤ s7)) && (decide (s7 < ((s5.length : Nat) : Int)))) then
    bif (decide ((((List.getD s5 (s7).toNat ([] : List UInt8)).length : Nat) : Int) > (0 : Int))) then
      bif (decide (length > (0 : Int))) then
        bif ((((List.getD s5 (s7).toNat ([] : List UInt8)).length : Nat) : Int) != length) then
          ex0 s5 s6 s7 parts (23 : Int) length
        else
        next s5 s6 (addI s7 (1 : Int)) parts s4 (((List.getD s5 (s7).toNat ([] : List UInt8)).length : Nat) : Int)
      else
      next s5 s6 (addI s7 (1 : Int)) parts s4 (((List.getD s5 (s7).toNat ([] : List UInt8)).length : Nat) : Int)
    else
    next s5 s6 (addI s7 (1 : Int)) parts s4 length
    else fail
  else
  ex1 s5 s6 s7 parts s4 length
def pCheck_l2F {X : Type} (F : Nat) (fail : X) (ex0 : List (List UInt8) → Int → Int → List (List UInt8) → Int → Int → X) (ex1 : List (List UInt8) → Int → Int → List (List UInt8) → Int → Int → X) : Nat → List (List UInt8) → Int → Int → List (List UInt8) → Int → Int → X
  | 0, _, _, _, _, _, _ => fail
  | m + 1, s5, s6, s7, parts, s4, length => pCheck_l2 F fail (pCheck_l2F F fail ex0 ex1 m) ex0 ex1 s5 s6 s7 parts s4 length

def pCheck {X : Type} (F : Nat) (parts : List (List UInt8)) (data : Int) (fail : X) (ret : Int → X) : X :=
  bif (decide (((parts.length : Nat) : Int) < (1 : Int))) then
    ret (6 : Int)
  else
  bif (decide (((parts.length : Nat) : Int) > (64 : Int))) then
    ret (6 : Int)
  else
  bif (decide (data < (1 : Int))) then
    ret (2 : Int)
  else
  bif (decide (data > ((parts.length : Nat) : Int))) then
    ret (2 : Int)
  else
  pCheck_l1F F fail
    (fun (s : List (List UInt8)) (s4 : Int) (s7 : Int) (s8 : Int) (parts1 : List (List UInt8)) (s41 : Int) =>
      bif (decide (s4 ≥ (0 : Int))) then
        ret (5 : Int)
      else
      pCheck_l2F F fail
        (fun (s5 : List (List UInt8)) (s6 : Int) (s71 : Int) (parts2 : List (List UInt8)) (s42 : Int) (length : Int) =>
          ret s42)
        (fun (s51 : List (List UInt8)) (s61 : Int) (s72 : Int) (parts3 : List (List UInt8)) (s43 : Int) (length1 : Int) =>
          ret (0 : Int))
        F parts1 ((parts1.length : Nat) : Int) (0 : Int) parts1 s41 (0 : Int))
    (fun (s1 : List (List UInt8)) (s44 : Int) (s73 : Int) (s81 : Int) (parts4 : List (List UInt8)) (s45 : Int) =>
      pCheck_l2F F fail
        (fun (s52 : List (List UInt8)) (s62 : Int) (s74 : Int) (parts5 : List (List UInt8)) (s46 : Int) (length2 : Int) =>
          ret s46)
        (fun (s53 : List (List UInt8)) (s63 : Int) (s75 : Int) (parts6 : List (List UInt8)) (s47 : Int) (length3 : Int) =>
          ret (0 : Int))
        F parts4 ((parts4.length : Nat) : Int) (0 : Int) parts4 s45 (0 : Int))
    F parts (0 : Int) ((parts.length : Nat) : Int) (0 : Int) parts (0 : Int)

def pRecovery_l1 {X : Type} (F : Nat) (fail : X) (next : List (List UInt8) → Int → Int → Int → Int → List (List UInt8) → X) (ex0 : List (List UInt8) → Int → Int → Int → Int → List (List UInt8) → X) (ex1 : List (List UInt8) → Int → Int → Int → Int → List (List UInt8) → X) (s : List (List UInt8)) (s4 : Int) (s7 : Int) (s8 : Int) (count : Int) (data : List (List UInt8)) : X :=
  bif (decide (s8 < s7)) then
    bif ((decide ((0 : Int) ≤ s8)) && (decide (s8 < ((s.length : Nat) : Int)))) then
    bif (decide ((((List.getD s (s8).toNat ([] : List UInt8)).length : Nat) : Int) > (65536 : Int))) then
      ex0 s s8 s7 s8 count data
    else
    next s s4 s7 (addI s8 (1 : Int)) count data
    else fail
  else
  ex1 s s4 s7 s8 count data
def pRecovery_l1F {X : Type} (F : Nat) (fail : X) (ex0 : List (List UInt8) → Int → Int → Int → Int → List (List UInt8) → X) (ex1 : List (List UInt8) → Int → Int → Int → Int → List (List UInt8) → X) : Nat → List (List UInt8) → Int → Int → Int → Int → List (List UInt8) → X
  | 0, _, _, _, _, _, _ => fail
  | m + 1, s, s4, s7, s8, count, data => pRecovery_l1 F fail (pRecovery_l1F F fail ex0 ex1 m) ex0 ex1 s s4 s7 s8 count data

def pRecovery_l2 {X : Type} (F : Nat) (fail : X) (next : List (List UInt8) → Int → Int → Int → Int → List (List UInt8) → X) (ex0 : List (List UInt8) → Int → Int → Int → Int → List (List UInt8) → X) (ex1 : List (List UInt8) → Int → Int → Int → Int → List (List UInt8) → X) (s : List (List UInt8)) (s4 : Int) (s7 : Int) (s8 : Int) (count : Int) (f : List (List UInt8)) : X :=
  bif (decide (s8 < s7)) then
    bif ((decide ((0 : Int) ≤ s8)) && (decide (s8 < ((s.length : Nat) : Int)))) then
    bif ((((List.getD s (s8).toNat ([] : List UInt8)).length : Nat) : Int) == (0 : Int)) then
      ex0 s s8 s7 s8 count f
    else
    bif (decide ((0 : Int) < ((f.length : Nat) : Int))) then
    bif ((((List.getD s (s8).toNat ([] : List UInt8)).length : Nat) : Int) != (((List.getD f 0 ([] : List UInt8)).length : Nat) : Int)) then
      ex0 s s8 s7 s8 count f
    else
    next s s4 s7 (addI s8 (1 : Int)) count f
    else fail
    else fail
  else
  ex1 s s4 s7 s8 count f
def pRecovery_l2F {X : Type} (F : Nat) (fail : X) (ex0 : List (List UInt8) → Int → Int → Int → Int → List (List UInt8) → X) (ex1 : List (List UInt8) → Int → Int → Int → Int → List (List UInt8) → X) : Nat → List (List UInt8) → Int → Int → Int → Int → List (List UInt8) → X
  | 0, _, _, _, _, _, _ => fail
  | m + 1, s, s4, s7, s8, count, f => pRecovery_l2 F fail (pRecovery_l2F F fail ex0 ex1 m) ex0 ex1 s s4 s7 s8 count f

def pRecovery_l5 {X : Type} (F : Nat) (fail : X) (next : UInt8 → List UInt8 → Int → Int → List UInt8 → Int → Int → List (List UInt8) → Int → Int → List (List UInt8) → List UInt8 → List (List UInt8) → X) (ex0 : UInt8 → List UInt8 → Int → Int → List UInt8 → Int → Int → List (List UInt8) → Int → Int → List (List UInt8) → List UInt8 → List (List UInt8) → X) (factor : UInt8) (s14 : List UInt8) (s15 : Int) (s16 : Int) (s24 : List UInt8) (s25 : Int) (s26 : Int) (s45 : List (List UInt8)) (s46 : Int) (s47 : Int) (s1 : List (List UInt8)) (out : List UInt8) (out1 : List (List UInt8)) : X :=
  bif (decide (s26 < s25)) then
    bif ((decide ((0 : Int) ≤ s26)) && (decide (s26 < ((s24.length : Nat) : Int)))) then
    bif ((decide ((0 : Int) ≤ s26)) && (decide (s26 < ((out.length : Nat) : Int)))) then
    bif (gMul_P factor (List.getD s24 (s26).toNat (0 : UInt8))) then
    bif ((decide ((0 : Int) ≤ s26)) && (decide (s26 < ((out.length : Nat) : Int)))) then
    next factor s14 s15 s16 s24 s25 (addI s26 (1 : Int)) s45 s46 s47 s1 (List.set out (s26).toNat (xorB (List.getD out (s26).toNat (0 : UInt8)) (gMul_r factor (List.getD s24 (s26).toNat (0 : UInt8))))) out1
    else fail
    else fail
    else fail
    else fail
  else
  ex0 factor s14 s15 s16 s24 s25 s26 s45 s46 s47 s1 out out1
def pRecovery_l5F {X : Type} (F : Nat) (fail : X) (ex0 : UInt8 → List UInt8 → Int → Int → List UInt8 → Int → Int → List (List UInt8) → Int → Int → List (List UInt8) → List UInt8 → List (List UInt8) → X) : Nat → UInt8 → List UInt8 → Int → Int → List UInt8 → Int → Int → List (List UInt8) → Int → Int → List (List UInt8) → List UInt8 → List (List UInt8) → X
  | 0, _, _, _, _, _, _, _, _, _, _, _, _, _ => fail
  | m + 1, factor, s14, s15, s16, s24, s25, s26, s45, s46, s47, s1, out, out1 => pRecovery_l5 F fail (pRecovery_l5F F fail ex0 m) ex0 factor s14 s15 s16 s24 s25 s26 s45 s46 s47 s1 out out1

def pRecovery_l4 {X : Type} (F : Nat) (fail : X) (next : List UInt8 → Int → Int → List (List UInt8) → Int → Int → List (List UInt8) → List UInt8 → List (List UInt8) → X) (ex0 : List UInt8 → Int → Int → List (List UInt8) → Int → Int → List (List UInt8) → List UInt8 → List (List UInt8) → X) (s14 : List UInt8) (s15 : Int) (s16 : Int) (s45 : List (List UInt8)) (s46 : Int) (s47 : Int) (s1 : List (List UInt8)) (out : List UInt8) (out1 : List (List UInt8)) : X :=
  bif (decide (s16 < s15)) then
    bif ((decide ((0 : Int) ≤ s16)) && (decide (s16 < ((s14.length : Nat) : Int)))) then
    bif ((decide ((0 : Int) ≤ s16)) && (decide (s16 < ((s1.length : Nat) : Int)))) then
    pRecovery_l5F F fail
      (fun (factor : UInt8) (s141 : List UInt8) (s151 : Int) (s161 : Int) (s24 : List UInt8) (s25 : Int) (s26 : Int) (s451 : List (List UInt8)) (s461 : Int) (s471 : Int) (s11 : List (List UInt8)) (out2 : List UInt8) (out3 : List (List UInt8)) =>
        next s141 s151 (addI s161 (1 : Int)) s451 s461 s471 s11 out2 out3)
      F (List.getD s14 (s16).toNat (0 : UInt8)) s14 s15 s16 (List.getD s1 (s16).toNat ([] : List UInt8)) (((List.getD s1 (s16).toNat ([] : List UInt8)).length : Nat) : Int) (0 : Int) s45 s46 s47 s1 out out1
    else fail
    else fail
  else
  ex0 s14 s15 s16 s45 s46 s47 s1 out out1
def pRecovery_l4F {X : Type} (F : Nat) (fail : X) (ex0 : List UInt8 → Int → Int → List (List UInt8) → Int → Int → List (List UInt8) → List UInt8 → List (List UInt8) → X) : Nat → List UInt8 → Int → Int → List (List UInt8) → Int → Int → List (List UInt8) → List UInt8 → List (List UInt8) → X
  | 0, _, _, _, _, _, _, _, _, _ => fail
  | m + 1, s14, s15, s16, s45, s46, s47, s1, out, out1 => pRecovery_l4 F fail (pRecovery_l4F F fail ex0 m) ex0 s14 s15 s16 s45 s46 s47 s1 out out1

def pRecovery_l3 {X : Type} (F : Nat) (fail : X) (next : List (List UInt8) → Int → Int → List (List UInt8) → List (List UInt8) → X) (ex0 : List (List UInt8) → Int → Int → List (List UInt8) → List (List UInt8) → X) (s45 : List (List UInt8)) (s46 : Int) (s47 : Int) (combine : List (List UInt8)) (out : List (List UInt8)) : X :=
  bif (decide (s47 < s46)) then
    bif ((decide ((0 : Int) ≤ s47)) && (decide (s47 < ((s45.length : Nat) : Int)))) then
    bif (decide ((0 : Int) < ((combine.length : Nat) : Int))) then
    bif (((decide ((0 : Int) ≤ (((List.getD combine 0 ([] : List UInt8)).length : Nat) : Int))) && true) && (decide ((((List.getD combine 0 ([] : List UInt8)).length : Nat) : Int) ≤ ((big : Nat) : Int)))) then
    pRecovery_l4F F fail
      (fun (s14 : List UInt8) (s15 : Int) (s16 : Int) (s451 : List (List UInt8)) (s461 : Int) (s471 : Int) (s1 : List (List UInt8)) (out1 : List UInt8) (out2 : List (List UInt8)) =>
        bif (decide ((out2 ++ ([out1] : List (List UInt8))).length ≤ big)) then
        next s451 s461 (addI s471 (1 : Int)) s1 (out2 ++ ([out1] : List (List UInt8)))
        else fail)
      F (List.getD s45 (s47).toNat ([] : List UInt8)) (((List.getD s45 (s47).toNat ([] : List UInt8)).length : Nat) : Int) (0 : Int) s45 s46 s47 combine (List.replicate (List.getD combine 0 ([] : List UInt8)).length (0 : UInt8)) out
    else fail
    else fail
    else fail
  else
  ex0 s45 s46 s47 combine out
def pRecovery_l3F {X : Type} (F : Nat) (fail : X) (ex0 : List (List UInt8) → Int → Int → List (List UInt8) → List (List UInt8) → X) : Nat → List (List UInt8) → Int → Int → List (List UInt8) → List (List UInt8) → X
  | 0, _, _, _, _, _ => fail
  | m + 1, s45, s46, s47, combine, out => pRecovery_l3 F fail (pRecovery_l3F F fail ex0 m) ex0 s45 s46 s47 combine out

def pRecovery {X : Type} (F : Nat) (data : List (List UInt8)) (count : Int) (fail : X) (ret : List (List UInt8) → Int → X) : X :=
  bif (decide (((data.length : Nat) : Int) < (1 : Int))) then
    ret ([] : List (List UInt8)) (6 : Int)
  else
  bif (decide (((data.length : Nat) : Int) > (64 : Int))) then
    ret ([] : List (List UInt8)) (6 : Int)
  else
  bif (decide (count < (0 : Int))) then
    ret ([] : List (List UInt8)) (6 : Int)
  else
  bif (decide (count > (subI (64 : Int) ((data.length : Nat) : Int)))) then
    ret ([] : List (List UInt8)) (6 : Int)
  else
  pRecovery_l1F F fail
    (fun (s : List (List UInt8)) (s4 : Int) (s7 : Int) (s8 : Int) (count1 : Int) (data1 : List (List UInt8)) =>
      bif (decide (s4 ≥ (0 : Int))) then
        ret ([] : List (List UInt8)) (5 : Int)
      else
      pRecovery_l2F F fail
        (fun (s1 : List (List UInt8)) (s41 : Int) (s71 : Int) (s81 : Int) (count2 : Int) (f : List (List UInt8)) =>
          bif (decide (s41 ≥ (0 : Int))) then
            ret ([] : List (List UInt8)) (23 : Int)
          else
          bif (pMatrix_P ((f.length : Nat) : Int) count2) then
          bif ((decide ((0 : Int) ≤ ((f.length : Nat) : Int))) && (decide (((f.length : Nat) : Int) ≤ (((pMatrix_r ((f.length : Nat) : Int) count2).length : Nat) : Int)))) then
          pRecovery_l3F F fail
            (fun (s45 : List (List UInt8)) (s46 : Int) (s47 : Int) (combine : List (List UInt8)) (out : List (List UInt8)) =>
              ret out (0 : Int))
            F (List.drop f.length (pMatrix_r ((f.length : Nat) : Int) count2)) (((List.drop f.length (pMatrix_r ((f.length : Nat) : Int) count2)).length : Nat) : Int) (0 : Int) f ([] : List (List UInt8))
          else fail
          else fail)
        (fun (s2 : List (List UInt8)) (s42 : Int) (s72 : Int) (s82 : Int) (count3 : Int) (f1 : List (List UInt8)) =>
          bif (pMatrix_P ((f1.length : Nat) : Int) count3) then
          bif ((decide ((0 : Int) ≤ ((f1.length : Nat) : Int))) && (decide (((f1.length : Nat) : Int) ≤ (((pMatrix_r ((f1.length : Nat) : Int) count3).length : Nat) : Int)))) then
          pRecovery_l3F F fail
            (fun (s451 : List (List UInt8)) (s461 : Int) (s471 : Int) (combine1 : List (List UInt8)) (out1 : List (List UInt8)) =>
              ret out1 (0 : Int))
            F (List.drop f1.length (pMatrix_r ((f1.length : Nat) : Int) count3)) (((List.drop f1.length (pMatrix_r ((f1.length : Nat) : Int) count3)).length : Nat) : Int) (0 : Int) f1 ([] : List (List UInt8))
          else fail
          else fail)
        F data1 (0 : Int) ((data1.length : Nat) : Int) (0 : Int) count1 data1)
    (fun (s3 : List (List UInt8)) (s43 : Int) (s73 : Int) (s83 : Int) (count4 : Int) (data2 : List (List UInt8)) =>
      pRecovery_l2F F fail
        (fun (s5 : List (List UInt8)) (s44 : Int) (s74 : Int) (s84 : Int) (count5 : Int) (f2 : List (List UInt8)) =>
          bif (decide (s44 ≥ (0 : Int))) then
            ret ([] : List (List UInt8)) (23 : Int)
          else
          bif (pMatrix_P ((f2.length : Nat) : Int) count5) then
          bif ((decide ((0 : Int) ≤ ((f2.length : Nat) : Int))) && (decide (((f2.length : Nat) : Int) ≤ (((pMatrix_r ((f2.length : Nat) : Int) count5).length : Nat) : Int)))) then
          pRecovery_l3F F fail
            (fun (s452 : List (List UInt8)) (s462 : Int) (s472 : Int) (combine2 : List (List UInt8)) (out2 : List (List UInt8)) =>
              ret out2 (0 : Int))
            F (List.drop f2.length (pMatrix_r ((f2.length : Nat) : Int) count5)) (((List.drop f2.length (pMatrix_r ((f2.length : Nat) : Int) count5)).length : Nat) : Int) (0 : Int) f2 ([] : List (List UInt8))
          else fail
          else fail)
        (fun (s6 : List (List UInt8)) (s48 : Int) (s75 : Int) (s85 : Int) (count6 : Int) (f3 : List (List UInt8)) =>
          bif (pMatrix_P ((f3.length : Nat) : Int) count6) then
          bif ((decide ((0 : Int) ≤ ((f3.length : Nat) : Int))) && (decide (((f3.length : Nat) : Int) ≤ (((pMatrix_r ((f3.length : Nat) : Int) count6).length : Nat) : Int)))) then
          pRecovery_l3F F fail
            (fun (s453 : List (List UInt8)) (s463 : Int) (s473 : Int) (combine3 : List (List UInt8)) (out3 : List (List UInt8)) =>
              ret out3 (0 : Int))
            F (List.drop f3.length (pMatrix_r ((f3.length : Nat) : Int) count6)) (((List.drop f3.length (pMatrix_r ((f3.length : Nat) : Int) count6)).length : Nat) : Int) (0 : Int) f3 ([] : List (List UInt8))
          else fail
          else fail)
        F data2 (0 : Int) ((data2.length : Nat) : Int) (0 : Int) count4 data2)
    F data (0 : Int) ((data.length : Nat) : Int) (0 : Int) count data

def gInvert_l1 {X : Type} (F : Nat) (fail : X) (next : Int → List (List UInt8) → Int → Int → List (List UInt8) → X) (ex0 : Int → List (List UInt8) → Int → Int → List (List UInt8) → X) (n : Int) (s24 : List (List UInt8)) (s25 : Int) (s26 : Int) (wide : List (List UInt8)) : X :=
  bif (decide (s26 < s25)) then
    bif ((decide ((0 : Int) ≤ s26)) && (decide (s26 < ((s24.length : Nat) : Int)))) then
    bif (((decide ((0 : Int) ≤ n)) && true) && (decide (n ≤ ((big : Nat) : Int)))) then
    bif ((decide ((0 : Int) ≤ s26)) && (decide (s26 < (((List.replicate (n).toNat (0 : UInt8)).length : Nat) : Int)))) then
    bif (sConcat_P ([(List.getD s24 (s26).toNat ([] : List UInt8)), (List.set (List.replicate (n).toNat (0 : UInt8)) (s26).toNat (1 : UInt8))] : List (List UInt8))) then
    bif (decide ((wide ++ ([(sConcat_r ([(List.getD s24 (s26).toNat ([] : List UInt8)), (List.set (List.replicate (n).toNat (0 : UInt8)) (s26).toNat (1 : UInt8))] : List (List UInt8)))] : List (List UInt8))).length ≤ big)) then
    next n s24 s25 (addI s26 (1 : Int)) (wide ++ ([(sConcat_r ([(List.getD s24 (s26).toNat ([] : List UInt8)), (List.set (List.replicate (n).toNat (0 : UInt8)) (s26).toNat (1 : UInt8))] : List (List UInt8)))] : List (List UInt8)))
    else fail
    else fail
    else fail
    else fail
    else fail
  else
  ex0 n s24 s25 s26 wide
def gInvert_l1F {X : Type} (F : Nat) (fail : X) (ex0 : Int → List (List UInt8) → Int → Int → List (List UInt8) → X) : Nat → Int → List (List UInt8) → Int → Int → List (List UInt8) → X
  | 0, _, _, _, _, _ => fail
  | m + 1, n, s24, s25, s26, wide => gInvert_l1 F fail (gInvert_l1F F fail ex0 m) ex0 n s24 s25 s26 wide

def gInvert_l2 {X : Type} (F : Nat) (fail : X) (next : Int → List (List UInt8) → Int → Int → List (List UInt8) → X) (ex0 : Int → List (List UInt8) → Int → Int → List (List UInt8) → X) (n : Int) (s53 : List (List UInt8)) (s54 : Int) (s55 : Int) (out : List (List UInt8)) : X :=
  bif (decide (s55 < s54)) then
    bif ((decide ((0 : Int) ≤ s55)) && (decide (s55 < ((s53.length : Nat) : Int)))) then
    bif ((decide ((0 : Int) ≤ n)) && (decide (n ≤ (((List.getD s53 (s55).toNat ([] : List UInt8)).length : Nat) : Int)))) then
    bif (sClone_P (List.drop (n).toNat (List.getD s53 (s55).toNat ([] : List UInt8)))) then
    bif (decide ((out ++ ([(sClone_r (List.drop (n).toNat (List.getD s53 (s55).toNat ([] : List UInt8))))] : List (List UInt8))).length ≤ big)) then
    next n s53 s54 (addI s55 (1 : Int)) (out ++ ([(sClone_r (List.drop (n).toNat (List.getD s53 (s55).toNat ([] : List UInt8))))] : List (List UInt8)))
    else fail
    else fail
    else fail
    else fail
  else
  ex0 n s53 s54 s55 out
def gInvert_l2F {X : Type} (F : Nat) (fail : X) (ex0 : Int → List (List UInt8) → Int → Int → List (List UInt8) → X) : Nat → Int → List (List UInt8) → Int → Int → List (List UInt8) → X
  | 0, _, _, _, _, _ => fail
  | m + 1, n, s53, s54, s55, out => gInvert_l2 F fail (gInvert_l2F F fail ex0 m) ex0 n s53 s54 s55 out

def gInvert {X : Type} (F : Nat) (m_ : List (List UInt8)) (fail : X) (ret : List (List UInt8) → Int → X) : X :=
  bif (isMat_P m_) then
  bif (!(isMat_r m_)) then
    ret ([] : List (List UInt8)) (6 : Int)
  else
  bif (decide ((0 : Int) < ((m_.length : Nat) : Int))) then
  bif ((((List.getD m_ 0 ([] : List UInt8)).length : Nat) : Int) != ((m_.length : Nat) : Int)) then
    ret ([] : List (List UInt8)) (23 : Int)
  else
  gInvert_l1F F fail
    (fun (n : Int) (s24 : List (List UInt8)) (s25 : Int) (s26 : Int) (wide : List (List UInt8)) =>
      bif (gReduced_P wide n) then
      bif (decide ((gReduced_r1 wide n) < n)) then
        ret ([] : List (List UInt8)) (17 : Int)
      else
      gInvert_l2F F fail
        (fun (n1 : Int) (s53 : List (List UInt8)) (s54 : Int) (s55 : Int) (out : List (List UInt8)) =>
          ret out (0 : Int))
        F n (gReduced_r0 wide n) (((gReduced_r0 wide n).length : Nat) : Int) (0 : Int) ([] : List (List UInt8))
      else fail)
    F ((m_.length : Nat) : Int) m_ ((m_.length : Nat) : Int) (0 : Int) ([] : List (List UInt8))
  else fail
  else fail

def pWhole_l1 {X : Type} (F : Nat) (fail : X) (next : List (List UInt8) → Int → Int → List (List UInt8) → Int → Int → List (List UInt8) → List (List UInt8) → List (List UInt8) → X) (ex0 : List (List UInt8) → Int → Int → List (List UInt8) → Int → Int → List (List UInt8) → List (List UInt8) → List (List UInt8) → X) (ex1 : List (List UInt8) → Int → Int → List (List UInt8) → Int → Int → List (List UInt8) → List (List UInt8) → List (List UInt8) → X) (s5 : List (List UInt8)) (s6 : Int) (s7 : Int) (parts : List (List UInt8)) (s51 : Int) (data : Int) (rows : List (List UInt8)) (some_ : List (List UInt8)) (basis : List (List UInt8)) : X :=
  bif (decide (s7 < s6)) then
    bif ((decide ((0 : Int) ≤ s7)) && (decide (s7 < ((s5.length : Nat) : Int)))) then
    bif (decide ((((List.getD s5 (s7).toNat ([] : List UInt8)).length : Nat) : Int) > (0 : Int))) then
      bif (((basis.length : Nat) : Int) == data) then
        ex0 s5 s6 s7 parts s51 data rows some_ basis
      else
      bif ((decide ((0 : Int) ≤ s7)) && (decide (s7 < ((rows.length : Nat) : Int)))) then
      bif (decide ((some_ ++ ([(List.getD rows (s7).toNat ([] : List UInt8))] : List (List UInt8))).length ≤ big)) then
      bif (decide ((basis ++ ([(List.getD s5 (s7).toNat ([] : List UInt8))] : List (List UInt8))).length ≤ big)) then
      next s5 s6 (addI s7 (1 : Int)) parts s51 data rows (some_ ++ ([(List.getD rows (s7).toNat ([] : List UInt8))] : List (List UInt8))) (basis ++ ([(List.getD s5 (s7).toNat ([] : List UInt8))] : List (List UInt8)))
      else fail
      else fail
      else fail
    else
    next s5 s6 (addI s7 (1 : Int)) parts s51 data rows some_ basis
    else fail
  else
  ex1 s5 s6 s7 parts s51 data rows some_ basis
def pWhole_l1F {X : Type} (F : Nat) (fail : X) (ex0 : List (List UInt8) → Int → Int → List (List UInt8) → Int → Int → List (List UInt8) → List (List UInt8) → List (List UInt8) → X) (ex1 : List (List UInt8) → Int → Int → List (List UInt8) → Int → Int → List (List UInt8) → List (List UInt8) → List (List UInt8) → X) : Nat → List (List UInt8) → Int → Int → List (List UInt8) → Int → Int → List (List UInt8) → List (List UInt8) → List (List UInt8) → X
  | 0, _, _, _, _, _, _, _, _, _ => fail
  | m + 1, s5, s6, s7, parts, s51, data, rows, some_, basis => pWhole_l1 F fail (pWhole_l1F F fail ex0 ex1 m) ex0 ex1 s5 s6 s7 parts s51 data rows some_ basis

def pWhole_l4 {X : Type} (F : Nat) (fail : X) (next : UInt8 → List UInt8 → Int → Int → List UInt8 → Int → Int → List (List UInt8) → Int → Int → List (List UInt8) → List UInt8 → List (List UInt8) → List (List UInt8) → List (List UInt8) → X) (ex0 : UInt8 → List UInt8 → Int → Int → List UInt8 → Int → Int → List (List UInt8) → Int → Int → List (List UInt8) → List UInt8 → List (List UInt8) → List (List UInt8) → List (List UInt8) → X) (factor : UInt8) (s14 : List UInt8) (s15 : Int) (s16 : Int) (s24 : List UInt8) (s25 : Int) (s26 : Int) (s66 : List (List UInt8)) (s67 : Int) (s68 : Int) (s1 : List (List UInt8)) (out : List UInt8) (rows : List (List UInt8)) (originals : List (List UInt8)) (out1 : List (List UInt8)) : X :=
  bif (decide (s26 < s25)) then
    bif ((decide ((0 : Int) ≤ s26)) && (decide (s26 < ((s24.length : Nat) : Int)))) then
    bif ((decide ((0 : Int) ≤ s26)) && (decide (s26 < ((out.length : Nat) : Int)))) then
    bif (gMul_P factor (List.getD s24 (s26).toNat (0 : UInt8))) then
    bif ((decide ((0 : Int) ≤ s26)) && (decide (s26 < ((out.length : Nat) : Int)))) then
    next factor s14 s15 s16 s24 s25 (addI s26 (1 : Int)) s66 s67 s68 s1 (List.set out (s26).toNat (xorB (List.getD out (s26).toNat (0 : UInt8)) (gMul_r factor (List.getD s24 (s26).toNat (0 : UInt8))))) rows originals out1
    else fail
    else fail
    else fail
    else fail
  else
  ex0 factor s14 s15 s16 s24 s25 s26 s66 s67 s68 s1 out rows originals out1
def pWhole_l4F {X : Type} (F : Nat) (fail : X) (ex0 : UInt8 → List UInt8 → Int → Int → List UInt8 → Int → Int → List (List UInt8) → Int → Int → List (List UInt8) → List UInt8 → List (List UInt8) → List (List UInt8) → List (List UInt8) → X) : Nat → UInt8 → List UInt8 → Int → Int → List UInt8 → Int → Int → List (List UInt8) → Int → Int → List (List UInt8) → List UInt8 → List (List UInt8) → List (List UInt8) → List (List UInt8) → X
  | 0, _, _, _, _, _, _, _, _, _, _, _, _, _, _, _ => fail
  | m + 1, factor, s14, s15, s16, s24, s25, s26, s66, s67, s68, s1, out, rows, originals, out1 => pWhole_l4 F fail (pWhole_l4F F fail ex0 m) ex0 factor s14 s15 s16 s24 s25 s26 s66 s67 s68 s1 out rows originals out1

def pWhole_l3 {X : Type} (F : Nat) (fail : X) (next : List UInt8 → Int → Int → List (List UInt8) → Int → Int → List (List UInt8) → List UInt8 → List (List UInt8) → List (List UInt8) → List (List UInt8) → X) (ex0 : List UInt8 → Int → Int → List (List UInt8) → Int → Int → List (List UInt8) → List UInt8 → List (List UInt8) → List (List UInt8) → List (List UInt8) → X) (s14 : List UInt8) (s15 : Int) (s16 : Int) (s66 : List (List UInt8)) (s67 : Int) (s68 : Int) (s1 : List (List UInt8)) (out : List UInt8) (rows : List (List UInt8)) (originals : List (List UInt8)) (out1 : List (List UInt8)) : X :=
  bif (decide (s16 < s15)) then
    bif ((decide ((0 : Int) ≤ s16)) && (decide (s16 < ((s14.length : Nat) : Int)))) then
    bif ((decide ((0 : Int) ≤ s16)) && (decide (s16 < ((s1.length : Nat) : Int)))) then
    pWhole_l4F F fail
      (fun (factor : UInt8) (s141 : List UInt8) (s151 : Int) (s161 : Int) (s24 : List UInt8) (s25 : Int) (s26 : Int) (s661 : List (List UInt8)) (s671 : Int) (s681 : Int) (s11 : List (List UInt8)) (out2 : List UInt8) (rows1 : List (List UInt8)) (originals1 : List (List UInt8)) (out3 : List (List UInt8)) =>
        next s141 s151 (addI s161 (1 : Int)) s661 s671 s681 s11 out2 rows1 originals1 out3)
      F (List.getD s14 (s16).toNat (0 : UInt8)) s14 s15 s16 (List.getD s1 (s16).toNat ([] : List UInt8)) (((List.getD s1 (s16).toNat ([] : List UInt8)).length : Nat) : Int) (0 : Int) s66 s67 s68 s1 out rows originals out1
    else fail
    else fail
  else
  ex0 s14 s15 s16 s66 s67 s68 s1 out rows originals out1
def pWhole_l3F {X : Type} (F : Nat) (fail : X) (ex0 : List UInt8 → Int → Int → List (List UInt8) → Int → Int → List (List UInt8) → List UInt8 → List (List UInt8) → List (List UInt8) → List (List UInt8) → X) : Nat → List UInt8 → Int → Int → List (List UInt8) → Int → Int → List (List UInt8) → List UInt8 → List (List UInt8) → List (List UInt8) → List (List UInt8) → X
  | 0, _, _, _, _, _, _, _, _, _, _, _ => fail
  | m + 1, s14, s15, s16, s66, s67, s68, s1, out, rows, originals, out1 => pWhole_l3 F fail (pWhole_l3F F fail ex0 m) ex0 s14 s15 s16 s66 s67 s68 s1 out rows originals out1

def pWhole_l2 {X : Type} (F : Nat) (fail : X) (next : List (List UInt8) → Int → Int → List (List UInt8) → List (List UInt8) → List (List UInt8) → List (List UInt8) → X) (ex0 : List (List UInt8) → Int → Int → List (List UInt8) → List (List UInt8) → List (List UInt8) → List (List UInt8) → X) (s66 : List (List UInt8)) (s67 : Int) (s68 : Int) (rows : List (List UInt8)) (originals : List (List UInt8)) (out : List (List UInt8)) (combine : List (List UInt8)) : X :=
  bif (decide (s68 < s67)) then
    bif ((decide ((0 : Int) ≤ s68)) && (decide (s68 < ((s66.length : Nat) : Int)))) then
    bif (decide ((0 : Int) < ((combine.length : Nat) : Int))) then
    bif (((decide ((0 : Int) ≤ (((List.getD combine 0 ([] : List UInt8)).length : Nat) : Int))) && true) && (decide ((((List.getD combine 0 ([] : List UInt8)).length : Nat) : Int) ≤ ((big : Nat) : Int)))) then
    pWhole_l3F F fail
      (fun (s14 : List UInt8) (s15 : Int) (s16 : Int) (s661 : List (List UInt8)) (s671 : Int) (s681 : Int) (s1 : List (List UInt8)) (out1 : List UInt8) (rows1 : List (List UInt8)) (originals1 : List (List UInt8)) (out2 : List (List UInt8)) =>
        bif (decide ((originals1 ++ ([out1] : List (List UInt8))).length ≤ big)) then
        next s661 s671 (addI s681 (1 : Int)) rows1 (originals1 ++ ([out1] : List (List UInt8))) out2 s1
        else fail)
      F (List.getD s66 (s68).toNat ([] : List UInt8)) (((List.getD s66 (s68).toNat ([] : List UInt8)).length : Nat) : Int) (0 : Int) s66 s67 s68 combine (List.replicate (List.getD combine 0 ([] : List UInt8)).length (0 : UInt8)) rows originals out
    else fail
    else fail
    else fail
  else
  ex0 s66 s67 s68 rows originals out combine
def pWhole_l2F {X : Type} (F : Nat) (fail : X) (ex0 : List (List UInt8) → Int → Int → List (List UInt8) → List (List UInt8) → List (List UInt8) → List (List UInt8) → X) : Nat → List (List UInt8) → Int → Int → List (List UInt8) → List (List UInt8) → List (List UInt8) → List (List UInt8) → X
  | 0, _, _, _, _, _, _, _ => fail
  | m + 1, s66, s67, s68, rows, originals, out, combine => pWhole_l2 F fail (pWhole_l2F F fail ex0 m) ex0 s66 s67 s68 rows originals out combine

def pWhole_l7 {X : Type} (F : Nat) (fail : X) (next : UInt8 → List UInt8 → Int → Int → List UInt8 → Int → Int → List (List UInt8) → Int → Int → List (List UInt8) → List UInt8 → List (List UInt8) → X) (ex0 : UInt8 → List UInt8 → Int → Int → List UInt8 → Int → Int → List (List UInt8) → Int → Int → List (List UInt8) → List UInt8 → List (List UInt8) → X) (factor : UInt8) (s14 : List UInt8) (s15 : Int) (s16 : Int) (s24 : List UInt8) (s25 : Int) (s26 : Int) (s81 : List (List UInt8)) (s82 : Int) (s83 : Int) (s1 : List (List UInt8)) (out : List UInt8) (out1 : List (List UInt8)) : X :=
  bif (decide (s26 < s25)) then
    bif ((decide ((0 : Int) ≤ s26)) && (decide (s26 < ((s24.length : Nat) : Int)))) then
    bif ((decide ((0 : Int) ≤ s26)) && (decide (s26 < ((out.length : Nat) : Int)))) then
    bif (gMul_P factor (List.getD s24 (s26).toNat (0 : UInt8))) then
    bif ((decide ((0 : Int) ≤ s26)) && (decide (s26 < ((out.length : Nat) : Int)))) then
    next factor s14 s15 s16 s24 s25 (addI s26 (1 : Int)) s81 s82 s83 s1 (List.set out (s26).toNat (xorB (List.getD out (s26).toNat (0 : UInt8)) (gMul_r factor (List.getD s24 (s26).toNat (0 : UInt8))))) out1
    else fail
    else fail
    else fail
    else fail
  else
  ex0 factor s14 s15 s16 s24 s25 s26 s81 s82 s83 s1 out out1
def pWhole_l7F {X : Type} (F : Nat) (fail : X) (ex0 : UInt8 → List UInt8 → Int → Int → List UInt8 → Int → Int → List (List UInt8) → Int → Int → List (List UInt8) → List UInt8 → List (List UInt8) → X) : Nat → UInt8 → List UInt8 → Int → Int → List UInt8 → Int → Int → List (List UInt8) → Int → Int → List (List UInt8) → List UInt8 → List (List UInt8) → X
  | 0, _, _, _, _, _, _, _, _, _, _, _, _, _ => fail
  | m + 1, factor, s14, s15, s16, s24, s25, s26, s81, s82, s83, s1, out, out1 => pWhole_l7 F fail (pWhole_l7F F fail ex0 m) ex0 factor s14 s15 s16 s24 s25 s26 s81 s82 s83 s1 out out1

def pWhole_l6 {X : Type} (F : Nat) (fail : X) (next : List UInt8 → Int → Int → List (List UInt8) → Int → Int → List (List UInt8) → List UInt8 → List (List UInt8) → X) (ex0 : List UInt8 → Int → Int → List (List UInt8) → Int → Int → List (List UInt8) → List UInt8 → List (List UInt8) → X) (s14 : List UInt8) (s15 : Int) (s16 : Int) (s81 : List (List UInt8)) (s82 : Int) (s83 : Int) (s1 : List (List UInt8)) (out : List UInt8) (out1 : List (List UInt8)) : X :=
  bif (decide (s16 < s15)) then
    bif ((decide ((0 : Int) ≤ s16)) && (decide (s16 < ((s14.length : Nat) : Int)))) then
    bif ((decide ((0 : Int) ≤ s16)) && (decide (s16 < ((s1.length : Nat) : Int)))) then
    pWhole_l7F F fail
      (fun (factor : UInt8) (s141 : List UInt8) (s151 : Int) (s161 : Int) (s24 : List UInt8) (s25 : Int) (s26 : Int) (s811 : List (List UInt8)) (s821 : Int) (s831 : Int) (s11 : List (List UInt8)) (out2 : List UInt8) (out3 : List (List UInt8)) =>
        next s141 s151 (addI s161 (1 : Int)) s811 s821 s831 s11 out2 out3)
      F (List.getD s14 (s16).toNat (0 : UInt8)) s14 s15 s16 (List.getD s1 (s16).toNat ([] : List UInt8)) (((List.getD s1 (s16).toNat ([] : List UInt8)).length : Nat) : Int) (0 : Int) s81 s82 s83 s1 out out1
    else fail
    else fail
  else
  ex0 s14 s15 s16 s81 s82 s83 s1 out out1
def pWhole_l6F {X : Type} (F : Nat) (fail : X) (ex0 : List UInt8 → Int → Int → List (List UInt8) → Int → Int → List (List UInt8) → List UInt8 → List (List UInt8) → X) : Nat → List UInt8 → Int → Int → List (List UInt8) → Int → Int → List (List UInt8) → List UInt8 → List (List UInt8) → X
  | 0, _, _, _, _, _, _, _, _, _ => fail
  | m + 1, s14, s15, s16, s81, s82, s83, s1, out, out1 => pWhole_l6 F fail (pWhole_l6F F fail ex0 m) ex0 s14 s15 s16 s81 s82 s83 s1 out out1

def pWhole_l5 {X : Type} (F : Nat) (fail : X) (next : List (List UInt8) → Int → Int → List (List UInt8) → List (List UInt8) → X) (ex0 : List (List UInt8) → Int → Int → List (List UInt8) → List (List UInt8) → X) (s81 : List (List UInt8)) (s82 : Int) (s83 : Int) (out : List (List UInt8)) (combine : List (List UInt8)) : X :=
  bif (decide (s83 < s82)) then
    bif ((decide ((0 : Int) ≤ s83)) && (decide (s83 < ((s81.length : Nat) : Int)))) then
    bif (decide ((0 : Int) < ((combine.length : Nat) : Int))) then
    bif (((decide ((0 : Int) ≤ (((List.getD combine 0 ([] : List UInt8)).length : Nat) : Int))) && true) && (decide ((((List.getD combine 0 ([] : List UInt8)).length : Nat) : Int) ≤ ((big : Nat) : Int)))) then
    pWhole_l6F F fail
      (fun (s14 : List UInt8) (s15 : Int) (s16 : Int) (s811 : List (List UInt8)) (s821 : Int) (s831 : Int) (s1 : List (List UInt8)) (out1 : List UInt8) (out2 : List (List UInt8)) =>
        bif (decide ((out2 ++ ([out1] : List (List UInt8))).length ≤ big)) then
        next s811 s821 (addI s831 (1 : Int)) (out2 ++ ([out1] : List (List UInt8))) s1
        else fail)
      F (List.getD s81 (s83).toNat ([] : List UInt8)) (((List.getD s81 (s83).toNat ([] : List UInt8)).length : Nat) : Int) (0 : Int) s81 s82 s83 combine (List.replicate (List.getD combine 0 ([] : List UInt8)).length (0 : UInt8)) out
    else fail
    else fail
    else fail
  else
  ex0 s81 s82 s83 out combine
def pWhole_l5F {X : Type} (F : Nat) (fail : X) (ex0 : List (List UInt8) → Int → Int → List (List UInt8) → List (List UInt8) → X) : Nat → List (List UInt8) → Int → Int → List (List UInt8) → List (List UInt8) → X
  | 0, _, _, _, _, _ => fail
  | m + 1, s81, s82, s83, out, combine => pWhole_l5 F fail (pWhole_l5F F fail ex0 m) ex0 s81 s82 s83 out combine

def pWhole {X : Type} (F : Nat) (parts : List (List UInt8)) (data : Int) (fail : X) (ret : List (List UInt8) → Int → X) : X :=
  bif (pCheck_P parts data) then
  bif ((pCheck_r parts data) != (0 : Int)) then
    ret ([] : List (List UInt8)) (pCheck_r parts data)
  else
  bif (pMatrix_P data (subI ((parts.length : Nat) : Int) data)) then
  pWhole_l1F F fail
    (fun (s5 : List (List UInt8)) (s6 : Int) (s7 : Int) (parts1 : List (List UInt8)) (s51 : Int) (data1 : Int) (rows : List (List UInt8)) (some_ : List (List UInt8)) (basis : List (List UInt8)) =>
      bif (decide (((basis.length : Nat) : Int) < data1)) then
        ret ([] : List (List UInt8)) (26 : Int)
      else
      bif (gInvert_P some_) then
      bif ((gInvert_r1 some_) != (0 : Int)) then
        ret ([] : List (List UInt8)) (gInvert_r1 some_)
      else
      pWhole_l2F F fail
        (fun (s66 : List (List UInt8)) (s67 : Int) (s68 : Int) (rows1 : List (List UInt8)) (originals : List (List UInt8)) (out : List (List UInt8)) (combine : List (List UInt8)) =>
          pWhole_l5F F fail
            (fun (s81 : List (List UInt8)) (s82 : Int) (s83 : Int) (out1 : List (List UInt8)) (combine1 : List (List UInt8)) =>
              ret out1 (0 : Int))
            F rows1 ((rows1.length : Nat) : Int) (0 : Int) out originals)
        F (gInvert_r0 some_) (((gInvert_r0 some_).length : Nat) : Int) (0 : Int) rows ([] : List (List UInt8)) ([] : List (List UInt8)) basis
      else fail)
    (fun (s52 : List (List UInt8)) (s61 : Int) (s71 : Int) (parts2 : List (List UInt8)) (s53 : Int) (data2 : Int) (rows2 : List (List UInt8)) (some_1 : List (List UInt8)) (basis1 : List (List UInt8)) =>
      bif (decide (((basis1.length : Nat) : Int) < data2)) then
        ret ([] : List (List UInt8)) (26 : Int)
      else
      bif (gInvert_P some_1) then
      bif ((gInvert_r1 some_1) != (0 : Int)) then
        ret ([] : List (List UInt8)) (gInvert_r1 some_1)
      else
      pWhole_l2F F fail
        (fun (s661 : List (List UInt8)) (s671 : Int) (s681 : Int) (rows3 : List (List UInt8)) (originals1 : List (List UInt8)) (out2 : List (List UInt8)) (combine2 : List (List UInt8)) =>
          pWhole_l5F F fail
            (fun (s811 : List (List UInt8)) (s821 : Int) (s831 : Int) (out3 : List (List UInt8)) (combine3 : List (List UInt8)) =>
              ret out3 (0 : Int))
            F rows3 ((rows3.length : Nat) : Int) (0 : Int) out2 originals1)
        F (gInvert_r0 some_1) (((gInvert_r0 some_1).length : Nat) : Int) (0 : Int) rows2 ([] : List (List UInt8)) ([] : List (List UInt8)) basis1
      else fail)
    F parts ((parts.length : Nat) : Int) (0 : Int) parts (0 : Int) data (pMatrix_r data (subI ((parts.length : Nat) : Int) data)) ([] : List (List UInt8)) ([] : List (List UInt8))
  else fail
  else fail

def pRepair_l1 {X : Type} (F : Nat) (fail : X) (next : List (List UInt8) → Int → Int → List (List UInt8) → Int → List (List UInt8) → X) (ex0 : List (List UInt8) → Int → Int → List (List UInt8) → Int → List (List UInt8) → X) (s5 : List (List UInt8)) (s6 : Int) (s7 : Int) (parts : List (List UInt8)) (s51 : Int) (out : List (List UInt8)) : X :=
  bif (decide (s7 < s6)) then
    bif ((decide ((0 : Int) ≤ s7)) && (decide (s7 < ((s5.length : Nat) : Int)))) then
    bif (decide ((((List.getD s5 (s7).toNat ([] : List UInt8)).length : Nat) : Int) > (0 : Int))) then
      bif (sClone_P (List.getD s5 (s7).toNat ([] : List UInt8))) then
      bif ((decide ((0 : Int) ≤ s7)) && (decide (s7 < ((out.length : Nat) : Int)))) then
      next s5 s6 (addI s7 (1 : Int)) parts s51 (List.set out (s7).toNat (sClone_r (List.getD s5 (s7).toNat ([] : List UInt8))))
      else fail
      else fail
    else
    next s5 s6 (addI s7 (1 : Int)) parts s51 out
    else fail
  else
  ex0 s5 s6 s7 parts s51 out
def pRepair_l1F {X : Type} (F : Nat) (fail : X) (ex0 : List (List UInt8) → Int → Int → List (List UInt8) → Int → List (List UInt8) → X) : Nat → List (List UInt8) → Int → Int → List (List UInt8) → Int → List (List UInt8) → X
  | 0, _, _, _, _, _, _ => fail
  | m + 1, s5, s6, s7, parts, s51, out => pRepair_l1 F fail (pRepair_l1F F fail ex0 m) ex0 s5 s6 s7 parts s51 out

def pRepair {X : Type} (F : Nat) (parts : List (List UInt8)) (data : Int) (fail : X) (ret : List (List UInt8) → Int → X) : X :=
  bif (pWhole_P parts data) then
  bif ((pWhole_r1 parts data) != (0 : Int)) then
    ret ([] : List (List UInt8)) (pWhole_r1 parts data)
  else
  pRepair_l1F F fail
    (fun (s5 : List (List UInt8)) (s6 : Int) (s7 : Int) (parts1 : List (List UInt8)) (s51 : Int) (out : List (List UInt8)) =>
      ret out (0 : Int))
    F parts ((parts.length : Nat) : Int) (0 : Int) parts (0 : Int) (pWhole_r0 parts data)
  else fail

def bEqual {X : Type} (F : Nat) (a : List UInt8) (b : List UInt8) (fail : X) (ret : Bool → X) : X :=
  ret (a == b)

end Go.AI
