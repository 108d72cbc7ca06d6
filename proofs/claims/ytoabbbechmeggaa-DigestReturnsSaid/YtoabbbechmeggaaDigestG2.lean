/- Plain functions, printed by running the machine on symbols. -/
import Derived.Test.YtoabbbechmeggaaDigestS
namespace Go.AI
open Go
set_option linter.unusedVariables false

def padded_l1 {X : Type} (F : Nat) (fail : X) (next : UInt8 → Int → Int → List UInt8 → X) (ex0 : UInt8 → Int → Int → List UInt8 → X) (by_ : UInt8) (s19 : Int) (s20 : Int) (out : List UInt8) : X :=
  bif (decide (s20 < s19)) then
    bif ((decide ((0 : Int) ≤ s20)) && (decide (s20 < ((out.length : Nat) : Int)))) then
    bif ((decide ((0 : Int) ≤ s20)) && (decide (s20 < ((out.length : Nat) : Int)))) then
    next by_ s19 (addI s20 (1 : Int)) (List.set out (s20).toNat (xorB (List.getD out (s20).toNat (0 : UInt8)) by_))
    else fail
    else fail
  else
  ex0 by_ s19 s20 out
def padded_l1F {X : Type} (F : Nat) (fail : X) (ex0 : UInt8 → Int → Int → List UInt8 → X) : Nat → UInt8 → Int → Int → List UInt8 → X
  | 0, _, _, _, _ => fail
  | m + 1, by_, s19, s20, out => padded_l1 F fail (padded_l1F F fail ex0 m) ex0 by_ s19 s20 out

def padded {X : Type} (F : Nat) (key : List UInt8) (by_ : UInt8) (fail : X) (ret : List UInt8 → X) : X :=
  bif (decide (((key.length : Nat) : Int) > (64 : Int))) then
    bif (dSum_P key) then
    bif (decide ((64 : Int) ≤ ((big : Nat) : Int))) then
    padded_l1F F fail
      (fun (by_1 : UInt8) (s19 : Int) (s20 : Int) (out : List UInt8) =>
        ret out)
      F by_ (((((List.take 0 (List.replicate 64 (0 : UInt8))) ++ (List.take (min (List.take 32 (dSum_r key)).length (List.replicate 64 (0 : UInt8)).length) (List.take 32 (dSum_r key)))) ++ (List.drop (0 + (min (List.take 32 (dSum_r key)).length (List.replicate 64 (0 : UInt8)).length)) (List.replicate 64 (0 : UInt8)))).length : Nat) : Int) (0 : Int) (((List.take 0 (List.replicate 64 (0 : UInt8))) ++ (List.take (min (List.take 32 (dSum_r key)).length (List.replicate 64 (0 : UInt8)).length) (List.take 32 (dSum_r key)))) ++ (List.drop (0 + (min (List.take 32 (dSum_r key)).length (List.replicate 64 (0 : UInt8)).length)) (List.replicate 64 (0 : UInt8))))
    else fail
    else fail
  else
  bif (decide ((64 : Int) ≤ ((big : Nat) : Int))) then
  padded_l1F F fail
    (fun (by_2 : UInt8) (s191 : Int) (s201 : Int) (out1 : List UInt8) =>
      ret out1)
    F by_ (((((List.take 0 (List.replicate 64 (0 : UInt8))) ++ (List.take (min key.length (List.replicate 64 (0 : UInt8)).length) key)) ++ (List.drop (0 + (min key.length (List.replicate 64 (0 : UInt8)).length)) (List.replicate 64 (0 : UInt8)))).length : Nat) : Int) (0 : Int) (((List.take 0 (List.replicate 64 (0 : UInt8))) ++ (List.take (min key.length (List.replicate 64 (0 : UInt8)).length) key)) ++ (List.drop (0 + (min key.length (List.replicate 64 (0 : UInt8)).length)) (List.replicate 64 (0 : UInt8))))
  else fail

def dMac {X : Type} (F : Nat) (key : List UInt8) (b : List UInt8) (fail : X) (ret : List UInt8 → X) : X :=
  bif (hNew_P) then
  bif (padded_P key (54 : UInt8)) then
  bif (hwrite_P (hNew_r) (padded_r key (54 : UInt8))) then
  bif (hwrite_P (hwrite_r (hNew_r) (padded_r key (54 : UInt8))) b) then
  bif (hfinish_P (hwrite_r (hwrite_r (hNew_r) (padded_r key (54 : UInt8))) b)) then
  bif (hNew_P) then
  bif (padded_P key (92 : UInt8)) then
  bif (hwrite_P (hNew_r) (padded_r key (92 : UInt8))) then
  bif (hwrite_P (hwrite_r (hNew_r) (padded_r key (92 : UInt8))) (List.take 32 (hfinish_r (hwrite_r (hwrite_r (hNew_r) (padded_r key (54 : UInt8))) b)))) then
  bif (hfinish_P (hwrite_r (hwrite_r (hNew_r) (padded_r key (92 : UInt8))) (List.take 32 (hfinish_r (hwrite_r (hwrite_r (hNew_r) (padded_r key (54 : UInt8))) b))))) then
  ret (hfinish_r (hwrite_r (hwrite_r (hNew_r) (padded_r key (92 : UInt8))) (List.take 32 (hfinish_r (hwrite_r (hwrite_r (hNew_r) (padded_r key (54 : UInt8))) b)))))
  else fail
  else fail
  else fail
  else fail
  else fail
  else fail
  else fail
  else fail
  else fail
  else fail

def dDerive_l2 {X : Type} (F : Nat) (fail : X) (next : List UInt8 → List UInt8 → Int → Int → List UInt8 → Int → List UInt8 → List UInt8 → List UInt8 → X) (ex0 : List UInt8 → List UInt8 → Int → Int → List UInt8 → Int → List UInt8 → List UInt8 → List UInt8 → X) (password : List UInt8) (last : List UInt8) (s39 : Int) (s40 : Int) (s45 : List UInt8) (s46 : Int) (s6 : List UInt8) (out : List UInt8) (u : List UInt8) : X :=
  bif (decide (s46 < (32 : Int))) then
    bif ((decide ((0 : Int) ≤ s46)) && (decide (s46 < ((32 : Nat) : Int)))) then
    bif ((decide ((0 : Int) ≤ s46)) && (decide (s46 < ((32 : Nat) : Int)))) then
    bif ((decide ((0 : Int) ≤ s46)) && (decide (s46 < ((32 : Nat) : Int)))) then
    next password last s39 s40 s45 (addI s46 (1 : Int)) s6 (List.set out (s46).toNat (xorB (List.getD out (s46).toNat (0 : UInt8)) (List.getD s45 (s46).toNat (0 : UInt8)))) u
    else fail
    else fail
    else fail
  else
  ex0 password last s39 s40 s45 s46 s6 out u
def dDerive_l2F {X : Type} (F : Nat) (fail : X) (ex0 : List UInt8 → List UInt8 → Int → Int → List UInt8 → Int → List UInt8 → List UInt8 → List UInt8 → X) : Nat → List UInt8 → List UInt8 → Int → Int → List UInt8 → Int → List UInt8 → List UInt8 → List UInt8 → X
  | 0, _, _, _, _, _, _, _, _, _ => fail
  | m + 1, password, last, s39, s40, s45, s46, s6, out, u => dDerive_l2 F fail (dDerive_l2F F fail ex0 m) ex0 password last s39 s40 s45 s46 s6 out u

def dDerive_l1 {X : Type} (F : Nat) (fail : X) (next : List UInt8 → List UInt8 → Int → Int → List UInt8 → List UInt8 → X) (ex0 : List UInt8 → List UInt8 → Int → Int → List UInt8 → List UInt8 → X) (password : List UInt8) (last : List UInt8) (s39 : Int) (s40 : Int) (s6 : List UInt8) (out : List UInt8) : X :=
  bif (decide (s40 < s39)) then
    bif (dMac_P password last) then
    dDerive_l2F F fail
      (fun (password1 : List UInt8) (last1 : List UInt8) (s391 : Int) (s401 : Int) (s45 : List UInt8) (s46 : Int) (s61 : List UInt8) (out1 : List UInt8) (u : List UInt8) =>
        next password1 (List.take 32 u) s391 (addI s401 (1 : Int)) s61 out1)
      F password last s39 s40 (dMac_r password last) (0 : Int) s6 out (dMac_r password last)
    else fail
  else
  ex0 password last s39 s40 s6 out
def dDerive_l1F {X : Type} (F : Nat) (fail : X) (ex0 : List UInt8 → List UInt8 → Int → Int → List UInt8 → List UInt8 → X) : Nat → List UInt8 → List UInt8 → Int → Int → List UInt8 → List UInt8 → X
  | 0, _, _, _, _, _, _ => fail
  | m + 1, password, last, s39, s40, s6, out => dDerive_l1 F fail (dDerive_l1F F fail ex0 m) ex0 password last s39 s40 s6 out

def dDerive {X : Type} (F : Nat) (password : List UInt8) (salt : List UInt8) (count : Int) (fail : X) (ret : List UInt8 → Int → X) : X :=
  bif (decide (((password.length : Nat) : Int) > (65536 : Int))) then
    ret (List.replicate 32 (0 : UInt8)) (5 : Int)
  else
  bif (decide (((salt.length : Nat) : Int) > (65536 : Int))) then
    ret (List.replicate 32 (0 : UInt8)) (5 : Int)
  else
  bif (decide (count < (1 : Int))) then
    ret (List.replicate 32 (0 : UInt8)) (2 : Int)
  else
  bif (decide (count > (1024 : Int))) then
    ret (List.replicate 32 (0 : UInt8)) (2 : Int)
  else
  bif (((decide ((0 : Int) ≤ ((salt.length : Nat) : Int))) && (decide (((salt.length : Nat) : Int) ≤ ((salt.length : Nat) : Int)))) && (((salt.length : Nat) : Int) == ((salt.length : Nat) : Int))) then
  bif (decide (((List.take salt.length salt) ++ ([(0 : UInt8), (0 : UInt8), (0 : UInt8), (1 : UInt8)] : List UInt8)).length ≤ big)) then
  dDerive_l1F F fail
    (fun (password1 : List UInt8) (last : List UInt8) (s39 : Int) (s40 : Int) (s6 : List UInt8) (out : List UInt8) =>
      ret out (0 : Int))
    F password ((List.take salt.length salt) ++ ([(0 : UInt8), (0 : UInt8), (0 : UInt8), (1 : UInt8)] : List UInt8)) count (0 : Int) (List.replicate 32 (0 : UInt8)) (List.replicate 32 (0 : UInt8))
  else fail
  else fail

def dHex_l1 {X : Type} (F : Nat) (fail : X) (next : List UInt8 → Int → List UInt8 → X) (ex0 : List UInt8 → Int → List UInt8 → X) (s7 : List UInt8) (s8 : Int) (out : List UInt8) : X :=
  bif (decide (s8 < (32 : Int))) then
    bif ((decide ((0 : Int) ≤ s8)) && (decide (s8 < ((32 : Nat) : Int)))) then
    bif ((decide ((0 : Int) ≤ ((((shrB (List.getD s7 (s8).toNat (0 : UInt8)) (4 : Int))).toNat : Nat) : Int))) && (decide (((((shrB (List.getD s7 (s8).toNat (0 : UInt8)) (4 : Int))).toNat : Nat) : Int) < ((([(48 : UInt8), (49 : UInt8), (50 : UInt8), (51 : UInt8), (52 : UInt8), (53 : UInt8), (54 : UInt8), (55 : UInt8), (56 : UInt8), (57 : UInt8), (97 : UInt8), (98 : UInt8), (99 : UInt8), (100 : UInt8), (101 : UInt8), (102 : UInt8)] : List UInt8).length : Nat) : Int)))) then
    bif ((decide ((0 : Int) ≤ ((((andB (List.getD s7 (s8).toNat (0 : UInt8)) (15 : UInt8))).toNat : Nat) : Int))) && (decide (((((andB (List.getD s7 (s8).toNat (0 : UInt8)) (15 : UInt8))).toNat : Nat) : Int) < ((([(48 : UInt8), (49 : UInt8), (50 : UInt8), (51 : UInt8), (52 : UInt8), (53 : UInt8), (54 : UInt8), (55 : UInt8), (56 : UInt8), (57 : UInt8), (97 : UInt8), (98 : UInt8), (99 : UInt8), (100 : UInt8), (101 : UInt8), (102 : UInt8)] : List UInt8).length : Nat) : Int)))) then
    bif (decide ((out ++ ([(List.getD ([(48 : UInt8), (49 : UInt8), (50 : UInt8), (51 : UInt8), (52 : UInt8), (53 : UInt8), (54 : UInt8), (55 : UInt8), (56 : UInt8), (57 : UInt8), (97 : UInt8), (98 : UInt8), (99 : UInt8), (100 : UInt8), (101 : UInt8), (102 : UInt8)] : List UInt8) ((shrB (List.getD s7 (s8).toNat (0 : UInt8)) (4 : Int))).toNat (0 : UInt8)), (List.getD ([(48 : UInt8), (49 : UInt8), (50 : UInt8), (51 : UInt8), (52 : UInt8), (53 : UInt8), (54 : UInt8), (55 : UInt8), (56 : UInt8), (57 : UInt8), (97 : UInt8), (98 : UInt8), (99 : UInt8), (100 : UInt8), (101 : UInt8), (102 : UInt8)] : List UInt8) ((andB (List.getD s7 (s8).toNat (0 : UInt8)) (15 : UInt8))).toNat (0 : UInt8))] : List UInt8)).length ≤ big)) then
    next s7 (addI s8 (1 : Int)) (out ++ ([(List.getD ([(48 : UInt8), (49 : UInt8), (50 : UInt8), (51 : UInt8), (52 : UInt8), (53 : UInt8), (54 : UInt8), (55 : UInt8), (56 : UInt8), (57 : UInt8), (97 : UInt8), (98 : UInt8), (99 : UInt8), (100 : UInt8), (101 : UInt8), (102 : UInt8)] : List UInt8) ((shrB (List.getD s7 (s8).toNat (0 : UInt8)) (4 : Int))).toNat (0 : UInt8)), (List.getD ([(48 : UInt8), (49 : UInt8), (50 : UInt8), (51 : UInt8), (52 : UInt8), (53 : UInt8), (54 : UInt8), (55 : UInt8), (56 : UInt8), (57 : UInt8), (97 : UInt8), (98 : UInt8), (99 : UInt8), (100 : UInt8), (101 : UInt8), (102 : UInt8)] : List UInt8) ((andB (List.getD s7 (s8).toNat (0 : UInt8)) (15 : UInt8))).toNat (0 : UInt8))] : List UInt8))
    else fail
    else fail
    else fail
    else fail
  else
  ex0 s7 s8 out
def dHex_l1F {X : Type} (F : Nat) (fail : X) (ex0 : List UInt8 → Int → List UInt8 → X) : Nat → List UInt8 → Int → List UInt8 → X
  | 0, _, _, _ => fail
  | m + 1, s7, s8, out => dHex_l1 F fail (dHex_l1F F fail ex0 m) ex0 s7 s8 out

def dHex {X : Type} (F : Nat) (d_ : List UInt8) (fail : X) (ret : List UInt8 → X) : X :=
  bif (decide ((64 : Int) ≤ ((big : Nat) : Int))) then
  dHex_l1F F fail
    (fun (s7 : List UInt8) (s8 : Int) (out : List UInt8) =>
      ret out)
    F d_ (0 : Int) ([] : List UInt8)
  else fail

def value {X : Type} (F : Nat) (c : UInt8) (fail : X) (ret : UInt8 → Bool → X) : X :=
  bif (decide ((((c).toNat : Nat) : Int) ≥ (48 : Int))) then
    bif (decide ((((c).toNat : Nat) : Int) ≤ (57 : Int))) then
      ret (subB c (48 : UInt8)) true
    else
    bif (decide ((((c).toNat : Nat) : Int) ≥ (97 : Int))) then
      bif (decide ((((c).toNat : Nat) : Int) ≤ (102 : Int))) then
        ret (addB (subB c (97 : UInt8)) (10 : UInt8)) true
      else
      ret (0 : UInt8) false
    else
    ret (0 : UInt8) false
  else
  bif (decide ((((c).toNat : Nat) : Int) ≥ (97 : Int))) then
    bif (decide ((((c).toNat : Nat) : Int) ≤ (102 : Int))) then
      ret (addB (subB c (97 : UInt8)) (10 : UInt8)) true
    else
    ret (0 : UInt8) false
  else
  ret (0 : UInt8) false

def dParse_l1 {X : Type} (F : Nat) (fail : X) (next : List UInt8 → Int → List UInt8 → List UInt8 → List UInt8 → Nat → X) (ex0 : List UInt8 → Int → List UInt8 → List UInt8 → List UInt8 → Nat → X) (ex1 : List UInt8 → Int → List UInt8 → List UInt8 → List UInt8 → Nat → X) (s : List UInt8) (s3 : Int) (s2 : List UInt8) (out : List UInt8) (s13 : List UInt8) (s13_pos : Nat) : X :=
  bif (decide (s13_pos < s13.length)) then
    bif ((decide ((0 : Int) ≤ ((s13_pos : Nat) : Int))) && (decide (((s13_pos : Nat) : Int) < ((s.length : Nat) : Int)))) then
    bif (!(value_r1 (List.getD s s13_pos (0 : UInt8)))) then
      ex0 s (4 : Int) (List.replicate 32 (0 : UInt8)) out s13 (nextPos s13 s13_pos)
    else
    bif ((decide ((0 : Int) ≤ (quoI ((s13_pos : Nat) : Int) (2 : Int)))) && (decide ((quoI ((s13_pos : Nat) : Int) (2 : Int)) < ((32 : Nat) : Int)))) then
    bif ((decide ((0 : Int) ≤ (quoI ((s13_pos : Nat) : Int) (2 : Int)))) && (decide ((quoI ((s13_pos : Nat) : Int) (2 : Int)) < ((32 : Nat) : Int)))) then
    next s s3 s2 (List.set out ((quoI ((s13_pos : Nat) : Int) (2 : Int))).toNat (orB (shlB (List.getD out ((quoI ((s13_pos : Nat) : Int) (2 : Int))).toNat (0 : UInt8)) (4 : Int)) (value_r0 (List.getD s s13_pos (0 : UInt8))))) s13 (nextPos s13 s13_pos)
    else fail
    else fail
    else fail
  else
  ex1 s s3 s2 out s13 s13_pos
def dParse_l1F {X : Type} (F : Nat) (fail : X) (ex0 : List UInt8 → Int → List UInt8 → List UInt8 → List UInt8 → Nat → X) (ex1 : List UInt8 → Int → List UInt8 → List UInt8 → List UInt8 → Nat → X) : Nat → List UInt8 → Int → List UInt8 → List UInt8 → List UInt8 → Nat → X
  | 0, _, _, _, _, _, _ => fail
  | m + 1, s, s3, s2, out, s13, s13_pos => dParse_l1 F fail (dParse_l1F F fail ex0 ex1 m) ex0 ex1 s s3 s2 out s13 s13_pos

def dParse {X : Type} (F : Nat) (s : List UInt8) (fail : X) (ret : List UInt8 → Int → X) : X :=
  bif (((s.length : Nat) : Int) != (64 : Int)) then
    ret (List.replicate 32 (0 : UInt8)) (4 : Int)
  else
  dParse_l1F F fail
    (fun (s1 : List UInt8) (s3 : Int) (s2 : List UInt8) (out : List UInt8) (s13 : List UInt8) (s13_pos : Nat) =>
      ret s2 s3)
    (fun (s4 : List UInt8) (s31 : Int) (s21 : List UInt8) (out1 : List UInt8) (s131 : List UInt8) (s13_pos1 : Nat) =>
      ret out1 (0 : Int))
    F s (0 : Int) (List.replicate 32 (0 : UInt8)) (List.replicate 32 (0 : UInt8)) s 0

def rMac_l1 {X : Type} (F : Nat) (fail : X) (next : List UInt8 → Int → List UInt8 → List UInt8 → List UInt8 → List UInt8 → X) (ex0 : List UInt8 → Int → List UInt8 → List UInt8 → List UInt8 → List UInt8 → X) (b : List UInt8) (i : Int) (s4 : List UInt8) (k : List UInt8) (inner : List UInt8) (outer : List UInt8) : X :=
  bif (decide (i < (64 : Int))) then
    bif ((decide ((0 : Int) ≤ i)) && (decide (i < ((64 : Nat) : Int)))) then
    bif (decide ((inner ++ ([(xorB (List.getD k (i).toNat (0 : UInt8)) (54 : UInt8))] : List UInt8)).length ≤ big)) then
    bif ((decide ((0 : Int) ≤ i)) && (decide (i < ((64 : Nat) : Int)))) then
    bif (decide ((outer ++ ([(xorB (List.getD k (i).toNat (0 : UInt8)) (92 : UInt8))] : List UInt8)).length ≤ big)) then
    next b (addI i (1 : Int)) s4 k (inner ++ ([(xorB (List.getD k (i).toNat (0 : UInt8)) (54 : UInt8))] : List UInt8)) (outer ++ ([(xorB (List.getD k (i).toNat (0 : UInt8)) (92 : UInt8))] : List UInt8))
    else fail
    else fail
    else fail
    else fail
  else
  ex0 b i s4 k inner outer
def rMac_l1F {X : Type} (F : Nat) (fail : X) (ex0 : List UInt8 → Int → List UInt8 → List UInt8 → List UInt8 → List UInt8 → X) : Nat → List UInt8 → Int → List UInt8 → List UInt8 → List UInt8 → List UInt8 → X
  | 0, _, _, _, _, _, _ => fail
  | m + 1, b, i, s4, k, inner, outer => rMac_l1 F fail (rMac_l1F F fail ex0 m) ex0 b i s4 k inner outer

def rMac {X : Type} (F : Nat) (key : List UInt8) (b : List UInt8) (fail : X) (ret : List UInt8 → X) : X :=
  bif (decide (((key.length : Nat) : Int) > (64 : Int))) then
    bif (rSum_P key) then
    rMac_l1F F fail
      (fun (b1 : List UInt8) (i : Int) (s4 : List UInt8) (k : List UInt8) (inner : List UInt8) (outer : List UInt8) =>
        bif (decide ((inner ++ b1).length ≤ big)) then
        bif (rSum_P (inner ++ b1)) then
        bif (decide ((outer ++ (List.take 32 (rSum_r (inner ++ b1)))).length ≤ big)) then
        bif (rSum_P (outer ++ (List.take 32 (rSum_r (inner ++ b1))))) then
        ret (rSum_r (outer ++ (List.take 32 (rSum_r (inner ++ b1)))))
        else fail
        else fail
        else fail
        else fail)
      F b (0 : Int) (List.replicate 32 (0 : UInt8)) (((List.take 0 (List.replicate 64 (0 : UInt8))) ++ (List.take (min (List.take 32 (rSum_r key)).length 64) (List.take 32 (rSum_r key)))) ++ (List.drop (0 + (min (List.take 32 (rSum_r key)).length 64)) (List.replicate 64 (0 : UInt8)))) ([] : List UInt8) ([] : List UInt8)
    else fail
  else
  rMac_l1F F fail
    (fun (b2 : List UInt8) (i1 : Int) (s41 : List UInt8) (k1 : List UInt8) (inner1 : List UInt8) (outer1 : List UInt8) =>
      bif (decide ((inner1 ++ b2).length ≤ big)) then
      bif (rSum_P (inner1 ++ b2)) then
      bif (decide ((outer1 ++ (List.take 32 (rSum_r (inner1 ++ b2)))).length ≤ big)) then
      bif (rSum_P (outer1 ++ (List.take 32 (rSum_r (inner1 ++ b2))))) then
      ret (rSum_r (outer1 ++ (List.take 32 (rSum_r (inner1 ++ b2)))))
      else fail
      else fail
      else fail
      else fail)
    F b (0 : Int) (List.replicate 32 (0 : UInt8)) (((List.take 0 (List.replicate 64 (0 : UInt8))) ++ (List.take (min key.length 64) key)) ++ (List.drop (0 + (min key.length 64)) (List.replicate 64 (0 : UInt8)))) ([] : List UInt8) ([] : List UInt8)

def rDerive_l2 {X : Type} (F : Nat) (fail : X) (next : List UInt8 → Int → Int → Int → List UInt8 → List UInt8 → List UInt8 → X) (ex0 : List UInt8 → Int → Int → Int → List UInt8 → List UInt8 → List UInt8 → X) (password : List UInt8) (rounds : Int) (i : Int) (k : Int) (s6 : List UInt8) (u : List UInt8) (out : List UInt8) : X :=
  bif (decide (k < (32 : Int))) then
    bif ((decide ((0 : Int) ≤ k)) && (decide (k < ((32 : Nat) : Int)))) then
    bif ((decide ((0 : Int) ≤ k)) && (decide (k < ((32 : Nat) : Int)))) then
    bif ((decide ((0 : Int) ≤ k)) && (decide (k < ((32 : Nat) : Int)))) then
    next password rounds i (addI k (1 : Int)) s6 u (List.set out (k).toNat (xorB (List.getD out (k).toNat (0 : UInt8)) (List.getD u (k).toNat (0 : UInt8))))
    else fail
    else fail
    else fail
  else
  ex0 password rounds i k s6 u out
def rDerive_l2F {X : Type} (F : Nat) (fail : X) (ex0 : List UInt8 → Int → Int → Int → List UInt8 → List UInt8 → List UInt8 → X) : Nat → List UInt8 → Int → Int → Int → List UInt8 → List UInt8 → List UInt8 → X
  | 0, _, _, _, _, _, _, _ => fail
  | m + 1, password, rounds, i, k, s6, u, out => rDerive_l2 F fail (rDerive_l2F F fail ex0 m) ex0 password rounds i k s6 u out

def rDerive_l1 {X : Type} (F : Nat) (fail : X) (next : List UInt8 → Int → Int → List UInt8 → List UInt8 → List UInt8 → X) (ex0 : List UInt8 → Int → Int → List UInt8 → List UInt8 → List UInt8 → X) (password : List UInt8) (rounds : Int) (i : Int) (s6 : List UInt8) (u : List UInt8) (out : List UInt8) : X :=
  bif (decide (i < rounds)) then
    bif (rMac_P password (List.take 32 u)) then
    rDerive_l2F F fail
      (fun (password1 : List UInt8) (rounds1 : Int) (i1 : Int) (k : Int) (s61 : List UInt8) (u1 : List UInt8) (out1 : List UInt8) =>
        next password1 rounds1 (addI i1 (1 : Int)) s61 u1 out1)
      F password rounds i (0 : Int) s6 (rMac_r password (List.take 32 u)) out
    else fail
  else
  ex0 password rounds i s6 u out
def rDerive_l1F {X : Type} (F : Nat) (fail : X) (ex0 : List UInt8 → Int → Int → List UInt8 → List UInt8 → List UInt8 → X) : Nat → List UInt8 → Int → Int → List UInt8 → List UInt8 → List UInt8 → X
  | 0, _, _, _, _, _, _ => fail
  | m + 1, password, rounds, i, s6, u, out => rDerive_l1 F fail (rDerive_l1F F fail ex0 m) ex0 password rounds i s6 u out

def rDerive {X : Type} (F : Nat) (password : List UInt8) (salt : List UInt8) (rounds : Int) (fail : X) (ret : List UInt8 → Int → X) : X :=
  bif (decide (((password.length : Nat) : Int) > (65536 : Int))) then
    ret (List.replicate 32 (0 : UInt8)) (5 : Int)
  else
  bif (decide (((salt.length : Nat) : Int) > (65536 : Int))) then
    ret (List.replicate 32 (0 : UInt8)) (5 : Int)
  else
  bif (decide (rounds < (1 : Int))) then
    ret (List.replicate 32 (0 : UInt8)) (2 : Int)
  else
  bif (decide (rounds > (1024 : Int))) then
    ret (List.replicate 32 (0 : UInt8)) (2 : Int)
  else
  bif (decide (salt.length ≤ big)) then
  bif (decide ((salt ++ ([(0 : UInt8), (0 : UInt8), (0 : UInt8), (1 : UInt8)] : List UInt8)).length ≤ big)) then
  bif (rMac_P password (salt ++ ([(0 : UInt8), (0 : UInt8), (0 : UInt8), (1 : UInt8)] : List UInt8))) then
  rDerive_l1F F fail
    (fun (password1 : List UInt8) (rounds1 : Int) (i : Int) (s6 : List UInt8) (u : List UInt8) (out : List UInt8) =>
      ret out (0 : Int))
    F password rounds (1 : Int) (List.replicate 32 (0 : UInt8)) (rMac_r password (salt ++ ([(0 : UInt8), (0 : UInt8), (0 : UInt8), (1 : UInt8)] : List UInt8))) (rMac_r password (salt ++ ([(0 : UInt8), (0 : UInt8), (0 : UInt8), (1 : UInt8)] : List UInt8)))
  else fail
  else fail
  else fail

def digit {X : Type} (F : Nat) (n : UInt8) (fail : X) (ret : UInt8 → X) : X :=
  bif (decide ((((n).toNat : Nat) : Int) < (10 : Int))) then
    ret (addB (48 : UInt8) n)
  else
  ret (subB (addB (97 : UInt8) n) (10 : UInt8))

def rHex_l1 {X : Type} (F : Nat) (fail : X) (next : Int → List UInt8 → List UInt8 → X) (ex0 : Int → List UInt8 → List UInt8 → X) (i : Int) (d_ : List UInt8) (out : List UInt8) : X :=
  bif (decide (i < (32 : Int))) then
    bif ((decide ((0 : Int) ≤ i)) && (decide (i < ((32 : Nat) : Int)))) then
    bif ((decide ((0 : Int) ≤ i)) && (decide (i < ((32 : Nat) : Int)))) then
    bif (decide ((out ++ ([(digit_r (shrB (List.getD d_ (i).toNat (0 : UInt8)) (4 : Int))), (digit_r (andB (List.getD d_ (i).toNat (0 : UInt8)) (15 : UInt8)))] : List UInt8)).length ≤ big)) then
    next (addI i (1 : Int)) d_ (out ++ ([(digit_r (shrB (List.getD d_ (i).toNat (0 : UInt8)) (4 : Int))), (digit_r (andB (List.getD d_ (i).toNat (0 : UInt8)) (15 : UInt8)))] : List UInt8))
    else fail
    else fail
    else fail
  else
  ex0 i d_ out
def rHex_l1F {X : Type} (F : Nat) (fail : X) (ex0 : Int → List UInt8 → List UInt8 → X) : Nat → Int → List UInt8 → List UInt8 → X
  | 0, _, _, _ => fail
  | m + 1, i, d_, out => rHex_l1 F fail (rHex_l1F F fail ex0 m) ex0 i d_ out

def rHex {X : Type} (F : Nat) (d_ : List UInt8) (fail : X) (ret : List UInt8 → X) : X :=
  rHex_l1F F fail
    (fun (i : Int) (d_1 : List UInt8) (out : List UInt8) =>
      ret out)
    F (0 : Int) d_ ([] : List UInt8)

def rParse_l2 {X : Type} (F : Nat) (fail : X) (next : List UInt8 → Int → Int → Int → Int → List UInt8 → List UInt8 → X) (ex0 : List UInt8 → Int → Int → Int → Int → List UInt8 → List UInt8 → X) (s : List UInt8) (s3 : Int) (i : Int) (n : Int) (k : Int) (s2 : List UInt8) (out : List UInt8) : X :=
  bif (decide (k < (16 : Int))) then
    bif ((decide ((0 : Int) ≤ i)) && (decide (i < ((s.length : Nat) : Int)))) then
    bif (((((digit_r (cvIB k))).toNat : Nat) : Int) == ((((List.getD s (i).toNat (0 : UInt8))).toNat : Nat) : Int)) then
      next s s3 i k (addI k (1 : Int)) s2 out
    else
    next s s3 i n (addI k (1 : Int)) s2 out
    else fail
  else
  ex0 s s3 i n k s2 out
def rParse_l2F {X : Type} (F : Nat) (fail : X) (ex0 : List UInt8 → Int → Int → Int → Int → List UInt8 → List UInt8 → X) : Nat → List UInt8 → Int → Int → Int → Int → List UInt8 → List UInt8 → X
  | 0, _, _, _, _, _, _, _ => fail
  | m + 1, s, s3, i, n, k, s2, out => rParse_l2 F fail (rParse_l2F F fail ex0 m) ex0 s s3 i n k s2 out

def rParse_l1 {X : Type} (F : Nat) (fail : X) (next : List UInt8 → Int → Int → List UInt8 → List UInt8 → X) (ex0 : List UInt8 → Int → Int → List UInt8 → List UInt8 → X) (ex1 : List UInt8 → Int → Int → List UInt8 → List UInt8 → X) (s : List UInt8) (s3 : Int) (i : Int) (s2 : List UInt8) (out : List UInt8) : X :=
  bif (decide (i < (64 : Int))) then
    rParse_l2F F fail
      (fun (s1 : List UInt8) (s31 : Int) (i1 : Int) (n : Int) (k : Int) (s21 : List UInt8) (out1 : List UInt8) =>
        bif (decide (n < (0 : Int))) then
          ex0 s1 (4 : Int) i1 (List.replicate 32 (0 : UInt8)) out1
        else
        bif ((decide ((0 : Int) ≤ (quoI i1 (2 : Int)))) && (decide ((quoI i1 (2 : Int)) < ((32 : Nat) : Int)))) then
        bif ((decide ((0 : Int) ≤ (quoI i1 (2 : Int)))) && (decide ((quoI i1 (2 : Int)) < ((32 : Nat) : Int)))) then
        next s1 s31 (addI i1 (1 : Int)) s21 (List.set out1 ((quoI i1 (2 : Int))).toNat (orB (shlB (List.getD out1 ((quoI i1 (2 : Int))).toNat (0 : UInt8)) (4 : Int)) (cvIB n)))
        else fail
        else fail)
      F s s3 i (-1 : Int) (0 : Int) s2 out
  else
  ex1 s s3 i s2 out
def rParse_l1F {X : Type} (F : Nat) (fail : X) (ex0 : List UInt8 → Int → Int → List UInt8 → List UInt8 → X) (ex1 : List UInt8 → Int → Int → List UInt8 → List UInt8 → X) : Nat → List UInt8 → Int → Int → List UInt8 → List UInt8 → X
  | 0, _, _, _, _, _ => fail
  | m + 1, s, s3, i, s2, out => rParse_l1 F fail (rParse_l1F F fail ex0 ex1 m) ex0 ex1 s s3 i s2 out

def rParse {X : Type} (F : Nat) (s : List UInt8) (fail : X) (ret : List UInt8 → Int → X) : X :=
  bif (((s.length : Nat) : Int) != (64 : Int)) then
    ret (List.replicate 32 (0 : UInt8)) (4 : Int)
  else
  rParse_l1F F fail
    (fun (s1 : List UInt8) (s3 : Int) (i : Int) (s2 : List UInt8) (out : List UInt8) =>
      ret s2 s3)
    (fun (s4 : List UInt8) (s31 : Int) (i1 : Int) (s21 : List UInt8) (out1 : List UInt8) =>
      ret out1 (0 : Int))
    F s (0 : Int) (0 : Int) (List.replicate 32 (0 : UInt8)) (List.replicate 32 (0 : UInt8))

def rSame {X : Type} (F : Nat) (a : ((List UInt32) × ((List UInt8) × (Int × Unit)))) (b : ((List UInt32) × ((List UInt8) × (Int × Unit)))) (fail : X) (ret : Bool → X) : X :=
  bif (beqT (.arr 8 (.int .u32)) a.1 b.1) then
    bif (a.2.2.1 == b.2.2.1) then
      ret (a.2.1 == b.2.1)
    else
    ret false
  else
  ret false

end Go.AI
