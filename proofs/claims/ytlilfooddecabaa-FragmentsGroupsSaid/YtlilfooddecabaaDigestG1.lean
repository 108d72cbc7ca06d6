/- Plain functions, printed by running the machine on symbols. -/
import Derived.Test.YtlilfooddecabaaDigestS
namespace Go.AI
open Go
set_option linter.unusedVariables false

def rotr {X : Type} (F : Nat) (x_ : UInt32) (n : Int) (fail : X) (ret : UInt32 → X) : X :=
  bif (decide ((0 : Int) ≤ n)) then
  bif (decide ((0 : Int) ≤ (subI (32 : Int) n))) then
  ret (orW (shrW x_ n) (shlW x_ (subI (32 : Int) n)))
  else fail
  else fail

def shr {X : Type} (F : Nat) (x_ : UInt32) (n : Int) (fail : X) (ret : UInt32 → X) : X :=
  bif (decide ((0 : Int) ≤ n)) then
  ret (shrW x_ n)
  else fail

def three_0 {X : Type} (F : Nat) (x_ : UInt32) (a : Int) (b : Int) (c : Int) (fail : X) (ret : UInt32 → X) : X :=
  bif (rotr_P x_ a) then
  bif (rotr_P x_ b) then
  bif (rotr_P x_ c) then
  ret (xorW (xorW (rotr_r x_ a) (rotr_r x_ b)) (rotr_r x_ c))
  else fail
  else fail
  else fail
def three_1 {X : Type} (F : Nat) (x_ : UInt32) (a : Int) (b : Int) (c : Int) (fail : X) (ret : UInt32 → X) : X :=
  bif (rotr_P x_ a) then
  bif (rotr_P x_ b) then
  bif (shr_P x_ c) then
  ret (xorW (xorW (rotr_r x_ a) (rotr_r x_ b)) (shr_r x_ c))
  else fail
  else fail
  else fail

def consts {X : Type} (F : Nat)  (fail : X) (ret : List UInt32 → X) : X :=
  ret (List.set (List.set (List.set (List.set (List.set (List.set (List.set (List.set (List.set (List.set (List.set (List.set (List.set (List.set (List.set (List.set (List.set (List.set (List.set (List.set (List.set (List.set (List.set (List.set (List.set (List.set (List.set (List.set (List.set (List.set (List.set (List.set (List.set (List.set (List.set (List.set (List.set (List.set (List.set (List.set (List.set (List.set (List.set (List.set (List.set (List.set (List.set (List.set (List.set (List.set (List.set (List.set (List.set (List.set (List.set (List.set (List.set (List.set (List.set (List.set (List.set (List.set (List.set (List.set (List.replicate 64 (0 : UInt32)) 0 (1116352408 : UInt32)) 1 (1899447441 : UInt32)) 2 (3049323471 : UInt32)) 3 (3921009573 : UInt32)) 4 (961987163 : UInt32)) 5 (1508970993 : UInt32)) 6 (2453635748 : UInt32)) 7 (2870763221 : UInt32)) 8 (3624381080 : UInt32)) 9 (310598401 : UInt32)) 10 (607225278 : UInt32)) 11 (1426881987 : UInt32)) 12 (1925078388 : UInt32)) 13 (2162078206 : UInt32)) 14 (2614888103 : UInt32)) 15 (3248222580 : UInt32)) 16 (3835390401 : UInt32)) 17 (4022224774 : UInt32)) 18 (264347078 : UInt32)) 19 (604807628 : UInt32)) 20 (770255983 : UInt32)) 21 (1249150122 : UInt32)) 22 (1555081692 : UInt32)) 23 (1996064986 : UInt32)) 24 (2554220882 : UInt32)) 25 (2821834349 : UInt32)) 26 (2952996808 : UInt32)) 27 (3210313671 : UInt32)) 28 (3336571891 : UInt32)) 29 (3584528711 : UInt32)) 30 (113926993 : UInt32)) 31 (338241895 : UInt32)) 32 (666307205 : UInt32)) 33 (773529912 : UInt32)) 34 (1294757372 : UInt32)) 35 (1396182291 : UInt32)) 36 (1695183700 : UInt32)) 37 (1986661051 : UInt32)) 38 (2177026350 : UInt32)) 39 (2456956037 : UInt32)) 40 (2730485921 : UInt32)) 41 (2820302411 : UInt32)) 42 (3259730800 : UInt32)) 43 (3345764771 : UInt32)) 44 (3516065817 : UInt32)) 45 (3600352804 : UInt32)) 46 (4094571909 : UInt32)) 47 (275423344 : UInt32)) 48 (430227734 : UInt32)) 49 (506948616 : UInt32)) 50 (659060556 : UInt32)) 51 (883997877 : UInt32)) 52 (958139571 : UInt32)) 53 (1322822218 : UInt32)) 54 (1537002063 : UInt32)) 55 (1747873779 : UInt32)) 56 (1955562222 : UInt32)) 57 (2024104815 : UInt32)) 58 (2227730452 : UInt32)) 59 (2361852424 : UInt32)) 60 (2428436474 : UInt32)) 61 (2756734187 : UInt32)) 62 (3204031479 : UInt32)) 63 (3329325298 : UInt32))

def absorb_l2 {X : Type} (F : Nat) (fail : X) (next : Int → UInt32 → List UInt32 → Int → List UInt8 → Int → Int → List UInt32 → List UInt8 → List UInt32 → List UInt32 → List UInt32 → X) (ex0 : Int → UInt32 → List UInt32 → Int → List UInt8 → Int → Int → List UInt32 → List UInt8 → List UInt32 → List UInt32 → List UInt32 → X) (i : Int) (k : UInt32) (s10 : List UInt32) (s11 : Int) (s23 : List UInt8) (s24 : Int) (s25 : Int) (x_ : List UInt32) (s1 : List UInt8) (w : List UInt32) (s : List UInt32) (s4 : List UInt32) : X :=
  bif (decide (s25 < s24)) then
    bif ((decide ((0 : Int) ≤ s25)) && (decide (s25 < ((s23.length : Nat) : Int)))) then
    bif ((decide ((0 : Int) ≤ i)) && (decide (i < ((16 : Nat) : Int)))) then
    bif ((decide ((0 : Int) ≤ i)) && (decide (i < ((16 : Nat) : Int)))) then
    next i k s10 s11 s23 s24 (addI s25 (1 : Int)) x_ s1 (List.set w (i).toNat (orW (shlW (List.getD w (i).toNat (0 : UInt32)) (8 : Int)) (cvBW (List.getD s23 (s25).toNat (0 : UInt8))))) s s4
    else fail
    else fail
    else fail
  else
  ex0 i k s10 s11 s23 s24 s25 x_ s1 w s s4
def absorb_l2F {X : Type} (F : Nat) (fail : X) (ex0 : Int → UInt32 → List UInt32 → Int → List UInt8 → Int → Int → List UInt32 → List UInt8 → List UInt32 → List UInt32 → List UInt32 → X) : Nat → Int → UInt32 → List UInt32 → Int → List UInt8 → Int → Int → List UInt32 → List UInt8 → List UInt32 → List UInt32 → List UInt32 → X
  | 0, _, _, _, _, _, _, _, _, _, _, _, _ => fail
  | m + 1, i, k, s10, s11, s23, s24, s25, x_, s1, w, s, s4 => absorb_l2 F fail (absorb_l2F F fail ex0 m) ex0 i k s10 s11 s23 s24 s25 x_ s1 w s s4

def absorb_l1 {X : Type} (F : Nat) (fail : X) (next : List UInt32 → Int → List UInt32 → List UInt8 → List UInt32 → List UInt32 → List UInt32 → X) (ex0 : List UInt32 → Int → List UInt32 → List UInt8 → List UInt32 → List UInt32 → List UInt32 → X) (s10 : List UInt32) (s11 : Int) (x_ : List UInt32) (s1 : List UInt8) (w : List UInt32) (s : List UInt32) (s4 : List UInt32) : X :=
  bif (decide (s11 < (64 : Int))) then
    bif ((decide ((0 : Int) ≤ s11)) && (decide (s11 < ((64 : Nat) : Int)))) then
    bif (decide (s11 < (16 : Int))) then
      bif (((decide ((0 : Int) ≤ (mulI (4 : Int) s11))) && (decide ((mulI (4 : Int) s11) ≤ (addI (mulI (4 : Int) s11) (4 : Int))))) && (decide ((addI (mulI (4 : Int) s11) (4 : Int)) ≤ ((s1.length : Nat) : Int)))) then
      absorb_l2F F fail
        (fun (i : Int) (k : UInt32) (s101 : List UInt32) (s111 : Int) (s23 : List UInt8) (s24 : Int) (s25 : Int) (x_1 : List UInt32) (s12 : List UInt8) (w1 : List UInt32) (s2 : List UInt32) (s41 : List UInt32) =>
          bif ((decide ((0 : Int) ≤ (remI i (16 : Int)))) && (decide ((remI i (16 : Int)) < ((16 : Nat) : Int)))) then
          bif (three_P (List.getD x_1 4 (0 : UInt32)) (6 : Int) (11 : Int) (25 : Int) (57 : Nat)) then
          bif (three_P (List.getD x_1 0 (0 : UInt32)) (2 : Int) (13 : Int) (22 : Int) (57 : Nat)) then
          next s101 (addI s111 (1 : Int)) ([(addW (addW (addW (addW (List.getD x_1 7 (0 : UInt32)) (three_r (List.getD x_1 4 (0 : UInt32)) (6 : Int) (11 : Int) (25 : Int) (57 : Nat))) (xorW (List.getD x_1 6 (0 : UInt32)) (andW (List.getD x_1 4 (0 : UInt32)) (xorW (List.getD x_1 5 (0 : UInt32)) (List.getD x_1 6 (0 : UInt32)))))) (addW k (List.getD w1 ((remI i (16 : Int))).toNat (0 : UInt32)))) (addW (three_r (List.getD x_1 0 (0 : UInt32)) (2 : Int) (13 : Int) (22 : Int) (57 : Nat)) (orW (andW (List.getD x_1 0 (0 : UInt32)) (List.getD x_1 1 (0 : UInt32))) (andW (List.getD x_1 2 (0 : UInt32)) (orW (List.getD x_1 0 (0 : UInt32)) (List.getD x_1 1 (0 : UInt32))))))), (List.getD x_1 0 (0 : UInt32)), (List.getD x_1 1 (0 : UInt32)), (List.getD x_1 2 (0 : UInt32)), (addW (List.getD x_1 3 (0 : UInt32)) (addW (addW (addW (List.getD x_1 7 (0 : UInt32)) (three_r (List.getD x_1 4 (0 : UInt32)) (6 : Int) (11 : Int) (25 : Int) (57 : Nat))) (xorW (List.getD x_1 6 (0 : UInt32)) (andW (List.getD x_1 4 (0 : UInt32)) (xorW (List.getD x_1 5 (0 : UInt32)) (List.getD x_1 6 (0 : UInt32)))))) (addW k (List.getD w1 ((remI i (16 : Int))).toNat (0 : UInt32))))), (List.getD x_1 4 (0 : UInt32)), (List.getD x_1 5 (0 : UInt32)), (List.getD x_1 6 (0 : UInt32))] : List UInt32) s12 w1 s2 s41
          else fail
          else fail
          else fail)
        F s11 (List.getD s10 (s11).toNat (0 : UInt32)) s10 s11 (List.drop ((mulI (4 : Int) s11)).toNat (List.take ((addI (mulI (4 : Int) s11) (4 : Int))).toNat s1)) (((List.drop ((mulI (4 : Int) s11)).toNat (List.take ((addI (mulI (4 : Int) s11) (4 : Int))).toNat s1)).length : Nat) : Int) (0 : Int) x_ s1 w s s4
      else fail
    else
    bif ((decide ((0 : Int) ≤ (remI (subI s11 (15 : Int)) (16 : Int)))) && (decide ((remI (subI s11 (15 : Int)) (16 : Int)) < ((16 : Nat) : Int)))) then
    bif (three_P (List.getD w ((remI (subI s11 (15 : Int)) (16 : Int))).toNat (0 : UInt32)) (7 : Int) (18 : Int) (3 : Int) (63 : Nat)) then
    bif ((decide ((0 : Int) ≤ (remI (subI s11 (2 : Int)) (16 : Int)))) && (decide ((remI (subI s11 (2 : Int)) (16 : Int)) < ((16 : Nat) : Int)))) then
    bif (three_P (List.getD w ((remI (subI s11 (2 : Int)) (16 : Int))).toNat (0 : UInt32)) (17 : Int) (19 : Int) (10 : Int) (63 : Nat)) then
    bif ((decide ((0 : Int) ≤ (remI s11 (16 : Int)))) && (decide ((remI s11 (16 : Int)) < ((16 : Nat) : Int)))) then
    bif ((decide ((0 : Int) ≤ (remI (subI s11 (7 : Int)) (16 : Int)))) && (decide ((remI (subI s11 (7 : Int)) (16 : Int)) < ((16 : Nat) : Int)))) then
    bif ((decide ((0 : Int) ≤ (remI s11 (16 : Int)))) && (decide ((remI s11 (16 : Int)) < ((16 : Nat) : Int)))) then
    bif ((decide ((0 : Int) ≤ (remI s11 (16 : Int)))) && (decide ((remI s11 (16 : Int)) < ((16 : Nat) : Int)))) then
    bif (three_P (List.getD x_ 4 (0 : UInt32)) (6 : Int) (11 : Int) (25 : Int) (57 : Nat)) then
    bif (three_P (List.getD x_ 0 (0 : UInt32)) (2 : Int) (13 : Int) (22 : Int) (57 : Nat)) then
    next s10 (addI s11 (1 : Int)) ([(addW (addW (addW (addW (List.getD x_ 7 (0 : UInt32)) (three_r (List.getD x_ 4 (0 : UInt32)) (6 : Int) (11 : Int) (25 : Int) (57 : Nat))) (xorW (List.getD x_ 6 (0 : UInt32)) (andW (List.getD x_ 4 (0 : UInt32)) (xorW (List.getD x_ 5 (0 : UInt32)) (List.getD x_ 6 (0 : UInt32)))))) (addW (List.getD s10 (s11).toNat (0 : UInt32)) (List.getD (List.set w ((remI s11 (16 : Int))).toNat (addW (List.getD w ((remI s11 (16 : Int))).toNat (0 : UInt32)) (addW (addW (three_r (List.getD w ((remI (subI s11 (15 : Int)) (16 : Int))).toNat (0 : UInt32)) (7 : Int) (18 : Int) (3 : Int) (63 : Nat)) (List.getD w ((remI (subI s11 (7 : Int)) (16 : Int))).toNat (0 : UInt32))) (three_r (List.getD w ((remI (subI s11 (2 : Int)) (16 : Int))).toNat (0 : UInt32)) (17 : Int) (19 : Int) (10 : Int) (63 : Nat))))) ((remI s11 (16 : Int))).toNat (0 : UInt32)))) (addW (three_r (List.getD x_ 0 (0 : UInt32)) (2 : Int) (13 : Int) (22 : Int) (57 : Nat)) (orW (andW (List.getD x_ 0 (0 : UInt32)) (List.getD x_ 1 (0 : UInt32))) (andW (List.getD x_ 2 (0 : UInt32)) (orW (List.getD x_ 0 (0 : UInt32)) (List.getD x_ 1 (0 : UInt32))))))), (List.getD x_ 0 (0 : UInt32)), (List.getD x_ 1 (0 : UInt32)), (List.getD x_ 2 (0 : UInt32)), (addW (List.getD x_ 3 (0 : UInt32)) (addW (addW (addW (List.getD x_ 7 (0 : UInt32)) (three_r (List.getD x_ 4 (0 : UInt32)) (6 : Int) (11 : Int) (25 : Int) (57 : Nat))) (xorW (List.getD x_ 6 (0 : UInt32)) (andW (List.getD x_ 4 (0 : UInt32)) (xorW (List.getD x_ 5 (0 : UInt32)) (List.getD x_ 6 (0 : UInt32)))))) (addW (List.getD s10 (s11).toNat (0 : UInt32)) (List.getD (List.set w ((remI s11 (16 : Int))).toNat (addW (List.getD w ((remI s11 (16 : Int))).toNat (0 : UInt32)) (addW (addW (three_r (List.getD w ((remI (subI s11 (15 : Int)) (16 : Int))).toNat (0 : UInt32)) (7 : Int) (18 : Int) (3 : Int) (63 : Nat)) (List.getD w ((remI (subI s11 (7 : Int)) (16 : Int))).toNat (0 : UInt32))) (three_r (List.getD w ((remI (subI s11 (2 : Int)) (16 : Int))).toNat (0 : UInt32)) (17 : Int) (19 : Int) (10 : Int) (63 : Nat))))) ((remI s11 (16 : Int))).toNat (0 : UInt32))))), (List.getD x_ 4 (0 : UInt32)), (List.getD x_ 5 (0 : UInt32)), (List.getD x_ 6 (0 : UInt32))] : List UInt32) s1 (List.set w ((remI s11 (16 : Int))).toNat (addW (List.getD w ((remI s11 (16 : Int))).toNat (0 : UInt32)) (addW (addW (three_r (List.getD w ((remI (subI s11 (15 : Int)) (16 : Int))).toNat (0 : UInt32)) (7 : Int) (18 : Int) (3 : Int) (63 : Nat)) (List.getD w ((remI (subI s11 (7 : Int)) (16 : Int))).toNat (0 : UInt32))) (three_r (List.getD w ((remI (subI s11 (2 : Int)) (16 : Int))).toNat (0 : UInt32)) (17 : Int) (19 : Int) (10 : Int) (63 : Nat))))) s s4
    else fail
    else fail
    else fail
    else fail
    else fail
    else fail
    else fail
    else fail
    else fail
    else fail
    else fail
  else
  ex0 s10 s11 x_ s1 w s s4
def absorb_l1F {X : Type} (F : Nat) (fail : X) (ex0 : List UInt32 → Int → List UInt32 → List UInt8 → List UInt32 → List UInt32 → List UInt32 → X) : Nat → List UInt32 → Int → List UInt32 → List UInt8 → List UInt32 → List UInt32 → List UInt32 → X
  | 0, _, _, _, _, _, _, _ => fail
  | m + 1, s10, s11, x_, s1, w, s, s4 => absorb_l1 F fail (absorb_l1F F fail ex0 m) ex0 s10 s11 x_ s1 w s s4

def absorb_l3 {X : Type} (F : Nat) (fail : X) (next : Int → List UInt32 → List UInt32 → List UInt32 → X) (ex0 : Int → List UInt32 → List UInt32 → List UInt32 → X) (s71 : Int) (s : List UInt32) (s4 : List UInt32) (x_ : List UInt32) : X :=
  bif (decide (s71 < (8 : Int))) then
    bif ((decide ((0 : Int) ≤ s71)) && (decide (s71 < ((8 : Nat) : Int)))) then
    bif ((decide ((0 : Int) ≤ s71)) && (decide (s71 < ((8 : Nat) : Int)))) then
    bif ((decide ((0 : Int) ≤ s71)) && (decide (s71 < ((8 : Nat) : Int)))) then
    next (addI s71 (1 : Int)) s s4 (List.set x_ (s71).toNat (addW (List.getD x_ (s71).toNat (0 : UInt32)) (List.getD s (s71).toNat (0 : UInt32))))
    else fail
    else fail
    else fail
  else
  ex0 s71 s s4 x_
def absorb_l3F {X : Type} (F : Nat) (fail : X) (ex0 : Int → List UInt32 → List UInt32 → List UInt32 → X) : Nat → Int → List UInt32 → List UInt32 → List UInt32 → X
  | 0, _, _, _, _ => fail
  | m + 1, s71, s, s4, x_ => absorb_l3 F fail (absorb_l3F F fail ex0 m) ex0 s71 s s4 x_

def absorb {X : Type} (F : Nat) (s : List UInt32) (block : List UInt8) (fail : X) (ret : List UInt32 → X) : X :=
  bif (consts_P) then
  absorb_l1F F fail
    (fun (s10 : List UInt32) (s11 : Int) (x_ : List UInt32) (s1 : List UInt8) (w : List UInt32) (s2 : List UInt32) (s4 : List UInt32) =>
      absorb_l3F F fail
        (fun (s71 : Int) (s3 : List UInt32) (s41 : List UInt32) (x_1 : List UInt32) =>
          ret x_1)
        F (0 : Int) s2 s4 x_)
    F (consts_r) (0 : Int) s block ([(0 : UInt32), (0 : UInt32), (0 : UInt32), (0 : UInt32), (0 : UInt32), (0 : UInt32), (0 : UInt32), (0 : UInt32), (0 : UInt32), (0 : UInt32), (0 : UInt32), (0 : UInt32), (0 : UInt32), (0 : UInt32), (0 : UInt32), (0 : UInt32)] : List UInt32) s ([(0 : UInt32), (0 : UInt32), (0 : UInt32), (0 : UInt32), (0 : UInt32), (0 : UInt32), (0 : UInt32), (0 : UInt32)] : List UInt32)
  else fail

def hNew {X : Type} (F : Nat)  (fail : X) (ret : ((List UInt32) × ((List UInt8) × (Int × Unit))) → X) : X :=
  ret (([(1779033703 : UInt32), (3144134277 : UInt32), (1013904242 : UInt32), (2773480762 : UInt32), (1359893119 : UInt32), (2600822924 : UInt32), (528734635 : UInt32), (1541459225 : UInt32)] : List UInt32), (([] : List UInt8), ((0 : Int), ())))

def hwrite_l1 {X : Type} (F : Nat) (fail : X) (next : List UInt8 → List UInt32 → Int → ((List UInt32) × ((List UInt8) × (Int × Unit))) → ((List UInt32) × ((List UInt8) × (Int × Unit))) → List UInt32 → X) (ex0 : List UInt8 → List UInt32 → Int → ((List UInt32) × ((List UInt8) × (Int × Unit))) → ((List UInt32) × ((List UInt8) × (Int × Unit))) → List UInt32 → X) (b : List UInt8) (s13 : List UInt32) (s14 : Int) (h : ((List UInt32) × ((List UInt8) × (Int × Unit)))) (s4 : ((List UInt32) × ((List UInt8) × (Int × Unit)))) (s : List UInt32) : X :=
  bif (decide (s14 < (8 : Int))) then
    bif ((decide ((0 : Int) ≤ s14)) && (decide (s14 < ((8 : Nat) : Int)))) then
    bif ((decide ((0 : Int) ≤ s14)) && (decide (s14 < ((8 : Nat) : Int)))) then
    next b s13 (addI s14 (1 : Int)) h s4 (List.set s (s14).toNat (List.getD s13 (s14).toNat (0 : UInt32)))
    else fail
    else fail
  else
  ex0 b s13 s14 h s4 s
def hwrite_l1F {X : Type} (F : Nat) (fail : X) (ex0 : List UInt8 → List UInt32 → Int → ((List UInt32) × ((List UInt8) × (Int × Unit))) → ((List UInt32) × ((List UInt8) × (Int × Unit))) → List UInt32 → X) : Nat → List UInt8 → List UInt32 → Int → ((List UInt32) × ((List UInt8) × (Int × Unit))) → ((List UInt32) × ((List UInt8) × (Int × Unit))) → List UInt32 → X
  | 0, _, _, _, _, _, _ => fail
  | m + 1, b, s13, s14, h, s4, s => hwrite_l1 F fail (hwrite_l1F F fail ex0 m) ex0 b s13 s14 h s4 s

def hwrite_l2 {X : Type} (F : Nat) (fail : X) (next : List UInt8 → List UInt8 → ((List UInt32) × ((List UInt8) × (Int × Unit))) → ((List UInt32) × ((List UInt8) × (Int × Unit))) → List UInt32 → X) (ex0 : List UInt8 → List UInt8 → ((List UInt32) × ((List UInt8) × (Int × Unit))) → ((List UInt32) × ((List UInt8) × (Int × Unit))) → List UInt32 → X) (b : List UInt8) (all : List UInt8) (h : ((List UInt32) × ((List UInt8) × (Int × Unit)))) (s4 : ((List UInt32) × ((List UInt8) × (Int × Unit)))) (s : List UInt32) : X :=
  bif (decide (((all.length : Nat) : Int) ≥ (64 : Int))) then
    bif (absorb_P s all) then
    bif (decide ((64 : Int) ≤ ((all.length : Nat) : Int))) then
    next b (List.drop 64 all) h s4 (absorb_r s all)
    else fail
    else fail
  else
  ex0 b all h s4 s
def hwrite_l2F {X : Type} (F : Nat) (fail : X) (ex0 : List UInt8 → List UInt8 → ((List UInt32) × ((List UInt8) × (Int × Unit))) → ((List UInt32) × ((List UInt8) × (Int × Unit))) → List UInt32 → X) : Nat → List UInt8 → List UInt8 → ((List UInt32) × ((List UInt8) × (Int × Unit))) → ((List UInt32) × ((List UInt8) × (Int × Unit))) → List UInt32 → X
  | 0, _, _, _, _, _ => fail
  | m + 1, b, all, h, s4, s => hwrite_l2 F fail (hwrite_l2F F fail ex0 m) ex0 b all h s4 s

def hwrite_l3 {X : Type} (F : Nat) (fail : X) (next : List UInt32 → Int → ((List UInt32) × ((List UInt8) × (Int × Unit))) → List UInt32 → (Int × Unit) → List UInt8 → X) (ex0 : List UInt32 → Int → ((List UInt32) × ((List UInt8) × (Int × Unit))) → List UInt32 → (Int × Unit) → List UInt8 → X) (s49 : List UInt32) (s50 : Int) (s4 : ((List UInt32) × ((List UInt8) × (Int × Unit)))) (out : List UInt32) (out1 : (Int × Unit)) (h2 : List UInt8) : X :=
  bif (decide (s50 < (8 : Int))) then
    bif ((decide ((0 : Int) ≤ s50)) && (decide (s50 < ((8 : Nat) : Int)))) then
    bif ((decide ((0 : Int) ≤ s50)) && (decide (s50 < ((8 : Nat) : Int)))) then
    next s49 (addI s50 (1 : Int)) s4 (List.set out (s50).toNat (List.getD s49 (s50).toNat (0 : UInt32))) out1 h2
    else fail
    else fail
  else
  ex0 s49 s50 s4 out out1 h2
def hwrite_l3F {X : Type} (F : Nat) (fail : X) (ex0 : List UInt32 → Int → ((List UInt32) × ((List UInt8) × (Int × Unit))) → List UInt32 → (Int × Unit) → List UInt8 → X) : Nat → List UInt32 → Int → ((List UInt32) × ((List UInt8) × (Int × Unit))) → List UInt32 → (Int × Unit) → List UInt8 → X
  | 0, _, _, _, _, _, _ => fail
  | m + 1, s49, s50, s4, out, out1, h2 => hwrite_l3 F fail (hwrite_l3F F fail ex0 m) ex0 s49 s50 s4 out out1 h2

def hwrite {X : Type} (F : Nat) (h : ((List UInt32) × ((List UInt8) × (Int × Unit)))) (b : List UInt8) (fail : X) (ret : ((List UInt32) × ((List UInt8) × (Int × Unit))) → X) : X :=
  hwrite_l1F F fail
    (fun (b1 : List UInt8) (s13 : List UInt32) (s14 : Int) (h1 : ((List UInt32) × ((List UInt8) × (Int × Unit)))) (s4 : ((List UInt32) × ((List UInt8) × (Int × Unit)))) (s : List UInt32) =>
      bif (((decide ((0 : Int) ≤ ((h1.2.1.length : Nat) : Int))) && (decide (((h1.2.1.length : Nat) : Int) ≤ ((h1.2.1.length : Nat) : Int)))) && (((h1.2.1.length : Nat) : Int) == ((h1.2.1.length : Nat) : Int))) then
      bif (decide (((List.take h1.2.1.length h1.2.1) ++ b1).length ≤ big)) then
      hwrite_l2F F fail
        (fun (b2 : List UInt8) (all : List UInt8) (h2 : ((List UInt32) × ((List UInt8) × (Int × Unit)))) (s41 : ((List UInt32) × ((List UInt8) × (Int × Unit)))) (s1 : List UInt32) =>
          bif (decide (all.length ≤ big)) then
          hwrite_l3F F fail
            (fun (s49 : List UInt32) (s50 : Int) (s42 : ((List UInt32) × ((List UInt8) × (Int × Unit)))) (out : List UInt32) (out1 : (Int × Unit)) (h21 : List UInt8) =>
              ret (out, (h21, out1)))
            F s1 (0 : Int) s41 ([(0 : UInt32), (0 : UInt32), (0 : UInt32), (0 : UInt32), (0 : UInt32), (0 : UInt32), (0 : UInt32), (0 : UInt32)] : List UInt32) ((addI h2.2.2.1 ((b2.length : Nat) : Int)), ()) all
          else fail)
        F b1 ((List.take h1.2.1.length h1.2.1) ++ b1) h1 s4 s
      else fail
      else fail)
    F b h.1 (0 : Int) h (([(0 : UInt32), (0 : UInt32), (0 : UInt32), (0 : UInt32), (0 : UInt32), (0 : UInt32), (0 : UInt32), (0 : UInt32)] : List UInt32), (([] : List UInt8), ((0 : Int), ()))) ([(0 : UInt32), (0 : UInt32), (0 : UInt32), (0 : UInt32), (0 : UInt32), (0 : UInt32), (0 : UInt32), (0 : UInt32)] : List UInt32)

def hfinish_l1 {X : Type} (F : Nat) (fail : X) (next : Int → ((List UInt32) × ((List UInt8) × (Int × Unit))) → List UInt8 → List UInt8 → X) (ex0 : Int → ((List UInt32) × ((List UInt8) × (Int × Unit))) → List UInt8 → List UInt8 → X) (shift : Int) (h : ((List UInt32) × ((List UInt8) × (Int × Unit)))) (s2 : List UInt8) (pad : List UInt8) : X :=
  bif (decide (shift ≥ (0 : Int))) then
    bif (decide ((0 : Int) ≤ shift)) then
    bif (decide ((pad ++ ([(cvUB (shrU (mulU (cvIU h.2.2.1) (8 : Int)) shift))] : List UInt8)).length ≤ big)) then
    next (subI shift (8 : Int)) h s2 (pad ++ ([(cvUB (shrU (mulU (cvIU h.2.2.1) (8 : Int)) shift))] : List UInt8))
    else fail
    else fail
  else
  ex0 shift h s2 pad
def hfinish_l1F {X : Type} (F : Nat) (fail : X) (ex0 : Int → ((List UInt32) × ((List UInt8) × (Int × Unit))) → List UInt8 → List UInt8 → X) : Nat → Int → ((List UInt32) × ((List UInt8) × (Int × Unit))) → List UInt8 → List UInt8 → X
  | 0, _, _, _, _ => fail
  | m + 1, shift, h, s2, pad => hfinish_l1 F fail (hfinish_l1F F fail ex0 m) ex0 shift h s2 pad

def hfinish_l3 {X : Type} (F : Nat) (fail : X) (next : Int → UInt32 → List UInt32 → Int → Int → List UInt8 → List UInt8 → X) (ex0 : Int → UInt32 → List UInt32 → Int → Int → List UInt8 → List UInt8 → X) (i : Int) (x_ : UInt32) (s35 : List UInt32) (s36 : Int) (s40 : Int) (s2 : List UInt8) (out : List UInt8) : X :=
  bif (decide (s40 < (4 : Int))) then
    bif (decide ((0 : Int) ≤ (subI (24 : Int) (mulI (8 : Int) s40)))) then
    bif ((decide ((0 : Int) ≤ (addI (mulI (4 : Int) i) s40))) && (decide ((addI (mulI (4 : Int) i) s40) < ((32 : Nat) : Int)))) then
    next i x_ s35 s36 (addI s40 (1 : Int)) s2 (List.set out ((addI (mulI (4 : Int) i) s40)).toNat (cvWB (shrW x_ (subI (24 : Int) (mulI (8 : Int) s40)))))
    else fail
    else fail
  else
  ex0 i x_ s35 s36 s40 s2 out
def hfinish_l3F {X : Type} (F : Nat) (fail : X) (ex0 : Int → UInt32 → List UInt32 → Int → Int → List UInt8 → List UInt8 → X) : Nat → Int → UInt32 → List UInt32 → Int → Int → List UInt8 → List UInt8 → X
  | 0, _, _, _, _, _, _, _ => fail
  | m + 1, i, x_, s35, s36, s40, s2, out => hfinish_l3 F fail (hfinish_l3F F fail ex0 m) ex0 i x_ s35 s36 s40 s2 out

def hfinish_l2 {X : Type} (F : Nat) (fail : X) (next : List UInt32 → Int → List UInt8 → List UInt8 → X) (ex0 : List UInt32 → Int → List UInt8 → List UInt8 → X) (s35 : List UInt32) (s36 : Int) (s2 : List UInt8) (out : List UInt8) : X :=
  bif (decide (s36 < (8 : Int))) then
    bif ((decide ((0 : Int) ≤ s36)) && (decide (s36 < ((8 : Nat) : Int)))) then
    hfinish_l3F F fail
      (fun (i : Int) (x_ : UInt32) (s351 : List UInt32) (s361 : Int) (s40 : Int) (s21 : List UInt8) (out1 : List UInt8) =>
        next s351 (addI s361 (1 : Int)) s21 out1)
      F s36 (List.getD s35 (s36).toNat (0 : UInt32)) s35 s36 (0 : Int) s2 out
    else fail
  else
  ex0 s35 s36 s2 out
def hfinish_l2F {X : Type} (F : Nat) (fail : X) (ex0 : List UInt32 → Int → List UInt8 → List UInt8 → X) : Nat → List UInt32 → Int → List UInt8 → List UInt8 → X
  | 0, _, _, _, _ => fail
  | m + 1, s35, s36, s2, out => hfinish_l2 F fail (hfinish_l2F F fail ex0 m) ex0 s35 s36 s2 out

def hfinish {X : Type} (F : Nat) (h : ((List UInt32) × ((List UInt8) × (Int × Unit)))) (fail : X) (ret : List UInt8 → X) : X :=
  bif (((decide ((0 : Int) ≤ (addI (1 : Int) (remI (subI (119 : Int) ((h.2.1.length : Nat) : Int)) (64 : Int))))) && (decide ((addI (1 : Int) (remI (subI (119 : Int) ((h.2.1.length : Nat) : Int)) (64 : Int))) ≤ (72 : Int)))) && (decide ((72 : Int) ≤ ((big : Nat) : Int)))) then
  bif (decide ((0 : Int) < (((List.replicate ((addI (1 : Int) (remI (subI (119 : Int) ((h.2.1.length : Nat) : Int)) (64 : Int)))).toNat (0 : UInt8)).length : Nat) : Int))) then
  hfinish_l1F F fail
    (fun (shift : Int) (h1 : ((List UInt32) × ((List UInt8) × (Int × Unit)))) (s2 : List UInt8) (pad : List UInt8) =>
      bif (hwrite_P h1 pad) then
      hfinish_l2F F fail
        (fun (s35 : List UInt32) (s36 : Int) (s21 : List UInt8) (out : List UInt8) =>
          ret out)
        F (hwrite_r h1 pad).1 (0 : Int) s2 (List.replicate 32 (0 : UInt8))
      else fail)
    F (56 : Int) h (List.replicate 32 (0 : UInt8)) (List.set (List.replicate ((addI (1 : Int) (remI (subI (119 : Int) ((h.2.1.length : Nat) : Int)) (64 : Int)))).toNat (0 : UInt8)) 0 (128 : UInt8))
  else fail
  else fail

def dSum {X : Type} (F : Nat) (b : List UInt8) (fail : X) (ret : List UInt8 → X) : X :=
  bif (hNew_P) then
  bif (hwrite_P (hNew_r) b) then
  bif (hfinish_P (hwrite_r (hNew_r) b)) then
  ret (hfinish_r (hwrite_r (hNew_r) b))
  else fail
  else fail
  else fail

def rconsts {X : Type} (F : Nat)  (fail : X) (ret : List UInt32 → X) : X :=
  ret (List.set (List.set (List.set (List.set (List.set (List.set (List.set (List.set (List.set (List.set (List.set (List.set (List.set (List.set (List.set (List.set (List.set (List.set (List.set (List.set (List.set (List.set (List.set (List.set (List.set (List.set (List.set (List.set (List.set (List.set (List.set (List.set (List.set (List.set (List.set (List.set (List.set (List.set (List.set (List.set (List.set (List.set (List.set (List.set (List.set (List.set (List.set (List.set (List.set (List.set (List.set (List.set (List.set (List.set (List.set (List.set (List.set (List.set (List.set (List.set (List.set (List.set (List.set (List.set (List.replicate 64 (0 : UInt32)) 0 (1116352408 : UInt32)) 1 (1899447441 : UInt32)) 2 (3049323471 : UInt32)) 3 (3921009573 : UInt32)) 4 (961987163 : UInt32)) 5 (1508970993 : UInt32)) 6 (2453635748 : UInt32)) 7 (2870763221 : UInt32)) 8 (3624381080 : UInt32)) 9 (310598401 : UInt32)) 10 (607225278 : UInt32)) 11 (1426881987 : UInt32)) 12 (1925078388 : UInt32)) 13 (2162078206 : UInt32)) 14 (2614888103 : UInt32)) 15 (3248222580 : UInt32)) 16 (3835390401 : UInt32)) 17 (4022224774 : UInt32)) 18 (264347078 : UInt32)) 19 (604807628 : UInt32)) 20 (770255983 : UInt32)) 21 (1249150122 : UInt32)) 22 (1555081692 : UInt32)) 23 (1996064986 : UInt32)) 24 (2554220882 : UInt32)) 25 (2821834349 : UInt32)) 26 (2952996808 : UInt32)) 27 (3210313671 : UInt32)) 28 (3336571891 : UInt32)) 29 (3584528711 : UInt32)) 30 (113926993 : UInt32)) 31 (338241895 : UInt32)) 32 (666307205 : UInt32)) 33 (773529912 : UInt32)) 34 (1294757372 : UInt32)) 35 (1396182291 : UInt32)) 36 (1695183700 : UInt32)) 37 (1986661051 : UInt32)) 38 (2177026350 : UInt32)) 39 (2456956037 : UInt32)) 40 (2730485921 : UInt32)) 41 (2820302411 : UInt32)) 42 (3259730800 : UInt32)) 43 (3345764771 : UInt32)) 44 (3516065817 : UInt32)) 45 (3600352804 : UInt32)) 46 (4094571909 : UInt32)) 47 (275423344 : UInt32)) 48 (430227734 : UInt32)) 49 (506948616 : UInt32)) 50 (659060556 : UInt32)) 51 (883997877 : UInt32)) 52 (958139571 : UInt32)) 53 (1322822218 : UInt32)) 54 (1537002063 : UInt32)) 55 (1747873779 : UInt32)) 56 (1955562222 : UInt32)) 57 (2024104815 : UInt32)) 58 (2227730452 : UInt32)) 59 (2361852424 : UInt32)) 60 (2428436474 : UInt32)) 61 (2756734187 : UInt32)) 62 (3204031479 : UInt32)) 63 (3329325298 : UInt32))

def rrotr {X : Type} (F : Nat) (x_ : UInt32) (n : Int) (fail : X) (ret : UInt32 → X) : X :=
  bif (decide ((0 : Int) ≤ n)) then
  bif (decide ((0 : Int) ≤ (subI (32 : Int) n))) then
  ret (orW (shrW x_ n) (shlW x_ (subI (32 : Int) n)))
  else fail
  else fail

def rsched_l2 {X : Type} (F : Nat) (fail : X) (next : List UInt8 → Int → Int → List UInt32 → List UInt32 → X) (ex0 : List UInt8 → Int → Int → List UInt32 → List UInt32 → X) (block : List UInt8) (i : Int) (k : Int) (s2 : List UInt32) (w : List UInt32) : X :=
  bif (decide (k < (4 : Int))) then
    bif ((decide ((0 : Int) ≤ i)) && (decide (i < ((64 : Nat) : Int)))) then
    bif ((decide ((0 : Int) ≤ (addI (mulI (4 : Int) i) k))) && (decide ((addI (mulI (4 : Int) i) k) < ((block.length : Nat) : Int)))) then
    bif ((decide ((0 : Int) ≤ i)) && (decide (i < ((64 : Nat) : Int)))) then
    next block i (addI k (1 : Int)) s2 (List.set w (i).toNat (orW (shlW (List.getD w (i).toNat (0 : UInt32)) (8 : Int)) (cvBW (List.getD block ((addI (mulI (4 : Int) i) k)).toNat (0 : UInt8)))))
    else fail
    else fail
    else fail
  else
  ex0 block i k s2 w
def rsched_l2F {X : Type} (F : Nat) (fail : X) (ex0 : List UInt8 → Int → Int → List UInt32 → List UInt32 → X) : Nat → List UInt8 → Int → Int → List UInt32 → List UInt32 → X
  | 0, _, _, _, _, _ => fail
  | m + 1, block, i, k, s2, w => rsched_l2 F fail (rsched_l2F F fail ex0 m) ex0 block i k s2 w

def rsched_l1 {X : Type} (F : Nat) (fail : X) (next : List UInt8 → Int → List UInt32 → List UInt32 → X) (ex0 : List UInt8 → Int → List UInt32 → List UInt32 → X) (block : List UInt8) (i : Int) (s2 : List UInt32) (w : List UInt32) : X :=
  bif (decide (i < (16 : Int))) then
    rsched_l2F F fail
      (fun (block1 : List UInt8) (i1 : Int) (k : Int) (s21 : List UInt32) (w1 : List UInt32) =>
        next block1 (addI i1 (1 : Int)) s21 w1)
      F block i (0 : Int) s2 w
  else
  ex0 block i s2 w
def rsched_l1F {X : Type} (F : Nat) (fail : X) (ex0 : List UInt8 → Int → List UInt32 → List UInt32 → X) : Nat → List UInt8 → Int → List UInt32 → List UInt32 → X
  | 0, _, _, _, _ => fail
  | m + 1, block, i, s2, w => rsched_l1 F fail (rsched_l1F F fail ex0 m) ex0 block i s2 w

def rsched_l3 {X : Type} (F : Nat) (fail : X) (next : Int → List UInt32 → List UInt32 → X) (ex0 : Int → List UInt32 → List UInt32 → X) (i : Int) (s2 : List UInt32) (w : List UInt32) : X :=
  bif (decide (i < (64 : Int))) then
    bif ((decide ((0 : Int) ≤ (subI i (15 : Int)))) && (decide ((subI i (15 : Int)) < ((64 : Nat) : Int)))) then
    bif (rrotr_P (List.getD w ((subI i (15 : Int))).toNat (0 : UInt32)) (7 : Int)) then
    bif ((decide ((0 : Int) ≤ (subI i (15 : Int)))) && (decide ((subI i (15 : Int)) < ((64 : Nat) : Int)))) then
    bif (rrotr_P (List.getD w ((subI i (15 : Int))).toNat (0 : UInt32)) (18 : Int)) then
    bif ((decide ((0 : Int) ≤ (subI i (15 : Int)))) && (decide ((subI i (15 : Int)) < ((64 : Nat) : Int)))) then
    bif ((decide ((0 : Int) ≤ (subI i (2 : Int)))) && (decide ((subI i (2 : Int)) < ((64 : Nat) : Int)))) then
    bif (rrotr_P (List.getD w ((subI i (2 : Int))).toNat (0 : UInt32)) (17 : Int)) then
    bif ((decide ((0 : Int) ≤ (subI i (2 : Int)))) && (decide ((subI i (2 : Int)) < ((64 : Nat) : Int)))) then
    bif (rrotr_P (List.getD w ((subI i (2 : Int))).toNat (0 : UInt32)) (19 : Int)) then
    bif ((decide ((0 : Int) ≤ (subI i (2 : Int)))) && (decide ((subI i (2 : Int)) < ((64 : Nat) : Int)))) then
    bif ((decide ((0 : Int) ≤ (subI i (16 : Int)))) && (decide ((subI i (16 : Int)) < ((64 : Nat) : Int)))) then
    bif ((decide ((0 : Int) ≤ (subI i (7 : Int)))) && (decide ((subI i (7 : Int)) < ((64 : Nat) : Int)))) then
    bif ((decide ((0 : Int) ≤ i)) && (decide (i < ((64 : Nat) : Int)))) then
    next (addI i (1 : Int)) s2 (List.set w (i).toNat (addW (addW (addW (List.getD w ((subI i (16 : Int))).toNat (0 : UInt32)) (xorW (xorW (rrotr_r (List.getD w ((subI i (15 : Int))).toNat (0 : UInt32)) (7 : Int)) (rrotr_r (List.getD w ((subI i (15 : Int))).toNat (0 : UInt32)) (18 : Int))) (shrW (List.getD w ((subI i (15 : Int))).toNat (0 : UInt32)) (3 : Int)))) (List.getD w ((subI i (7 : Int))).toNat (0 : UInt32))) (xorW (xorW (rrotr_r (List.getD w ((subI i (2 : Int))).toNat (0 : UInt32)) (17 : Int)) (rrotr_r (List.getD w ((subI i (2 : Int))).toNat (0 : UInt32)) (19 : Int))) (shrW (List.getD w ((subI i (2 : Int))).toNat (0 : UInt32)) (10 : Int)))))
    else fail
    else fail
    else fail
    else fail
    else fail
    else fail
    else fail
    else fail
    else fail
    else fail
    else fail
    else fail
    else fail
  else
  ex0 i s2 w
def rsched_l3F {X : Type} (F : Nat) (fail : X) (ex0 : Int → List UInt32 → List UInt32 → X) : Nat → Int → List UInt32 → List UInt32 → X
  | 0, _, _, _ => fail
  | m + 1, i, s2, w => rsched_l3 F fail (rsched_l3F F fail ex0 m) ex0 i s2 w

def rsched {X : Type} (F : Nat) (block : List UInt8) (fail : X) (ret : List UInt32 → X) : X :=
  rsched_l1F F fail
    (fun (block1 : List UInt8) (i : Int) (s2 : List UInt32) (w : List UInt32) =>
      rsched_l3F F fail
        (fun (i1 : Int) (s21 : List UInt32) (w1 : List UInt32) =>
          ret w1)
        F (16 : Int) s2 w)
    F block (0 : Int) (List.replicate 64 (0 : UInt32)) (List.replicate 64 (0 : UInt32))

def rAbsorb_l1 {X : Type} (F : Nat) (fail : X) (next : UInt32 → UInt32 → UInt32 → UInt32 → UInt32 → UInt32 → UInt32 → UInt32 → Int → List UInt32 → List UInt32 → List UInt32 → List UInt32 → X) (ex0 : UInt32 → UInt32 → UInt32 → UInt32 → UInt32 → UInt32 → UInt32 → UInt32 → Int → List UInt32 → List UInt32 → List UInt32 → List UInt32 → X) (a : UInt32) (b : UInt32) (c : UInt32) (d_ : UInt32) (e_ : UInt32) (f : UInt32) (g : UInt32) (h : UInt32) (i : Int) (state : List UInt32) (s4 : List UInt32) (w : List UInt32) (k : List UInt32) : X :=
  bif (decide (i < (64 : Int))) then
    bif (rrotr_P e_ (6 : Int)) then
    bif (rrotr_P e_ (11 : Int)) then
    bif (rrotr_P e_ (25 : Int)) then
    bif ((decide ((0 : Int) ≤ i)) && (decide (i < ((64 : Nat) : Int)))) then
    bif ((decide ((0 : Int) ≤ i)) && (decide (i < ((64 : Nat) : Int)))) then
    bif (rrotr_P a (2 : Int)) then
    bif (rrotr_P a (13 : Int)) then
    bif (rrotr_P a (22 : Int)) then
    next (addW (addW (addW (addW (addW h (xorW (xorW (rrotr_r e_ (6 : Int)) (rrotr_r e_ (11 : Int))) (rrotr_r e_ (25 : Int)))) (xorW (andW e_ f) (andW (notW e_) g))) (List.getD k (i).toNat (0 : UInt32))) (List.getD w (i).toNat (0 : UInt32))) (addW (xorW (xorW (rrotr_r a (2 : Int)) (rrotr_r a (13 : Int))) (rrotr_r a (22 : Int))) (xorW (xorW (andW a b) (andW a c)) (andW b c)))) a b c (addW d_ (addW (addW (addW (addW h (xorW (xorW (rrotr_r e_ (6 : Int)) (rrotr_r e_ (11 : Int))) (rrotr_r e_ (25 : Int)))) (xorW (andW e_ f) (andW (notW e_) g))) (List.getD k (i).toNat (0 : UInt32))) (List.getD w (i).toNat (0 : UInt32)))) e_ f g (addI i (1 : Int)) state s4 w k
    else fail
    else fail
    else fail
    else fail
    else fail
    else fail
    else fail
    else fail
  else
  ex0 a b c d_ e_ f g h i state s4 w k
def rAbsorb_l1F {X : Type} (F : Nat) (fail : X) (ex0 : UInt32 → UInt32 → UInt32 → UInt32 → UInt32 → UInt32 → UInt32 → UInt32 → Int → List UInt32 → List UInt32 → List UInt32 → List UInt32 → X) : Nat → UInt32 → UInt32 → UInt32 → UInt32 → UInt32 → UInt32 → UInt32 → UInt32 → Int → List UInt32 → List UInt32 → List UInt32 → List UInt32 → X
  | 0, _, _, _, _, _, _, _, _, _, _, _, _, _ => fail
  | m + 1, a, b, c, d_, e_, f, g, h, i, state, s4, w, k => rAbsorb_l1 F fail (rAbsorb_l1F F fail ex0 m) ex0 a b c d_ e_ f g h i state s4 w k

def rAbsorb {X : Type} (F : Nat) (state : List UInt32) (block : List UInt8) (fail : X) (ret : List UInt32 → X) : X :=
  bif (rsched_P block) then
  bif (rconsts_P) then
  rAbsorb_l1F F fail
    (fun (a : UInt32) (b : UInt32) (c : UInt32) (d_ : UInt32) (e_ : UInt32) (f : UInt32) (g : UInt32) (h : UInt32) (i : Int) (state1 : List UInt32) (s4 : List UInt32) (w : List UInt32) (k : List UInt32) =>
      ret ([(addW (List.getD state1 0 (0 : UInt32)) a), (addW (List.getD state1 1 (0 : UInt32)) b), (addW (List.getD state1 2 (0 : UInt32)) c), (addW (List.getD state1 3 (0 : UInt32)) d_), (addW (List.getD state1 4 (0 : UInt32)) e_), (addW (List.getD state1 5 (0 : UInt32)) f), (addW (List.getD state1 6 (0 : UInt32)) g), (addW (List.getD state1 7 (0 : UInt32)) h)] : List UInt32))
    F (List.getD state 0 (0 : UInt32)) (List.getD state 1 (0 : UInt32)) (List.getD state 2 (0 : UInt32)) (List.getD state 3 (0 : UInt32)) (List.getD state 4 (0 : UInt32)) (List.getD state 5 (0 : UInt32)) (List.getD state 6 (0 : UInt32)) (List.getD state 7 (0 : UInt32)) (0 : Int) state ([(0 : UInt32), (0 : UInt32), (0 : UInt32), (0 : UInt32), (0 : UInt32), (0 : UInt32), (0 : UInt32), (0 : UInt32)] : List UInt32) (rsched_r block) (rconsts_r)
  else fail
  else fail

def rNew {X : Type} (F : Nat)  (fail : X) (ret : ((List UInt32) × ((List UInt8) × (Int × Unit))) → X) : X :=
  ret (([(1779033703 : UInt32), (3144134277 : UInt32), (1013904242 : UInt32), (2773480762 : UInt32), (1359893119 : UInt32), (2600822924 : UInt32), (528734635 : UInt32), (1541459225 : UInt32)] : List UInt32), (([] : List UInt8), ((0 : Int), ())))

def rCheck {X : Type} (F : Nat) (h : ((List UInt32) × ((List UInt8) × (Int × Unit)))) (fail : X) (ret : Int → X) : X :=
  bif (decide (h.2.2.1 < (0 : Int))) then
    ret (3 : Int)
  else
  bif (decide (h.2.2.1 > (9007199254740991 : Int))) then
    ret (3 : Int)
  else
  bif (((h.2.1.length : Nat) : Int) != (remI h.2.2.1 (64 : Int))) then
    ret (3 : Int)
  else
  ret (0 : Int)

def rabsorb_l1 {X : Type} (F : Nat) (fail : X) (next : List UInt8 → ((List UInt32) × ((List UInt8) × (Int × Unit))) → ((List UInt32) × ((List UInt8) × (Int × Unit))) → X) (ex0 : List UInt8 → ((List UInt32) × ((List UInt8) × (Int × Unit))) → ((List UInt32) × ((List UInt8) × (Int × Unit))) → X) (all : List UInt8) (h : ((List UInt32) × ((List UInt8) × (Int × Unit)))) (s4 : ((List UInt32) × ((List UInt8) × (Int × Unit)))) : X :=
  bif (decide (((all.length : Nat) : Int) ≥ (64 : Int))) then
    bif (decide ((64 : Int) ≤ ((all.length : Nat) : Int))) then
    bif (rAbsorb_P h.1 (List.take 64 all)) then
    bif (decide ((64 : Int) ≤ ((all.length : Nat) : Int))) then
    next (List.drop 64 all) ((rAbsorb_r h.1 (List.take 64 all)), h.2) s4
    else fail
    else fail
    else fail
  else
  ex0 all h s4
def rabsorb_l1F {X : Type} (F : Nat) (fail : X) (ex0 : List UInt8 → ((List UInt32) × ((List UInt8) × (Int × Unit))) → ((List UInt32) × ((List UInt8) × (Int × Unit))) → X) : Nat → List UInt8 → ((List UInt32) × ((List UInt8) × (Int × Unit))) → ((List UInt32) × ((List UInt8) × (Int × Unit))) → X
  | 0, _, _, _ => fail
  | m + 1, all, h, s4 => rabsorb_l1 F fail (rabsorb_l1F F fail ex0 m) ex0 all h s4

def rabsorb {X : Type} (F : Nat) (h : ((List UInt32) × ((List UInt8) × (Int × Unit)))) (b : List UInt8) (fail : X) (ret : ((List UInt32) × ((List UInt8) × (Int × Unit))) → X) : X :=
  bif (decide (h.2.1.length ≤ big)) then
  bif (decide ((h.2.1 ++ b).length ≤ big)) then
  rabsorb_l1F F fail
    (fun (all : List UInt8) (h1 : ((List UInt32) × ((List UInt8) × (Int × Unit)))) (s4 : ((List UInt32) × ((List UInt8) × (Int × Unit)))) =>
      ret (h1.1, (all, h1.2.2)))
    F (h.2.1 ++ b) (h.1, (h.2.1, ((addI h.2.2.1 ((b.length : Nat) : Int)), h.2.2.2))) (([(0 : UInt32), (0 : UInt32), (0 : UInt32), (0 : UInt32), (0 : UInt32), (0 : UInt32), (0 : UInt32), (0 : UInt32)] : List UInt32), (([] : List UInt8), ((0 : Int), ())))
  else fail
  else fail

def rFinish_l1 {X : Type} (F : Nat) (fail : X) (next : Int → ((List UInt32) × ((List UInt8) × (Int × Unit))) → List UInt8 → List UInt8 → X) (ex0 : Int → ((List UInt32) × ((List UInt8) × (Int × Unit))) → List UInt8 → List UInt8 → X) (bits : Int) (h : ((List UInt32) × ((List UInt8) × (Int × Unit)))) (s2 : List UInt8) (pad : List UInt8) : X :=
  bif ((remI (addI ((h.2.1.length : Nat) : Int) ((pad.length : Nat) : Int)) (64 : Int)) != (56 : Int)) then
    bif (decide ((pad ++ ([(0 : UInt8)] : List UInt8)).length ≤ big)) then
    next bits h s2 (pad ++ ([(0 : UInt8)] : List UInt8))
    else fail
  else
  ex0 bits h s2 pad
def rFinish_l1F {X : Type} (F : Nat) (fail : X) (ex0 : Int → ((List UInt32) × ((List UInt8) × (Int × Unit))) → List UInt8 → List UInt8 → X) : Nat → Int → ((List UInt32) × ((List UInt8) × (Int × Unit))) → List UInt8 → List UInt8 → X
  | 0, _, _, _, _ => fail
  | m + 1, bits, h, s2, pad => rFinish_l1 F fail (rFinish_l1F F fail ex0 m) ex0 bits h s2 pad

def rFinish_l2 {X : Type} (F : Nat) (fail : X) (next : Int → Int → ((List UInt32) × ((List UInt8) × (Int × Unit))) → List UInt8 → List UInt8 → X) (ex0 : Int → Int → ((List UInt32) × ((List UInt8) × (Int × Unit))) → List UInt8 → List UInt8 → X) (bits : Int) (i : Int) (h : ((List UInt32) × ((List UInt8) × (Int × Unit)))) (s2 : List UInt8) (pad : List UInt8) : X :=
  bif (decide (i ≥ (0 : Int))) then
    bif (decide ((0 : Int) ≤ (mulI (8 : Int) i))) then
    bif (decide ((pad ++ ([(cvUB (shrU bits (mulI (8 : Int) i)))] : List UInt8)).length ≤ big)) then
    next bits (subI i (1 : Int)) h s2 (pad ++ ([(cvUB (shrU bits (mulI (8 : Int) i)))] : List UInt8))
    else fail
    else fail
  else
  ex0 bits i h s2 pad
def rFinish_l2F {X : Type} (F : Nat) (fail : X) (ex0 : Int → Int → ((List UInt32) × ((List UInt8) × (Int × Unit))) → List UInt8 → List UInt8 → X) : Nat → Int → Int → ((List UInt32) × ((List UInt8) × (Int × Unit))) → List UInt8 → List UInt8 → X
  | 0, _, _, _, _, _ => fail
  | m + 1, bits, i, h, s2, pad => rFinish_l2 F fail (rFinish_l2F F fail ex0 m) ex0 bits i h s2 pad

def rFinish_l3 {X : Type} (F : Nat) (fail : X) (next : Int → ((List UInt32) × ((List UInt8) × (Int × Unit))) → List UInt8 → List UInt8 → X) (ex0 : Int → ((List UInt32) × ((List UInt8) × (Int × Unit))) → List UInt8 → List UInt8 → X) (i : Int) (h : ((List UInt32) × ((List UInt8) × (Int × Unit)))) (s2 : List UInt8) (out : List UInt8) : X :=
  bif (decide (i < (32 : Int))) then
    bif ((decide ((0 : Int) ≤ (quoI i (4 : Int)))) && (decide ((quoI i (4 : Int)) < ((8 : Nat) : Int)))) then
    bif (decide ((0 : Int) ≤ (subI (24 : Int) (mulI (8 : Int) (remI i (4 : Int)))))) then
    bif ((decide ((0 : Int) ≤ i)) && (decide (i < ((32 : Nat) : Int)))) then
    next (addI i (1 : Int)) h s2 (List.set out (i).toNat (cvWB (shrW (List.getD h.1 ((quoI i (4 : Int))).toNat (0 : UInt32)) (subI (24 : Int) (mulI (8 : Int) (remI i (4 : Int)))))))
    else fail
    else fail
    else fail
  else
  ex0 i h s2 out
def rFinish_l3F {X : Type} (F : Nat) (fail : X) (ex0 : Int → ((List UInt32) × ((List UInt8) × (Int × Unit))) → List UInt8 → List UInt8 → X) : Nat → Int → ((List UInt32) × ((List UInt8) × (Int × Unit))) → List UInt8 → List UInt8 → X
  | 0, _, _, _, _ => fail
  | m + 1, i, h, s2, out => rFinish_l3 F fail (rFinish_l3F F fail ex0 m) ex0 i h s2 out

def rFinish {X : Type} (F : Nat) (h : ((List UInt32) × ((List UInt8) × (Int × Unit)))) (fail : X) (ret : List UInt8 → Int → X) : X :=
  bif ((rCheck_r h) != (0 : Int)) then
    ret (List.replicate 32 (0 : UInt8)) (3 : Int)
  else
  rFinish_l1F F fail
    (fun (bits : Int) (h1 : ((List UInt32) × ((List UInt8) × (Int × Unit)))) (s2 : List UInt8) (pad : List UInt8) =>
      rFinish_l2F F fail
        (fun (bits1 : Int) (i : Int) (h2 : ((List UInt32) × ((List UInt8) × (Int × Unit)))) (s21 : List UInt8) (pad1 : List UInt8) =>
          bif (rabsorb_P h2 pad1) then
          rFinish_l3F F fail
            (fun (i1 : Int) (h3 : ((List UInt32) × ((List UInt8) × (Int × Unit)))) (s22 : List UInt8) (out : List UInt8) =>
              ret out (0 : Int))
            F (0 : Int) (rabsorb_r h2 pad1) s21 (List.replicate 32 (0 : UInt8))
          else fail)
        F bits (7 : Int) h1 s2 pad)
    F (mulU (cvIU h.2.2.1) (8 : Int)) h (List.replicate 32 (0 : UInt8)) ([(128 : UInt8)] : List UInt8)

def rSum {X : Type} (F : Nat) (b : List UInt8) (fail : X) (ret : List UInt8 → X) : X :=
  bif (rNew_P) then
  bif (rabsorb_P (rNew_r) b) then
  bif (rFinish_P (rabsorb_r (rNew_r) b)) then
  ret (rFinish_r0 (rabsorb_r (rNew_r) b))
  else fail
  else fail
  else fail

end Go.AI
