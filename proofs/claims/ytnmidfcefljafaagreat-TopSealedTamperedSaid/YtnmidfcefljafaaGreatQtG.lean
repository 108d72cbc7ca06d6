/- Texts of the proof, joined: DiskG DigestG1 WireG WireG2 DigestG2 CipherG2 CipherG LogG TransG TransG2 TransG3 TopG7. -/
import Derived.Test.YtnmidfcefljafaaGreatQtS
set_option linter.unusedVariables false
namespace Go.AI
open Go
set_option linter.unusedVariables false
def clPage {X : Type} (F : Nat) (s : List ZB) (fail : X) (both : X → X → X) (ret : List ZB → X) : X :=
 bif (List.isEmpty s) then
  both (
   ret ([] : List ZB)) (
   bif (decide (s.length ≤ big)) then
   ret s
   else fail)
 else
 bif (decide (s.length ≤ big)) then
 ret s
 else fail
def clPend {X : Type} (F : Nat) (s : List ZR) (fail : X) (both : X → X → X) (ret : List ZR → X) : X :=
 bif (List.isEmpty s) then
  both (
   ret ([] : List ZR)) (
   bif (decide (s.length ≤ big)) then
   ret s
   else fail)
 else
 bif (decide (s.length ≤ big)) then
 ret s
 else fail
def dFits {X : Type} (F : Nat) (d_ : ZD) (at_ count : Int) (fail : X) (ret : Bool → X) : X :=
 bif (decide (at_ ≥ 0)) then
  bif (decide (count ≥ 0)) then
   bif (decide (at_ ≤ ((d_.1.length : Nat) : Int))) then
    ret (decide (count ≤ (subI ((d_.1.length : Nat) : Int) at_)))
   else
   ret false
  else
  ret false
 else
 ret false
def dNew {X : Type} (F : Nat) (pages : Int) (fail : X) (ret : ZD → Int → X) : X :=
 bif (decide (pages < 1)) then
  ret (([] : List ZB), (([] : List ZR), ())) 2
 else
 bif (decide (pages > 8192)) then
  ret (([] : List ZB), (([] : List ZR), ())) 2
 else
 bif (((decide (0 ≤ pages)) && true) && (decide (pages ≤ ((big : Nat) : Int)))) then
 ret ((List.replicate (pages).toNat z16), (([] : List ZR), ())) (0 : Int)
 else fail
def dCheck_l1 {X : Type} (F : Nat) (fail : X) (next ex0 ex1 : List ZR → Int → Int → Int → ZD → X) (s : List ZR) (s4 s7 s8 : Int) (f : ZD) : X :=
 bif (decide (s8 < s7)) then
  bif ((decide (0 ≤ s8)) && (decide (s8 < (s.length : Int)))) then
  bif (decide ((List.getD s (s8).toNat (0, (z16, ()))).1 < 0)) then
   ex0 s s8 s7 s8 f
  else
  bif (decide ((List.getD s (s8).toNat (0, (z16, ()))).1 ≥ ((f.1.length : Nat) : Int))) then
   ex0 s s8 s7 s8 f
  else
  next s s4 s7 (addI s8 1) f
  else fail
 else
 ex1 s s4 s7 s8 f
def dCheck_l1F {X : Type} (F : Nat) (fail : X) (ex0 ex1 : List ZR → Int → Int → Int → ZD → X) : Nat → List ZR → Int → Int → Int → ZD → X
 | 0, _, _, _, _, _ => fail
 | m + 1, s, s4, s7, s8, f => dCheck_l1 F fail (dCheck_l1F F fail ex0 ex1 m) ex0 ex1 s s4 s7 s8 f
def dCheck {X : Type} (F : Nat) (d_ : ZD) (fail : X) (ret : Int → X) : X :=
 bif (decide (((d_.1.length : Nat) : Int) < 1)) then
  ret 2
 else
 bif (decide (((d_.1.length : Nat) : Int) > 8192)) then
  ret 2
 else
 dCheck_l1F F fail
  (fun s s4 s7 s8 f =>
   bif (decide (s4 ≥ 0)) then
    ret 2
   else
   ret 0)
  (fun s1 s41 s71 s81 f1 =>
   ret 0)
  F d_.2.1 0 ((d_.2.1.length : Nat) : Int) 0 d_
def contents_l1 {X : Type} (F : Nat) (fail : X) (next ex0 : List ZR → Int → Int → List ZB → X) (s10 : List ZR) (s11 s12 : Int) (out : List ZB) : X :=
 bif (decide (s12 < s11)) then
  bif ((decide (0 ≤ s12)) && (decide (s12 < (s10.length : Int)))) then
  bif ((decide (0 ≤ (List.getD s10 (s12).toNat (0, (z16, ()))).1)) && (decide ((List.getD s10 (s12).toNat (0, (z16, ()))).1 < (out.length : Int)))) then
  next s10 s11 (addI s12 1) (List.set out ((List.getD s10 (s12).toNat (0, (z16, ()))).1).toNat (List.getD s10 (s12).toNat (0, (z16, ()))).2.1)
  else fail
  else fail
 else
 ex0 s10 s11 s12 out
def contents_l1F {X : Type} (F : Nat) (fail : X) (ex0 : List ZR → Int → Int → List ZB → X) : Nat → List ZR → Int → Int → List ZB → X
 | 0, _, _, _, _ => fail
 | m + 1, s10, s11, s12, out => contents_l1 F fail (contents_l1F F fail ex0 m) ex0 s10 s11 s12 out
def contents {X : Type} (F : Nat) (d_ : ZD) (fail : X) (ret : List ZB → X) : X :=
 bif (clPage_P d_.1) then
 contents_l1F F fail
  (fun s10 s11 s12 out =>
   ret out)
  F d_.2.1 ((d_.2.1.length : Nat) : Int) 0 (clPage_r d_.1)
 else fail
def dRead {X : Type} (F : Nat) (d_ : ZD) (at_ count : Int) (fail : X) (ret : List ZB → Int → X) : X :=
 bif (dCheck_P d_) then
 bif ((dCheck_r d_) != 0) then
  ret ([] : List ZB) (dCheck_r d_)
 else
 bif (dFits_P d_ at_ count) then
 bif (!(dFits_r d_ at_ count)) then
  ret ([] : List ZB) 2
 else
 bif (contents_P d_) then
 bif (((decide (0 ≤ at_)) && (decide (at_ ≤ (addI at_ count)))) && (decide ((addI at_ count) ≤ (((contents_r d_).length : Nat) : Int)))) then
 bif (clPage_P (List.take (((addI at_ count)).toNat - (at_).toNat) (List.drop (at_).toNat (contents_r d_)))) then
 ret (clPage_r (List.take (((addI at_ count)).toNat - (at_).toNat) (List.drop (at_).toNat (contents_r d_)))) 0
 else fail
 else fail
 else fail
 else fail
 else fail
def dRun_l2 {X : Type} (F : Nat) (fail : X) (next ex0 : List ZB → Int → Int → List (Int × (Int × ((List ZB) × Unit))) → Int → Int → Int → List (Int × (Int × ((List ZB) × Unit))) → Int → Int → List ZB → List ZR → (Int × (Int × ((List ZB) × Unit))) → ZD → X) (s18 : List ZB) (s19 s20 : Int) (l : List (Int × (Int × ((List ZB) × Unit)))) (s5 s6 i : Int) (s22 : List (Int × (Int × ((List ZB) × Unit)))) (s23 s24 : Int) (h1 : List ZB) (h2 : List ZR) (op : (Int × (Int × ((List ZB) × Unit)))) (s4 : ZD) : X :=
 bif (decide (s20 < s19)) then
  bif ((decide (0 ≤ s20)) && (decide (s20 < (s18.length : Int)))) then
  bif (decide ((h2 ++ ([((addI op.2.1 s20), ((List.getD s18 (s20).toNat z16), ()))] : List ZR)).length ≤ big)) then
  next s18 s19 (addI s20 (1 : Int)) l s5 s6 i s22 s23 s24 h1 (h2 ++ ([((addI op.2.1 s20), ((List.getD s18 (s20).toNat z16), ()))] : List ZR)) op s4
  else fail
  else fail
 else
 ex0 s18 s19 s20 l s5 s6 i s22 s23 s24 h1 h2 op s4
def dRun_l2F {X : Type} (F : Nat) (fail : X) (ex0 : List ZB → Int → Int → List (Int × (Int × ((List ZB) × Unit))) → Int → Int → Int → List (Int × (Int × ((List ZB) × Unit))) → Int → Int → List ZB → List ZR → (Int × (Int × ((List ZB) × Unit))) → ZD → X) : Nat → List ZB → Int → Int → List (Int × (Int × ((List ZB) × Unit))) → Int → Int → Int → List (Int × (Int × ((List ZB) × Unit))) → Int → Int → List ZB → List ZR → (Int × (Int × ((List ZB) × Unit))) → ZD → X
 | 0, _, _, _, _, _, _, _, _, _, _, _, _, _, _ => fail
 | m + 1, s18, s19, s20, l, s5, s6, i, s22, s23, s24, h1, h2, op, s4 => dRun_l2 F fail (dRun_l2F F fail ex0 m) ex0 s18 s19 s20 l s5 s6 i s22 s23 s24 h1 h2 op s4
def dRun_l1 {X : Type} (F : Nat) (fail : X) (next ex0 ex1 : List (Int × (Int × ((List ZB) × Unit))) → Int → Int → List (Int × (Int × ((List ZB) × Unit))) → Int → Int → ZD → List ZB → List ZR → X) (l : List (Int × (Int × ((List ZB) × Unit)))) (s5 s6 : Int) (s22 : List (Int × (Int × ((List ZB) × Unit)))) (s23 s24 : Int) (s4 : ZD) (h2 : List ZB) (h3 : List ZR) : X :=
 bif (decide (s24 < s23)) then
  bif ((decide (0 ≤ s24)) && (decide (s24 < (s22.length : Int)))) then
  bif (decide ((List.getD s22 (s24).toNat (0, (0, (([] : List ZB), ())))).1 ≥ 0)) then
   bif (decide ((List.getD s22 (s24).toNat (0, (0, (([] : List ZB), ())))).1 < 2)) then
    bif ((decide (0 ≤ (List.getD s22 (s24).toNat (0, (0, (([] : List ZB), ())))).1)) && (decide ((List.getD s22 (s24).toNat (0, (0, (([] : List ZB), ())))).1 < (2 : Int)))) then
    bif (Nat.beq ((List.getD s22 (s24).toNat (0, (0, (([] : List ZB), ())))).1).toNat 0) then
     bif (dFits_P (h2, (h3, ())) (List.getD s22 (s24).toNat (0, (0, (([] : List ZB), ())))).2.1 (((List.getD s22 (s24).toNat (0, (0, (([] : List ZB), ())))).2.2.1.length : Nat) : Int)) then
     bif (!(dFits_r (h2, (h3, ())) (List.getD s22 (s24).toNat (0, (0, (([] : List ZB), ())))).2.1 (((List.getD s22 (s24).toNat (0, (0, (([] : List ZB), ())))).2.2.1.length : Nat) : Int))) then
      ex0 l s24 2 s22 s23 s24 (([] : List ZB), (([] : List ZR), ())) h2 h3
     else
     dRun_l2F F fail
      (fun s18 s19 s20 l1 s51 s61 i s221 s231 s241 h1 h21 op s41 =>
       next l1 s51 s61 s221 s231 (addI s241 1) s41 h1 h21)
      F (List.getD s22 (s24).toNat (0, (0, (([] : List ZB), ())))).2.2.1 (((List.getD s22 (s24).toNat (0, (0, (([] : List ZB), ())))).2.2.1.length : Nat) : Int) 0 l s5 s6 s24 s22 s23 s24 h2 h3 (List.getD s22 (s24).toNat (0, (0, (([] : List ZB), ())))) s4
     else fail
    else
    bif (Nat.beq ((List.getD s22 (s24).toNat (0, (0, (([] : List ZB), ())))).1).toNat 1) then
    bif (contents_P (h2, (h3, ()))) then
    next l s5 s6 s22 s23 (addI s24 1) s4 (contents_r (h2, (h3, ()))) ([] : List ZR)
    else fail
    else fail
    else fail
   else
   ex0 l s24 1 s22 s23 s24 (([] : List ZB), (([] : List ZR), ())) h2 h3
  else
  ex0 l s24 1 s22 s23 s24 (([] : List ZB), (([] : List ZR), ())) h2 h3
  else fail
 else
 ex1 l s5 s6 s22 s23 s24 s4 h2 h3
def dRun_l1F {X : Type} (F : Nat) (fail : X) (ex0 ex1 : List (Int × (Int × ((List ZB) × Unit))) → Int → Int → List (Int × (Int × ((List ZB) × Unit))) → Int → Int → ZD → List ZB → List ZR → X) : Nat → List (Int × (Int × ((List ZB) × Unit))) → Int → Int → List (Int × (Int × ((List ZB) × Unit))) → Int → Int → ZD → List ZB → List ZR → X
 | 0, _, _, _, _, _, _, _, _, _ => fail
 | m + 1, l, s5, s6, s22, s23, s24, s4, h2, h3 => dRun_l1 F fail (dRun_l1F F fail ex0 ex1 m) ex0 ex1 l s5 s6 s22 s23 s24 s4 h2 h3
def dRun {X : Type} (F : Nat) (d_ : ZD) (l : List (Int × (Int × ((List ZB) × Unit)))) (fail : X) (ret : ZD → Int → Int → X) : X :=
 bif (dCheck_P d_) then
 bif ((dCheck_r d_) != 0) then
  ret (([] : List ZB), (([] : List ZR), ())) 0 (dCheck_r d_)
 else
 bif (clPage_P d_.1) then
 bif (clPend_P d_.2.1) then
 dRun_l1F F fail
  (fun l1 s5 s6 s22 s23 s24 s4 h2 h3 =>
   ret s4 s5 s6)
  (fun l2 s51 s61 s221 s231 s241 s41 h21 h31 =>
   ret (h21, (h31, ())) (l2.length : Int) 0)
  F l 0 0 l (l.length : Int) 0 (([] : List ZB), (([] : List ZR), ())) (clPage_r d_.1) (clPend_r d_.2.1)
 else fail
 else fail
 else fail
end Go.AI
namespace Go.AI
open Go
set_option linter.unusedVariables false
def rotr {X : Type} (F : Nat) (x_ : UInt32) (n : Int) (fail : X) (ret : UInt32 → X) : X :=
 bif (decide (0 ≤ n)) then
 bif (decide (0 ≤ (subI 32 n))) then
 ret (orW (shrW x_ n) (shlW x_ (subI 32 n)))
 else fail
 else fail
def shr {X : Type} (F : Nat) (x_ : UInt32) (n : Int) (fail : X) (ret : UInt32 → X) : X :=
 bif (decide (0 ≤ n)) then
 ret (shrW x_ n)
 else fail
def three_0 {X : Type} (F : Nat) (x_ : UInt32) (a b c : Int) (fail : X) (ret : UInt32 → X) : X :=
 bif (rotr_P x_ a) then
 bif (rotr_P x_ b) then
 bif (rotr_P x_ c) then
 ret (xorW (xorW (rotr_r x_ a) (rotr_r x_ b)) (rotr_r x_ c))
 else fail
 else fail
 else fail
def three_1 {X : Type} (F : Nat) (x_ : UInt32) (a b c : Int) (fail : X) (ret : UInt32 → X) : X :=
 bif (rotr_P x_ a) then
 bif (rotr_P x_ b) then
 bif (shr_P x_ c) then
 ret (xorW (xorW (rotr_r x_ a) (rotr_r x_ b)) (shr_r x_ c))
 else fail
 else fail
 else fail
def consts {X : Type} (F : Nat) (fail : X) (ret : ZW → X) : X :=
 ret (List.set (List.set (List.set (List.set (List.set (List.set (List.set (List.set (List.set (List.set (List.set (List.set (List.set (List.set (List.set (List.set (List.set (List.set (List.set (List.set (List.set (List.set (List.set (List.set (List.set (List.set (List.set (List.set (List.set (List.set (List.set (List.set (List.set (List.set (List.set (List.set (List.set (List.set (List.set (List.set (List.set (List.set (List.set (List.set (List.set (List.set (List.set (List.set (List.set (List.set (List.set (List.set (List.set (List.set (List.set (List.set (List.set (List.set (List.set (List.set (List.set (List.set (List.set (List.set (List.replicate 64 (0 : UInt32)) 0 (1116352408 : UInt32)) 1 (1899447441 : UInt32)) 2 (3049323471 : UInt32)) 3 (3921009573 : UInt32)) 4 (961987163 : UInt32)) 5 (1508970993 : UInt32)) 6 (2453635748 : UInt32)) 7 (2870763221 : UInt32)) 8 (3624381080 : UInt32)) 9 (310598401 : UInt32)) 10 (607225278 : UInt32)) 11 (1426881987 : UInt32)) 12 (1925078388 : UInt32)) 13 (2162078206 : UInt32)) 14 (2614888103 : UInt32)) 15 (3248222580 : UInt32)) 16 (3835390401 : UInt32)) 17 (4022224774 : UInt32)) 18 (264347078 : UInt32)) 19 (604807628 : UInt32)) 20 (770255983 : UInt32)) 21 (1249150122 : UInt32)) 22 (1555081692 : UInt32)) 23 (1996064986 : UInt32)) 24 (2554220882 : UInt32)) 25 (2821834349 : UInt32)) 26 (2952996808 : UInt32)) 27 (3210313671 : UInt32)) 28 (3336571891 : UInt32)) 29 (3584528711 : UInt32)) 30 (113926993 : UInt32)) 31 (338241895 : UInt32)) 32 (666307205 : UInt32)) 33 (773529912 : UInt32)) 34 (1294757372 : UInt32)) 35 (1396182291 : UInt32)) 36 (1695183700 : UInt32)) 37 (1986661051 : UInt32)) 38 (2177026350 : UInt32)) 39 (2456956037 : UInt32)) 40 (2730485921 : UInt32)) 41 (2820302411 : UInt32)) 42 (3259730800 : UInt32)) 43 (3345764771 : UInt32)) 44 (3516065817 : UInt32)) 45 (3600352804 : UInt32)) 46 (4094571909 : UInt32)) 47 (275423344 : UInt32)) 48 (430227734 : UInt32)) 49 (506948616 : UInt32)) 50 (659060556 : UInt32)) 51 (883997877 : UInt32)) 52 (958139571 : UInt32)) 53 (1322822218 : UInt32)) 54 (1537002063 : UInt32)) 55 (1747873779 : UInt32)) 56 (1955562222 : UInt32)) 57 (2024104815 : UInt32)) 58 (2227730452 : UInt32)) 59 (2361852424 : UInt32)) 60 (2428436474 : UInt32)) 61 (2756734187 : UInt32)) 62 (3204031479 : UInt32)) 63 (3329325298 : UInt32))
def absorb_l2 {X : Type} (F : Nat) (fail : X) (next ex0 : Int → UInt32 → ZW → Int → ZB → Int → Int → ZW → ZB → ZW → ZW → ZW → X) (i : Int) (k : UInt32) (s10 : ZW) (s11 : Int) (s23 : ZB) (s24 s25 : Int) (x_ : ZW) (s1 : ZB) (w s s4 : ZW) : X :=
 bif (decide (s25 < s24)) then
  bif ((decide (0 ≤ s25)) && (decide (s25 < (s23.length : Int)))) then
  bif ((decide (0 ≤ i)) && (decide (i < (16 : Int)))) then
  bif ((decide (0 ≤ i)) && (decide (i < (16 : Int)))) then
  next i k s10 s11 s23 s24 (addI s25 1) x_ s1 (List.set w (i).toNat (orW (shlW (List.getD w (i).toNat 0) 8) (cvBW (List.getD s23 (s25).toNat 0)))) s s4
  else fail
  else fail
  else fail
 else
 ex0 i k s10 s11 s23 s24 s25 x_ s1 w s s4
def absorb_l2F {X : Type} (F : Nat) (fail : X) (ex0 : Int → UInt32 → ZW → Int → ZB → Int → Int → ZW → ZB → ZW → ZW → ZW → X) : Nat → Int → UInt32 → ZW → Int → ZB → Int → Int → ZW → ZB → ZW → ZW → ZW → X
 | 0, _, _, _, _, _, _, _, _, _, _, _, _ => fail
 | m + 1, i, k, s10, s11, s23, s24, s25, x_, s1, w, s, s4 => absorb_l2 F fail (absorb_l2F F fail ex0 m) ex0 i k s10 s11 s23 s24 s25 x_ s1 w s s4
def absorb_l1 {X : Type} (F : Nat) (fail : X) (next ex0 : ZW → Int → ZW → ZB → ZW → ZW → ZW → X) (s10 : ZW) (s11 : Int) (x_ : ZW) (s1 : ZB) (w s s4 : ZW) : X :=
 bif (decide (s11 < 64)) then
  bif ((decide (0 ≤ s11)) && (decide (s11 < (64 : Int)))) then
  bif (decide (s11 < 16)) then
   bif (((decide (0 ≤ (mulI 4 s11))) && (decide ((mulI 4 s11) ≤ (addI (mulI 4 s11) 4)))) && (decide ((addI (mulI 4 s11) 4) ≤ (s1.length : Int)))) then
   absorb_l2F F fail
    (fun i k s101 s111 s23 s24 s25 x_1 s12 w1 s2 s41 =>
     bif ((decide ((0 : Int) ≤ (remI i (16 : Int)))) && (decide ((remI i (16 : Int)) < ((16 : Nat) : Int)))) then
     bif (three_P (List.getD x_1 4 0) 6 11 25 169) then
     bif (three_P (List.getD x_1 0 0) 2 13 22 169) then
     next s101 (addI s111 1) ([(addW (addW (addW (addW (List.getD x_1 7 0) (three_r (List.getD x_1 4 0) 6 11 25 169)) (xorW (List.getD x_1 6 0) (andW (List.getD x_1 4 0) (xorW (List.getD x_1 5 0) (List.getD x_1 6 0))))) (addW k (List.getD w1 ((remI i 16)).toNat 0))) (addW (three_r (List.getD x_1 0 0) 2 13 22 169) (orW (andW (List.getD x_1 0 0) (List.getD x_1 1 0)) (andW (List.getD x_1 2 0) (orW (List.getD x_1 0 0) (List.getD x_1 1 0)))))), (List.getD x_1 0 0), (List.getD x_1 1 0), (List.getD x_1 2 0), (addW (List.getD x_1 3 0) (addW (addW (addW (List.getD x_1 7 0) (three_r (List.getD x_1 4 0) 6 11 25 169)) (xorW (List.getD x_1 6 0) (andW (List.getD x_1 4 0) (xorW (List.getD x_1 5 0) (List.getD x_1 6 0))))) (addW k (List.getD w1 ((remI i 16)).toNat 0)))), (List.getD x_1 4 0), (List.getD x_1 5 0), (List.getD x_1 6 0)] : ZW) s12 w1 s2 s41
     else fail
     else fail
     else fail)
    F s11 (List.getD s10 (s11).toNat 0) s10 s11 (List.drop ((mulI 4 s11)).toNat (List.take ((addI (mulI 4 s11) 4)).toNat s1)) (((List.drop ((mulI 4 s11)).toNat (List.take ((addI (mulI 4 s11) 4)).toNat s1)).length : Nat) : Int) 0 x_ s1 w s s4
   else fail
  else
  bif ((decide ((0 : Int) ≤ (remI (subI s11 (15 : Int)) (16 : Int)))) && (decide ((remI (subI s11 (15 : Int)) (16 : Int)) < ((16 : Nat) : Int)))) then
  bif (three_P (List.getD w ((remI (subI s11 15) 16)).toNat 0) 7 18 3 177) then
  bif ((decide ((0 : Int) ≤ (remI (subI s11 (2 : Int)) (16 : Int)))) && (decide ((remI (subI s11 (2 : Int)) (16 : Int)) < ((16 : Nat) : Int)))) then
  bif (three_P (List.getD w ((remI (subI s11 2) 16)).toNat 0) 17 19 10 177) then
  bif ((decide ((0 : Int) ≤ (remI s11 (16 : Int)))) && (decide ((remI s11 (16 : Int)) < ((16 : Nat) : Int)))) then
  bif ((decide ((0 : Int) ≤ (remI (subI s11 (7 : Int)) (16 : Int)))) && (decide ((remI (subI s11 (7 : Int)) (16 : Int)) < ((16 : Nat) : Int)))) then
  bif ((decide ((0 : Int) ≤ (remI s11 (16 : Int)))) && (decide ((remI s11 (16 : Int)) < ((16 : Nat) : Int)))) then
  bif ((decide ((0 : Int) ≤ (remI s11 (16 : Int)))) && (decide ((remI s11 (16 : Int)) < ((16 : Nat) : Int)))) then
  bif (three_P (List.getD x_ 4 0) 6 11 25 169) then
  bif (three_P (List.getD x_ 0 0) 2 13 22 169) then
  next s10 (addI s11 1) ([(addW (addW (addW (addW (List.getD x_ 7 0) (three_r (List.getD x_ 4 0) 6 11 25 169)) (xorW (List.getD x_ 6 0) (andW (List.getD x_ 4 0) (xorW (List.getD x_ 5 0) (List.getD x_ 6 0))))) (addW (List.getD s10 (s11).toNat 0) (List.getD (List.set w ((remI s11 16)).toNat (addW (List.getD w ((remI s11 16)).toNat 0) (addW (addW (three_r (List.getD w ((remI (subI s11 15) 16)).toNat 0) 7 18 3 177) (List.getD w ((remI (subI s11 7) 16)).toNat 0)) (three_r (List.getD w ((remI (subI s11 2) 16)).toNat 0) 17 19 10 177)))) ((remI s11 16)).toNat 0))) (addW (three_r (List.getD x_ 0 0) 2 13 22 169) (orW (andW (List.getD x_ 0 0) (List.getD x_ 1 0)) (andW (List.getD x_ 2 0) (orW (List.getD x_ 0 0) (List.getD x_ 1 0)))))), (List.getD x_ 0 0), (List.getD x_ 1 0), (List.getD x_ 2 0), (addW (List.getD x_ 3 0) (addW (addW (addW (List.getD x_ 7 0) (three_r (List.getD x_ 4 0) 6 11 25 169)) (xorW (List.getD x_ 6 0) (andW (List.getD x_ 4 0) (xorW (List.getD x_ 5 0) (List.getD x_ 6 0))))) (addW (List.getD s10 (s11).toNat 0) (List.getD (List.set w ((remI s11 16)).toNat (addW (List.getD w ((remI s11 16)).toNat 0) (addW (addW (three_r (List.getD w ((remI (subI s11 15) 16)).toNat 0) 7 18 3 177) (List.getD w ((remI (subI s11 7) 16)).toNat 0)) (three_r (List.getD w ((remI (subI s11 2) 16)).toNat 0) 17 19 10 177)))) ((remI s11 16)).toNat 0)))), (List.getD x_ 4 0), (List.getD x_ 5 0), (List.getD x_ 6 0)] : ZW) s1 (List.set w ((remI s11 16)).toNat (addW (List.getD w ((remI s11 16)).toNat 0) (addW (addW (three_r (List.getD w ((remI (subI s11 15) 16)).toNat 0) 7 18 3 177) (List.getD w ((remI (subI s11 7) 16)).toNat 0)) (three_r (List.getD w ((remI (subI s11 2) 16)).toNat 0) 17 19 10 177)))) s s4
  else fail
  else fail
  else fail
  else fail
  else fail
  else fail
  else fail
  else fail
  else fail
  else fail
  else fail
 else
 ex0 s10 s11 x_ s1 w s s4
def absorb_l1F {X : Type} (F : Nat) (fail : X) (ex0 : ZW → Int → ZW → ZB → ZW → ZW → ZW → X) : Nat → ZW → Int → ZW → ZB → ZW → ZW → ZW → X
 | 0, _, _, _, _, _, _, _ => fail
 | m + 1, s10, s11, x_, s1, w, s, s4 => absorb_l1 F fail (absorb_l1F F fail ex0 m) ex0 s10 s11 x_ s1 w s s4
def absorb_l3 {X : Type} (F : Nat) (fail : X) (next ex0 : Int → ZW → ZW → ZW → X) (s71 : Int) (s s4 x_ : ZW) : X :=
 bif (decide (s71 < 8)) then
  bif ((decide (0 ≤ s71)) && (decide (s71 < (8 : Int)))) then
  bif ((decide (0 ≤ s71)) && (decide (s71 < (8 : Int)))) then
  bif ((decide (0 ≤ s71)) && (decide (s71 < (8 : Int)))) then
  next (addI s71 1) s s4 (List.set x_ (s71).toNat (addW (List.getD x_ (s71).toNat 0) (List.getD s (s71).toNat 0)))
  else fail
  else fail
  else fail
 else
 ex0 s71 s s4 x_
def absorb_l3F {X : Type} (F : Nat) (fail : X) (ex0 : Int → ZW → ZW → ZW → X) : Nat → Int → ZW → ZW → ZW → X
 | 0, _, _, _, _ => fail
 | m + 1, s71, s, s4, x_ => absorb_l3 F fail (absorb_l3F F fail ex0 m) ex0 s71 s s4 x_
def absorb {X : Type} (F : Nat) (s : ZW) (block : ZB) (fail : X) (ret : ZW → X) : X :=
 bif (consts_P) then
 absorb_l1F F fail
  (fun s10 s11 x_ s1 w s2 s4 =>
   absorb_l3F F fail
    (fun s71 s3 s41 x_1 =>
     ret x_1)
    F 0 s2 s4 x_)
  F (consts_r) 0 s block ([0, 0, 0, 0, 0, 0, 0, 0, 0, 0, 0, 0, 0, 0, 0, 0] : ZW) s ([0, 0, 0, 0, 0, 0, 0, 0] : ZW)
 else fail
def hNew {X : Type} (F : Nat) (fail : X) (ret : ZH → X) : X :=
 ret (([1779033703, 3144134277, 1013904242, 2773480762, 1359893119, 2600822924, 528734635, 1541459225] : ZW), (([] : ZB), (0, ())))
def hwrite_l1 {X : Type} (F : Nat) (fail : X) (next ex0 : ZB → ZW → Int → ZH → ZH → ZW → X) (b : ZB) (s13 : ZW) (s14 : Int) (h s4 : ZH) (s : ZW) : X :=
 bif (decide (s14 < 8)) then
  bif ((decide (0 ≤ s14)) && (decide (s14 < (8 : Int)))) then
  bif ((decide (0 ≤ s14)) && (decide (s14 < (8 : Int)))) then
  next b s13 (addI s14 1) h s4 (List.set s (s14).toNat (List.getD s13 (s14).toNat 0))
  else fail
  else fail
 else
 ex0 b s13 s14 h s4 s
def hwrite_l1F {X : Type} (F : Nat) (fail : X) (ex0 : ZB → ZW → Int → ZH → ZH → ZW → X) : Nat → ZB → ZW → Int → ZH → ZH → ZW → X
 | 0, _, _, _, _, _, _ => fail
 | m + 1, b, s13, s14, h, s4, s => hwrite_l1 F fail (hwrite_l1F F fail ex0 m) ex0 b s13 s14 h s4 s
def hwrite_l2 {X : Type} (F : Nat) (fail : X) (next ex0 : ZB → ZB → ZH → ZH → ZW → X) (b all : ZB) (h s4 : ZH) (s : ZW) : X :=
 bif (decide ((all.length : Int) ≥ 64)) then
  bif (absorb_P s all) then
  bif (decide (64 ≤ (all.length : Int))) then
  next b (List.drop 64 all) h s4 (absorb_r s all)
  else fail
  else fail
 else
 ex0 b all h s4 s
def hwrite_l2F {X : Type} (F : Nat) (fail : X) (ex0 : ZB → ZB → ZH → ZH → ZW → X) : Nat → ZB → ZB → ZH → ZH → ZW → X
 | 0, _, _, _, _, _ => fail
 | m + 1, b, all, h, s4, s => hwrite_l2 F fail (hwrite_l2F F fail ex0 m) ex0 b all h s4 s
def hwrite_l3 {X : Type} (F : Nat) (fail : X) (next ex0 : ZW → Int → ZH → ZW → (Int × Unit) → ZB → X) (s49 : ZW) (s50 : Int) (s4 : ZH) (out : ZW) (out1 : (Int × Unit)) (h2 : ZB) : X :=
 bif (decide (s50 < 8)) then
  bif ((decide (0 ≤ s50)) && (decide (s50 < (8 : Int)))) then
  bif ((decide (0 ≤ s50)) && (decide (s50 < (8 : Int)))) then
  next s49 (addI s50 1) s4 (List.set out (s50).toNat (List.getD s49 (s50).toNat 0)) out1 h2
  else fail
  else fail
 else
 ex0 s49 s50 s4 out out1 h2
def hwrite_l3F {X : Type} (F : Nat) (fail : X) (ex0 : ZW → Int → ZH → ZW → (Int × Unit) → ZB → X) : Nat → ZW → Int → ZH → ZW → (Int × Unit) → ZB → X
 | 0, _, _, _, _, _, _ => fail
 | m + 1, s49, s50, s4, out, out1, h2 => hwrite_l3 F fail (hwrite_l3F F fail ex0 m) ex0 s49 s50 s4 out out1 h2
def hwrite {X : Type} (F : Nat) (h : ZH) (b : ZB) (fail : X) (ret : ZH → X) : X :=
 hwrite_l1F F fail
  (fun b1 s13 s14 h1 s4 s =>
   bif (((decide (0 ≤ ((h1.2.1.length : Nat) : Int))) && (decide (((h1.2.1.length : Nat) : Int) ≤ ((h1.2.1.length : Nat) : Int)))) && (((h1.2.1.length : Nat) : Int) == ((h1.2.1.length : Nat) : Int))) then
   bif (decide (((List.take h1.2.1.length h1.2.1) ++ b1).length ≤ big)) then
   hwrite_l2F F fail
    (fun b2 all h2 s41 s1 =>
     bif (decide (all.length ≤ big)) then
     hwrite_l3F F fail
      (fun s49 s50 s42 out out1 h21 =>
       ret (out, (h21, out1)))
      F s1 0 s41 ([0, 0, 0, 0, 0, 0, 0, 0] : ZW) ((addI h2.2.2.1 (b2.length : Int)), ()) all
     else fail)
    F b1 ((List.take h1.2.1.length h1.2.1) ++ b1) h1 s4 s
   else fail
   else fail)
  F b h.1 0 h (([0, 0, 0, 0, 0, 0, 0, 0] : ZW), (([] : ZB), (0, ()))) ([0, 0, 0, 0, 0, 0, 0, 0] : ZW)
def hfinish_l1 {X : Type} (F : Nat) (fail : X) (next ex0 : Int → ZH → ZB → ZB → X) (shift : Int) (h : ZH) (s2 pad : ZB) : X :=
 bif (decide (shift ≥ 0)) then
  bif (decide (0 ≤ shift)) then
  bif (decide ((pad ++ ([(cvUB (shrU (mulU (cvIU h.2.2.1) (8 : Int)) shift))] : ZB)).length ≤ big)) then
  next (subI shift (8 : Int)) h s2 (pad ++ ([(cvUB (shrU (mulU (cvIU h.2.2.1) (8 : Int)) shift))] : ZB))
  else fail
  else fail
 else
 ex0 shift h s2 pad
def hfinish_l1F {X : Type} (F : Nat) (fail : X) (ex0 : Int → ZH → ZB → ZB → X) : Nat → Int → ZH → ZB → ZB → X
 | 0, _, _, _, _ => fail
 | m + 1, shift, h, s2, pad => hfinish_l1 F fail (hfinish_l1F F fail ex0 m) ex0 shift h s2 pad
def hfinish_l3 {X : Type} (F : Nat) (fail : X) (next ex0 : Int → UInt32 → ZW → Int → Int → ZB → ZB → X) (i : Int) (x_ : UInt32) (s35 : ZW) (s36 s40 : Int) (s2 out : ZB) : X :=
 bif (decide (s40 < 4)) then
  bif (decide (0 ≤ (subI 24 (mulI 8 s40)))) then
  bif ((decide (0 ≤ (addI (mulI 4 i) s40))) && (decide ((addI (mulI 4 i) s40) < (32 : Int)))) then
  next i x_ s35 s36 (addI s40 1) s2 (List.set out ((addI (mulI 4 i) s40)).toNat (cvWB (shrW x_ (subI 24 (mulI 8 s40)))))
  else fail
  else fail
 else
 ex0 i x_ s35 s36 s40 s2 out
def hfinish_l3F {X : Type} (F : Nat) (fail : X) (ex0 : Int → UInt32 → ZW → Int → Int → ZB → ZB → X) : Nat → Int → UInt32 → ZW → Int → Int → ZB → ZB → X
 | 0, _, _, _, _, _, _, _ => fail
 | m + 1, i, x_, s35, s36, s40, s2, out => hfinish_l3 F fail (hfinish_l3F F fail ex0 m) ex0 i x_ s35 s36 s40 s2 out
def hfinish_l2 {X : Type} (F : Nat) (fail : X) (next ex0 : ZW → Int → ZB → ZB → X) (s35 : ZW) (s36 : Int) (s2 out : ZB) : X :=
 bif (decide (s36 < 8)) then
  bif ((decide (0 ≤ s36)) && (decide (s36 < (8 : Int)))) then
  hfinish_l3F F fail
   (fun i x_ s351 s361 s40 s21 out1 =>
    next s351 (addI s361 1) s21 out1)
   F s36 (List.getD s35 (s36).toNat 0) s35 s36 0 s2 out
  else fail
 else
 ex0 s35 s36 s2 out
def hfinish_l2F {X : Type} (F : Nat) (fail : X) (ex0 : ZW → Int → ZB → ZB → X) : Nat → ZW → Int → ZB → ZB → X
 | 0, _, _, _, _ => fail
 | m + 1, s35, s36, s2, out => hfinish_l2 F fail (hfinish_l2F F fail ex0 m) ex0 s35 s36 s2 out
def hfinish {X : Type} (F : Nat) (h : ZH) (fail : X) (ret : ZB → X) : X :=
 bif (((decide (0 ≤ (addI 1 (remI (subI 119 ((h.2.1.length : Nat) : Int)) 64)))) && (decide ((addI 1 (remI (subI 119 ((h.2.1.length : Nat) : Int)) 64)) ≤ 72))) && (decide (72 ≤ ((big : Nat) : Int)))) then
 bif (decide ((0 : Int) < (((List.replicate ((addI (1 : Int) (remI (subI (119 : Int) ((h.2.1.length : Nat) : Int)) (64 : Int)))).toNat (0 : UInt8)).length : Nat) : Int))) then
 hfinish_l1F F fail
  (fun shift h1 s2 pad =>
   bif (hwrite_P h1 pad) then
   hfinish_l2F F fail
    (fun s35 s36 s21 out =>
     ret out)
    F (hwrite_r h1 pad).1 (0 : Int) s2 (List.replicate 32 (0 : UInt8))
   else fail)
  F (56 : Int) h (List.replicate 32 (0 : UInt8)) (List.set (List.replicate ((addI (1 : Int) (remI (subI (119 : Int) ((h.2.1.length : Nat) : Int)) (64 : Int)))).toNat (0 : UInt8)) 0 (128 : UInt8))
 else fail
 else fail
def dSum {X : Type} (F : Nat) (b : ZB) (fail : X) (ret : ZB → X) : X :=
 bif (hNew_P) then
 bif (hwrite_P (hNew_r) b) then
 bif (hfinish_P (hwrite_r (hNew_r) b)) then
 ret (hfinish_r (hwrite_r (hNew_r) b))
 else fail
 else fail
 else fail
end Go.AI
namespace Go.AI
open Go
set_option linter.unusedVariables false
def tab_bae91b  : ZB := [0, 1, 2, 2, 3, 3, 3, 3, 4, 4, 4, 4, 4, 4, 4, 4, 5, 5, 5, 5, 5, 5, 5, 5, 5, 5, 5, 5, 5, 5, 5, 5, 6, 6, 6, 6, 6, 6, 6, 6, 6, 6, 6, 6, 6, 6, 6, 6, 6, 6, 6, 6, 6, 6, 6, 6, 6, 6, 6, 6, 6, 6, 6, 6, 7, 7, 7, 7, 7, 7, 7, 7, 7, 7, 7, 7, 7, 7, 7, 7, 7, 7, 7, 7, 7, 7, 7, 7, 7, 7, 7, 7, 7, 7, 7, 7, 7, 7, 7, 7, 7, 7, 7, 7, 7, 7, 7, 7, 7, 7, 7, 7, 7, 7, 7, 7, 7, 7, 7, 7, 7, 7, 7, 7, 7, 7, 7, 7, 8, 8, 8, 8, 8, 8, 8, 8, 8, 8, 8, 8, 8, 8, 8, 8, 8, 8, 8, 8, 8, 8, 8, 8, 8, 8, 8, 8, 8, 8, 8, 8, 8, 8, 8, 8, 8, 8, 8, 8, 8, 8, 8, 8, 8, 8, 8, 8, 8, 8, 8, 8, 8, 8, 8, 8, 8, 8, 8, 8, 8, 8, 8, 8, 8, 8, 8, 8, 8, 8, 8, 8, 8, 8, 8, 8, 8, 8, 8, 8, 8, 8, 8, 8, 8, 8, 8, 8, 8, 8, 8, 8, 8, 8, 8, 8, 8, 8, 8, 8, 8, 8, 8, 8, 8, 8, 8, 8, 8, 8, 8, 8, 8, 8, 8, 8, 8, 8, 8, 8, 8, 8, 8, 8, 8, 8, 8, 8]
def bits_Len64 {X : Type} (F : Nat) (x_ : Int) (fail : X) (ret : Int → X) : X :=
 bif (decide (x_ ≥ 4294967296)) then
  bif (decide ((shrU x_ (32 : Int)) ≥ (65536 : Int))) then
   bif (decide ((shrU (shrU x_ (32 : Int)) (16 : Int)) ≥ (256 : Int))) then
    bif ((decide (0 ≤ ((((cvUB (shrU (shrU (shrU x_ 32) 16) 8))).toNat : Nat) : Int))) && (decide (((((cvUB (shrU (shrU (shrU x_ 32) 16) 8))).toNat : Nat) : Int) < (tab_bae91b.length : Int)))) then
    ret (addI 56 (cvBI (List.getD tab_bae91b ((cvUB (shrU (shrU (shrU x_ 32) 16) 8))).toNat 0)))
    else fail
   else
   bif ((decide (0 ≤ ((((cvUB (shrU (shrU x_ 32) 16))).toNat : Nat) : Int))) && (decide (((((cvUB (shrU (shrU x_ 32) 16))).toNat : Nat) : Int) < (tab_bae91b.length : Int)))) then
   ret (addI 48 (cvBI (List.getD tab_bae91b ((cvUB (shrU (shrU x_ 32) 16))).toNat 0)))
   else fail
  else
  bif (decide ((shrU x_ (32 : Int)) ≥ (256 : Int))) then
   bif ((decide (0 ≤ ((((cvUB (shrU (shrU x_ 32) 8))).toNat : Nat) : Int))) && (decide (((((cvUB (shrU (shrU x_ 32) 8))).toNat : Nat) : Int) < (tab_bae91b.length : Int)))) then
   ret (addI 40 (cvBI (List.getD tab_bae91b ((cvUB (shrU (shrU x_ 32) 8))).toNat 0)))
   else fail
  else
  bif ((decide (0 ≤ ((((cvUB (shrU x_ 32))).toNat : Nat) : Int))) && (decide (((((cvUB (shrU x_ 32))).toNat : Nat) : Int) < (tab_bae91b.length : Int)))) then
  ret (addI 32 (cvBI (List.getD tab_bae91b ((cvUB (shrU x_ 32))).toNat 0)))
  else fail
 else
 bif (decide (x_ ≥ 65536)) then
  bif (decide ((shrU x_ (16 : Int)) ≥ (256 : Int))) then
   bif ((decide (0 ≤ ((((cvUB (shrU (shrU x_ 16) 8))).toNat : Nat) : Int))) && (decide (((((cvUB (shrU (shrU x_ 16) 8))).toNat : Nat) : Int) < (tab_bae91b.length : Int)))) then
   ret (addI 24 (cvBI (List.getD tab_bae91b ((cvUB (shrU (shrU x_ 16) 8))).toNat 0)))
   else fail
  else
  bif ((decide (0 ≤ ((((cvUB (shrU x_ 16))).toNat : Nat) : Int))) && (decide (((((cvUB (shrU x_ 16))).toNat : Nat) : Int) < (tab_bae91b.length : Int)))) then
  ret (addI 16 (cvBI (List.getD tab_bae91b ((cvUB (shrU x_ 16))).toNat 0)))
  else fail
 else
 bif (decide (x_ ≥ 256)) then
  bif ((decide (0 ≤ ((((cvUB (shrU x_ 8))).toNat : Nat) : Int))) && (decide (((((cvUB (shrU x_ 8))).toNat : Nat) : Int) < (tab_bae91b.length : Int)))) then
  ret (addI 8 (cvBI (List.getD tab_bae91b ((cvUB (shrU x_ 8))).toNat 0)))
  else fail
 else
 bif ((decide (0 ≤ ((((cvUB x_)).toNat : Nat) : Int))) && (decide (((((cvUB x_)).toNat : Nat) : Int) < (tab_bae91b.length : Int)))) then
 ret (addI 0 (cvBI (List.getD tab_bae91b ((cvUB x_)).toNat 0)))
 else fail
def bits_Len8 {X : Type} (F : Nat) (x_ : UInt8) (fail : X) (ret : Int → X) : X :=
 bif ((decide (0 ≤ (((x_).toNat : Nat) : Int))) && (decide ((((x_).toNat : Nat) : Int) < (tab_bae91b.length : Int)))) then
 ret (cvBI (List.getD tab_bae91b (x_).toNat 0))
 else fail
def bits_Len {X : Type} (F : Nat) (x_ : Int) (fail : X) (ret : Int → X) : X :=
 bif (bits_Len64_P x_) then
 ret (bits_Len64_r x_)
 else fail
def bits_LeadingZeros8 {X : Type} (F : Nat) (x_ : UInt8) (fail : X) (ret : Int → X) : X :=
 ret (subI 8 (bits_Len8_r x_))
def wire_number {X : Type} (F : Nat) (n : Int) (fail : X) (ret : Int → X) : X :=
 bif (decide (n < 0)) then
  ret 0
 else
 bif (decide (n > 9007199254740991)) then
  ret 0
 else
 ret n
def wire_further {X : Type} (F : Nat) (n : Int) (fail : X) (ret : Int → X) : X :=
 bif (bits_Len_P (cvIU n)) then
 ret (quoI (maxI 0 (subI (bits_Len_r (cvIU n)) 1)) 7)
 else fail
def clone_byte {X : Type} (F : Nat) (s : ZB) (fail : X) (both : X → X → X) (ret : ZB → X) : X :=
 bif (List.isEmpty s) then
  both (
   ret ([] : ZB)) (
   bif (decide (s.length ≤ big)) then
   ret s
   else fail)
 else
 bif (decide (s.length ≤ big)) then
 ret s
 else fail
def wire_put_l1 {X : Type} (F : Nat) (fail : X) (next ex0 : Int → Int → ZB → X) (n i : Int) (dst : ZB) : X :=
 bif (decide (i ≥ 0)) then
  bif (decide (0 ≤ (mulI 8 i))) then
  bif (decide ((dst ++ ([(cvIB (shrI n (mulI (8 : Int) i)))] : ZB)).length ≤ big)) then
  next n (subI i (1 : Int)) (dst ++ ([(cvIB (shrI n (mulI (8 : Int) i)))] : ZB))
  else fail
  else fail
 else
 ex0 n i dst
def wire_put_l1F {X : Type} (F : Nat) (fail : X) (ex0 : Int → Int → ZB → X) : Nat → Int → Int → ZB → X
 | 0, _, _, _ => fail
 | m + 1, n, i, dst => wire_put_l1 F fail (wire_put_l1F F fail ex0 m) ex0 n i dst
def wire_put {X : Type} (F : Nat) (dst : ZB) (n : Int) (fail : X) (ret : ZB → X) : X :=
 bif (wire_further_P (wire_number_r n)) then
 bif (decide (0 ≤ (subI 8 (wire_further_r (wire_number_r n))))) then
 bif (decide (0 ≤ (mulI 8 (wire_further_r (wire_number_r n))))) then
 bif (decide ((dst ++ ([(orB (shlB (255 : UInt8) (subI (8 : Int) (wire_further_r (wire_number_r n)))) (cvIB (shrI (wire_number_r n) (mulI (8 : Int) (wire_further_r (wire_number_r n))))))] : ZB)).length ≤ big)) then
 wire_put_l1F F fail
  (fun n1 i dst1 =>
   ret dst1)
  F (wire_number_r n) (subI (wire_further_r (wire_number_r n)) (1 : Int)) (dst ++ ([(orB (shlB (255 : UInt8) (subI (8 : Int) (wire_further_r (wire_number_r n)))) (cvIB (shrI (wire_number_r n) (mulI (8 : Int) (wire_further_r (wire_number_r n))))))] : ZB))
 else fail
 else fail
 else fail
 else fail
def wire_PutInt {X : Type} (F : Nat) (dst : ZB) (n : Int) (fail : X) (ret : ZB → X) : X :=
 bif (clone_byte_P dst) then
 bif (wire_put_P (clone_byte_r dst) n) then
 ret (wire_put_r (clone_byte_r dst) n)
 else fail
 else fail
def wire_Int_l1 {X : Type} (F : Nat) (fail : X) (next ex0 : ZB → Int → Int → ZB → Int → Int → X) (src : ZB) (k n : Int) (s33 : ZB) (s34 s35 : Int) : X :=
 bif (decide (s35 < s34)) then
  bif ((decide (0 ≤ s35)) && (decide (s35 < (s33.length : Int)))) then
  next src k (orI (shlI n 8) (cvBI (List.getD s33 (s35).toNat 0))) s33 s34 (addI s35 1)
  else fail
 else
 ex0 src k n s33 s34 s35
def wire_Int_l1F {X : Type} (F : Nat) (fail : X) (ex0 : ZB → Int → Int → ZB → Int → Int → X) : Nat → ZB → Int → Int → ZB → Int → Int → X
 | 0, _, _, _, _, _, _ => fail
 | m + 1, src, k, n, s33, s34, s35 => wire_Int_l1 F fail (wire_Int_l1F F fail ex0 m) ex0 src k n s33 s34 s35
def wire_Int {X : Type} (F : Nat) (src : ZB) (fail : X) (ret : Int → ZB → Int → X) : X :=
 bif ((src.length : Int) == 0) then
  ret 0 ([] : ZB) 9
 else
 bif (decide (0 < (src.length : Int))) then
 bif (decide ((bits_LeadingZeros8_r (notB (List.getD src 0 0))) > 7)) then
  ret 0 ([] : ZB) 3
 else
 bif (decide ((src.length : Int) ≤ (bits_LeadingZeros8_r (notB (List.getD src 0 0))))) then
  ret 0 ([] : ZB) 9
 else
 bif (decide (0 < (src.length : Int))) then
 bif (decide (0 ≤ (bits_LeadingZeros8_r (notB (List.getD src 0 0))))) then
 bif ((decide (1 ≤ (addI (bits_LeadingZeros8_r (notB (List.getD src 0 0))) 1))) && (decide ((addI (bits_LeadingZeros8_r (notB (List.getD src 0 0))) 1) ≤ (src.length : Int)))) then
 wire_Int_l1F F fail
  (fun src1 k n s33 s34 s35 =>
   bif (decide (n > 9007199254740991)) then
    ret 0 ([] : ZB) 3
   else
   bif (wire_further_P n) then
   bif ((wire_further_r n) != k) then
    ret 0 ([] : ZB) 3
   else
   bif ((decide (0 ≤ (addI k 1))) && (decide ((addI k 1) ≤ (src1.length : Int)))) then
   bif (clone_byte_P (List.drop ((addI k 1)).toNat src1)) then
   ret n (clone_byte_r (List.drop ((addI k 1)).toNat src1)) 0
   else fail
   else fail
   else fail)
  F src (bits_LeadingZeros8_r (notB (List.getD src 0 0))) (cvBI (andB (List.getD src 0 0) (shrB 127 (bits_LeadingZeros8_r (notB (List.getD src 0 0)))))) (List.drop 1 (List.take ((addI (bits_LeadingZeros8_r (notB (List.getD src 0 0))) 1)).toNat src)) (((List.drop 1 (List.take ((addI (bits_LeadingZeros8_r (notB (List.getD src 0 0))) 1)).toNat src)).length : Nat) : Int) 0
 else fail
 else fail
 else fail
 else fail
end Go.AI
namespace Go.AI
open Go
set_option linter.unusedVariables false
def wire_PutBytes_l1 {X : Type} (F : Nat) (fail : X) (next ex0 : ZB → Int → Int → ZB → X) (s14 : ZB) (s15 s16 : Int) (dst : ZB) : X :=
 bif (decide (s16 < s15)) then
  bif ((decide (0 ≤ s16)) && (decide (s16 < (s14.length : Int)))) then
  bif (decide ((dst ++ ([(List.getD s14 (s16).toNat (0 : UInt8))] : ZB)).length ≤ big)) then
  next s14 s15 (addI s16 (1 : Int)) (dst ++ ([(List.getD s14 (s16).toNat (0 : UInt8))] : ZB))
  else fail
  else fail
 else
 ex0 s14 s15 s16 dst
def wire_PutBytes_l1F {X : Type} (F : Nat) (fail : X) (ex0 : ZB → Int → Int → ZB → X) : Nat → ZB → Int → Int → ZB → X
 | 0, _, _, _, _ => fail
 | m + 1, s14, s15, s16, dst => wire_PutBytes_l1 F fail (wire_PutBytes_l1F F fail ex0 m) ex0 s14 s15 s16 dst
def wire_PutBytes {X : Type} (F : Nat) (dst b : ZB) (fail : X) (ret : ZB → X) : X :=
 bif (clone_byte_P dst) then
 bif (wire_put_P (clone_byte_r dst) (b.length : Int)) then
 wire_PutBytes_l1F F fail
  (fun s14 s15 s16 dst1 =>
   ret dst1)
  F b (b.length : Int) 0 (wire_put_r (clone_byte_r dst) (b.length : Int))
 else fail
 else fail
def wire_Bytes {X : Type} (F : Nat) (src : ZB) (fail : X) (ret : ZB → ZB → Int → X) : X :=
 bif (wire_Int_P src) then
 bif ((wire_Int_r2 src) == 0) then
  bif (decide ((wire_Int_r0 src) > 65536)) then
   ret ([] : ZB) ([] : ZB) 5
  else
  bif ((wire_Int_r2 src) != 0) then
   ret ([] : ZB) ([] : ZB) (wire_Int_r2 src)
  else
  bif (decide ((((wire_Int_r1 src).length : Nat) : Int) < (wire_Int_r0 src))) then
   ret ([] : ZB) ([] : ZB) 9
  else
  bif ((decide (0 ≤ (wire_Int_r0 src))) && (decide ((wire_Int_r0 src) ≤ (((wire_Int_r1 src).length : Nat) : Int)))) then
  bif (clone_byte_P (List.take ((wire_Int_r0 src)).toNat (wire_Int_r1 src))) then
  bif ((decide (0 ≤ (wire_Int_r0 src))) && (decide ((wire_Int_r0 src) ≤ (((wire_Int_r1 src).length : Nat) : Int)))) then
  bif (clone_byte_P (List.drop ((wire_Int_r0 src)).toNat (wire_Int_r1 src))) then
  ret (clone_byte_r (List.take ((wire_Int_r0 src)).toNat (wire_Int_r1 src))) (clone_byte_r (List.drop ((wire_Int_r0 src)).toNat (wire_Int_r1 src))) 0
  else fail
  else fail
  else fail
  else fail
 else
 bif ((wire_Int_r2 src) != 0) then
  ret ([] : ZB) ([] : ZB) (wire_Int_r2 src)
 else
 bif (decide ((((wire_Int_r1 src).length : Nat) : Int) < (wire_Int_r0 src))) then
  ret ([] : ZB) ([] : ZB) 9
 else
 bif ((decide (0 ≤ (wire_Int_r0 src))) && (decide ((wire_Int_r0 src) ≤ (((wire_Int_r1 src).length : Nat) : Int)))) then
 bif (clone_byte_P (List.take ((wire_Int_r0 src)).toNat (wire_Int_r1 src))) then
 bif ((decide (0 ≤ (wire_Int_r0 src))) && (decide ((wire_Int_r0 src) ≤ (((wire_Int_r1 src).length : Nat) : Int)))) then
 bif (clone_byte_P (List.drop ((wire_Int_r0 src)).toNat (wire_Int_r1 src))) then
 ret (clone_byte_r (List.take ((wire_Int_r0 src)).toNat (wire_Int_r1 src))) (clone_byte_r (List.drop ((wire_Int_r0 src)).toNat (wire_Int_r1 src))) 0
 else fail
 else fail
 else fail
 else fail
 else fail
end Go.AI
namespace Go.AI
open Go
set_option linter.unusedVariables false
def padded_l1 {X : Type} (F : Nat) (fail : X) (next ex0 : UInt8 → Int → Int → ZB → X) (by_ : UInt8) (s19 s20 : Int) (out : ZB) : X :=
 bif (decide (s20 < s19)) then
  bif ((decide (0 ≤ s20)) && (decide (s20 < (out.length : Int)))) then
  bif ((decide (0 ≤ s20)) && (decide (s20 < (out.length : Int)))) then
  next by_ s19 (addI s20 1) (List.set out (s20).toNat (xorB (List.getD out (s20).toNat 0) by_))
  else fail
  else fail
 else
 ex0 by_ s19 s20 out
def padded_l1F {X : Type} (F : Nat) (fail : X) (ex0 : UInt8 → Int → Int → ZB → X) : Nat → UInt8 → Int → Int → ZB → X
 | 0, _, _, _, _ => fail
 | m + 1, by_, s19, s20, out => padded_l1 F fail (padded_l1F F fail ex0 m) ex0 by_ s19 s20 out
def padded {X : Type} (F : Nat) (key : ZB) (by_ : UInt8) (fail : X) (ret : ZB → X) : X :=
 bif (decide ((key.length : Int) > 64)) then
  bif (dSum_P key) then
  bif (decide (64 ≤ ((big : Nat) : Int))) then
  padded_l1F F fail
   (fun by_1 s19 s20 out =>
    ret out)
   F by_ (((((List.take 0 (List.replicate 64 (0 : UInt8))) ++ (List.take (min (List.take 32 (dSum_r key)).length (List.replicate 64 (0 : UInt8)).length) (List.take 32 (dSum_r key)))) ++ (List.drop (0 + (min (List.take 32 (dSum_r key)).length (List.replicate 64 (0 : UInt8)).length)) (List.replicate 64 (0 : UInt8)))).length : Nat) : Int) (0 : Int) (((List.take 0 (List.replicate 64 (0 : UInt8))) ++ (List.take (min (List.take 32 (dSum_r key)).length (List.replicate 64 (0 : UInt8)).length) (List.take 32 (dSum_r key)))) ++ (List.drop (0 + (min (List.take 32 (dSum_r key)).length (List.replicate 64 (0 : UInt8)).length)) (List.replicate 64 (0 : UInt8))))
  else fail
  else fail
 else
 bif (decide (64 ≤ ((big : Nat) : Int))) then
 padded_l1F F fail
  (fun by_2 s191 s201 out1 =>
   ret out1)
  F by_ (((((List.take 0 (List.replicate 64 (0 : UInt8))) ++ (List.take (min key.length (List.replicate 64 (0 : UInt8)).length) key)) ++ (List.drop (0 + (min key.length (List.replicate 64 (0 : UInt8)).length)) (List.replicate 64 (0 : UInt8)))).length : Nat) : Int) (0 : Int) (((List.take 0 (List.replicate 64 (0 : UInt8))) ++ (List.take (min key.length (List.replicate 64 (0 : UInt8)).length) key)) ++ (List.drop (0 + (min key.length (List.replicate 64 (0 : UInt8)).length)) (List.replicate 64 (0 : UInt8))))
 else fail
def dMac {X : Type} (F : Nat) (key b : ZB) (fail : X) (ret : ZB → X) : X :=
 bif (hNew_P) then
 bif (padded_P key 54) then
 bif (hwrite_P (hNew_r) (padded_r key 54)) then
 bif (hwrite_P (hwrite_r (hNew_r) (padded_r key 54)) b) then
 bif (hfinish_P (hwrite_r (hwrite_r (hNew_r) (padded_r key 54)) b)) then
 bif (hNew_P) then
 bif (padded_P key 92) then
 bif (hwrite_P (hNew_r) (padded_r key 92)) then
 bif (hwrite_P (hwrite_r (hNew_r) (padded_r key 92)) (List.take 32 (hfinish_r (hwrite_r (hwrite_r (hNew_r) (padded_r key 54)) b)))) then
 bif (hfinish_P (hwrite_r (hwrite_r (hNew_r) (padded_r key 92)) (List.take 32 (hfinish_r (hwrite_r (hwrite_r (hNew_r) (padded_r key 54)) b))))) then
 ret (hfinish_r (hwrite_r (hwrite_r (hNew_r) (padded_r key 92)) (List.take 32 (hfinish_r (hwrite_r (hwrite_r (hNew_r) (padded_r key 54)) b)))))
 else fail
 else fail
 else fail
 else fail
 else fail
 else fail
 else fail
 else fail
 else fail
 else fail
end Go.AI
namespace Go.AI
open Go
set_option linter.unusedVariables false
def cKeys {X : Type} (F : Nat) (key : ZB) (fail : X) (ret : ZB → ZB → X) : X :=
 bif (dMac_P key ([101, 110, 99, 114, 121, 112, 116] : ZB)) then
 bif (dMac_P key ([97, 117, 116, 104, 101, 110, 116, 105, 99, 97, 116, 101] : ZB)) then
 ret (dMac_r key ([101, 110, 99, 114, 121, 112, 116] : ZB)) (dMac_r key ([97, 117, 116, 104, 101, 110, 116, 105, 99, 97, 116, 101] : ZB))
 else fail
 else fail
def cTag_l1 {X : Type} (F : Nat) (fail : X) (next ex0 : Int → ZB → Int → ZB → ZB → X) (nonce : Int) (b : ZB) (s10 : Int) (key l : ZB) : X :=
 bif (decide (s10 < 8)) then
  bif (decide (0 ≤ (mulI 8 s10))) then
  bif (decide ((l ++ ([(cvIB (shrI nonce (mulI (8 : Int) s10)))] : ZB)).length ≤ big)) then
  next nonce b (addI s10 (1 : Int)) key (l ++ ([(cvIB (shrI nonce (mulI (8 : Int) s10)))] : ZB))
  else fail
  else fail
 else
 ex0 nonce b s10 key l
def cTag_l1F {X : Type} (F : Nat) (fail : X) (ex0 : Int → ZB → Int → ZB → ZB → X) : Nat → Int → ZB → Int → ZB → ZB → X
 | 0, _, _, _, _, _ => fail
 | m + 1, nonce, b, s10, key, l => cTag_l1 F fail (cTag_l1F F fail ex0 m) ex0 nonce b s10 key l
def cTag {X : Type} (F : Nat) (key : ZB) (nonce : Int) (b : ZB) (fail : X) (ret : ZB → X) : X :=
 cTag_l1F F fail
  (fun nonce1 b1 s10 key1 l =>
   bif (decide ((l ++ b1).length ≤ big)) then
   bif (dMac_P (List.take 32 key1) (l ++ b1)) then
   ret (List.take 16 (dMac_r (List.take 32 key1) (l ++ b1)))
   else fail
   else fail)
  F nonce b 0 key ([] : ZB)
def cUsable {X : Type} (F : Nat) (key : ZB) (fail : X) (ret : Bool → X) : X :=
 bif (decide ((key.length : Int) ≥ 1)) then
  ret (decide ((key.length : Int) ≤ 64))
 else
 ret false
def cSeal_l1 {X : Type} (F : Nat) (fail : X) (next ex0 : Int → Int → ZB → Int → ZB → ZB → ZB → ZB → ZB → X) (nonce s10 : Int) (key : ZB) (nonce1 : Int) (b b1 key1 l authenticate : ZB) : X :=
 bif (decide (s10 < 8)) then
  bif (decide (0 ≤ (mulI 8 s10))) then
  bif (decide ((l ++ ([(cvIB (shrI nonce (mulI (8 : Int) s10)))] : ZB)).length ≤ big)) then
  next nonce (addI s10 (1 : Int)) key nonce1 b b1 key1 (l ++ ([(cvIB (shrI nonce (mulI (8 : Int) s10)))] : ZB)) authenticate
  else fail
  else fail
 else
 ex0 nonce s10 key nonce1 b b1 key1 l authenticate
def cSeal_l1F {X : Type} (F : Nat) (fail : X) (ex0 : Int → Int → ZB → Int → ZB → ZB → ZB → ZB → ZB → X) : Nat → Int → Int → ZB → Int → ZB → ZB → ZB → ZB → ZB → X
 | 0, _, _, _, _, _, _, _, _, _ => fail
 | m + 1, nonce, s10, key, nonce1, b, b1, key1, l, authenticate => cSeal_l1 F fail (cSeal_l1F F fail ex0 m) ex0 nonce s10 key nonce1 b b1 key1 l authenticate
def cSeal {X : Type} (F : Nat) (key : ZB) (nonce : Int) (b : ZB) (fail : X) (ret : ZB → Int → X) : X :=
 bif (!(cUsable_r key)) then
  ret ([] : ZB) 1
 else
 bif (decide ((b.length : Int) > 65520)) then
  ret ([] : ZB) 5
 else
 bif (cKeys_P key) then
 bif (cStream_P (cKeys_r0 key) nonce b) then
 bif ((cStream_r1 (cKeys_r0 key) nonce b) != 0) then
  ret ([] : ZB) (cStream_r1 (cKeys_r0 key) nonce b)
 else
 cSeal_l1F F fail
  (fun nonce1 s10 key1 nonce2 b1 b2 key2 l authenticate =>
   bif (decide ((l ++ b2).length ≤ big)) then
   bif (dMac_P (List.take 32 key2) (l ++ b2)) then
   bif (decide ((b2 ++ (List.take 16 (dMac_r (List.take 32 key2) (l ++ b2)))).length ≤ big)) then
   ret (b2 ++ (List.take 16 (dMac_r (List.take 32 key2) (l ++ b2)))) (0 : Int)
   else fail
   else fail
   else fail)
  F nonce 0 key nonce b (cStream_r0 (cKeys_r0 key) nonce b) (cKeys_r1 key) ([] : ZB) (cKeys_r1 key)
 else fail
 else fail
def cOpen {X : Type} (F : Nat) (key : ZB) (nonce : Int) (b : ZB) (fail : X) (ret : ZB → Int → X) : X :=
 bif (!(cUsable_r key)) then
  ret ([] : ZB) 1
 else
 bif (decide ((b.length : Int) > 65536)) then
  ret ([] : ZB) 5
 else
 bif (!(cRange_r nonce)) then
  ret ([] : ZB) 2
 else
 bif (decide ((subI ((b.length : Nat) : Int) (16 : Int)) < (0 : Int))) then
  ret ([] : ZB) 9
 else
 bif (cKeys_P key) then
 bif ((decide (0 ≤ (subI (b.length : Int) 16))) && (decide ((subI (b.length : Int) 16) ≤ (b.length : Int)))) then
 bif (cTag_P (cKeys_r1 key) nonce (List.take ((subI (b.length : Int) 16)).toNat b)) then
 bif ((decide (0 ≤ (subI (b.length : Int) 16))) && (decide ((subI (b.length : Int) 16) ≤ (b.length : Int)))) then
 bif (equal_byte_P (cTag_r (cKeys_r1 key) nonce (List.take ((subI (b.length : Int) 16)).toNat b)) (List.drop ((subI (b.length : Int) 16)).toNat b)) then
 bif (!(equal_byte_r (cTag_r (cKeys_r1 key) nonce (List.take ((subI (b.length : Int) 16)).toNat b)) (List.drop ((subI (b.length : Int) 16)).toNat b))) then
  ret ([] : ZB) 25
 else
 bif ((decide (0 ≤ (subI (b.length : Int) 16))) && (decide ((subI (b.length : Int) 16) ≤ (b.length : Int)))) then
 bif (cStream_P (cKeys_r0 key) nonce (List.take ((subI (b.length : Int) 16)).toNat b)) then
 ret (cStream_r0 (cKeys_r0 key) nonce (List.take ((subI (b.length : Int) 16)).toNat b)) (cStream_r1 (cKeys_r0 key) nonce (List.take ((subI (b.length : Int) 16)).toNat b))
 else fail
 else fail
 else fail
 else fail
 else fail
 else fail
 else fail
def equal_byte_l1 {X : Type} (F : Nat) (fail : X) (next ex0 ex1 : ZB → ZB → Bool → Int → Int → X) (s1 s2 : ZB) (s4 : Bool) (s12 s13 : Int) : X :=
 bif (decide (s13 < s12)) then
  bif ((decide (0 ≤ s13)) && (decide (s13 < (s1.length : Int)))) then
  bif ((decide (0 ≤ s13)) && (decide (s13 < (s2.length : Int)))) then
  bif (((((List.getD s1 (s13).toNat 0)).toNat : Nat) : Int) != ((((List.getD s2 (s13).toNat 0)).toNat : Nat) : Int)) then
   ex0 s1 s2 false s12 s13
  else
  next s1 s2 s4 s12 (addI s13 1)
  else fail
  else fail
 else
 ex1 s1 s2 s4 s12 s13
def equal_byte_l1F {X : Type} (F : Nat) (fail : X) (ex0 ex1 : ZB → ZB → Bool → Int → Int → X) : Nat → ZB → ZB → Bool → Int → Int → X
 | 0, _, _, _, _, _ => fail
 | m + 1, s1, s2, s4, s12, s13 => equal_byte_l1 F fail (equal_byte_l1F F fail ex0 ex1 m) ex0 ex1 s1 s2 s4 s12 s13
def equal_byte {X : Type} (F : Nat) (s1 s2 : ZB) (fail : X) (ret : Bool → X) : X :=
 bif ((s1.length : Int) != (s2.length : Int)) then
  ret false
 else
 equal_byte_l1F F fail
  (fun s11 s21 s4 s12 s13 =>
   ret s4)
  (fun s14 s22 s41 s121 s131 =>
   ret true)
  F s1 s2 false (s1.length : Int) 0
end Go.AI
namespace Go.AI
open Go
set_option linter.unusedVariables false
def rol32 {X : Type} (F : Nat) (x_ : UInt32) (k : Int) (fail : X) (ret : UInt32 → X) : X :=
 ret (orW (shlW x_ (andU (cvIU k) 31)) (shrW x_ (subU 32 (andU (cvIU k) 31))))
def cFirst_l2 {X : Type} (F : Nat) (fail : X) (next ex0 : Int → Int → Int → Int → Int → ZB → ZW → ZW → X) (nonce counter i s11 s14 : Int) (key : ZB) (s6 w : ZW) : X :=
 bif (decide (s14 < 4)) then
  bif ((decide (0 ≤ (addI 4 i))) && (decide ((addI 4 i) < (16 : Int)))) then
  bif ((decide (0 ≤ (addI (mulI 4 i) s14))) && (decide ((addI (mulI 4 i) s14) < (32 : Int)))) then
  bif (decide (0 ≤ (mulI 8 s14))) then
  bif ((decide (0 ≤ (addI 4 i))) && (decide ((addI 4 i) < (16 : Int)))) then
  next nonce counter i s11 (addI s14 1) key s6 (List.set w ((addI 4 i)).toNat (orW (List.getD w ((addI 4 i)).toNat 0) (shlW (cvBW (List.getD key ((addI (mulI 4 i) s14)).toNat 0)) (mulI 8 s14))))
  else fail
  else fail
  else fail
  else fail
 else
 ex0 nonce counter i s11 s14 key s6 w
def cFirst_l2F {X : Type} (F : Nat) (fail : X) (ex0 : Int → Int → Int → Int → Int → ZB → ZW → ZW → X) : Nat → Int → Int → Int → Int → Int → ZB → ZW → ZW → X
 | 0, _, _, _, _, _, _, _, _ => fail
 | m + 1, nonce, counter, i, s11, s14, key, s6, w => cFirst_l2 F fail (cFirst_l2F F fail ex0 m) ex0 nonce counter i s11 s14 key s6 w
def cFirst_l1 {X : Type} (F : Nat) (fail : X) (next ex0 : Int → Int → Int → ZB → ZW → ZW → X) (nonce counter s11 : Int) (key : ZB) (s6 w : ZW) : X :=
 bif (decide (s11 < 8)) then
  cFirst_l2F F fail
   (fun nonce1 counter1 i s111 s14 key1 s61 w1 =>
    next nonce1 counter1 (addI s111 1) key1 s61 w1)
   F nonce counter s11 s11 0 key s6 w
 else
 ex0 nonce counter s11 key s6 w
def cFirst_l1F {X : Type} (F : Nat) (fail : X) (ex0 : Int → Int → Int → ZB → ZW → ZW → X) : Nat → Int → Int → Int → ZB → ZW → ZW → X
 | 0, _, _, _, _, _, _ => fail
 | m + 1, nonce, counter, s11, key, s6, w => cFirst_l1 F fail (cFirst_l1F F fail ex0 m) ex0 nonce counter s11 key s6 w
def cFirst {X : Type} (F : Nat) (key : ZB) (nonce counter : Int) (fail : X) (ret : ZW → X) : X :=
 cFirst_l1F F fail
  (fun nonce1 counter1 s11 key1 s6 w =>
   ret (List.set (List.set (List.set w 12 (cvIW counter1)) 14 (cvIW nonce1)) 15 (cvIW (shrI nonce1 32))))
  F nonce counter 0 key ([0, 0, 0, 0, 0, 0, 0, 0, 0, 0, 0, 0, 0, 0, 0, 0] : ZW) ([1634760805, 857760878, 2036477234, 1797285236, 0, 0, 0, 0, 0, 0, 0, 0, 0, 0, 0, 0] : ZW)
def cBlk_l3 {X : Type} (F : Nat) (fail : X) (next ex0 : List (Int × ZL) → Int → Int → Int → ZW → ZW → X) (s30 : List (Int × ZL)) (s31 s7 s9 : Int) (w w1 : ZW) : X :=
 bif (decide (s31 < 4)) then
  bif ((decide (0 ≤ s31)) && (decide (s31 < (4 : Int)))) then
  bif ((decide (0 ≤ (List.getD s30 (s31).toNat (0, (0, (0, (0, ()))))).1)) && (decide ((List.getD s30 (s31).toNat (0, (0, (0, (0, ()))))).1 < (16 : Int)))) then
  bif ((decide (0 ≤ (List.getD s30 (s31).toNat (0, (0, (0, (0, ()))))).2.1)) && (decide ((List.getD s30 (s31).toNat (0, (0, (0, (0, ()))))).2.1 < (16 : Int)))) then
  bif ((decide (0 ≤ (List.getD s30 (s31).toNat (0, (0, (0, (0, ()))))).1)) && (decide ((List.getD s30 (s31).toNat (0, (0, (0, (0, ()))))).1 < (16 : Int)))) then
  bif ((decide (0 ≤ (List.getD s30 (s31).toNat (0, (0, (0, (0, ()))))).2.2.1)) && (decide ((List.getD s30 (s31).toNat (0, (0, (0, (0, ()))))).2.2.1 < (16 : Int)))) then
  bif ((decide (0 ≤ (List.getD s30 (s31).toNat (0, (0, (0, (0, ()))))).1)) && (decide ((List.getD s30 (s31).toNat (0, (0, (0, (0, ()))))).1 < (16 : Int)))) then
  bif (rol32_P (xorW (List.getD (List.set w ((List.getD s30 (s31).toNat (0, (0, (0, (0, ()))))).1).toNat (addW (List.getD w ((List.getD s30 (s31).toNat (0, (0, (0, (0, ()))))).1).toNat 0) (List.getD w ((List.getD s30 (s31).toNat (0, (0, (0, (0, ()))))).2.1).toNat 0))) ((List.getD s30 (s31).toNat (0, (0, (0, (0, ()))))).2.2.1).toNat 0) (List.getD (List.set w ((List.getD s30 (s31).toNat (0, (0, (0, (0, ()))))).1).toNat (addW (List.getD w ((List.getD s30 (s31).toNat (0, (0, (0, (0, ()))))).1).toNat 0) (List.getD w ((List.getD s30 (s31).toNat (0, (0, (0, (0, ()))))).2.1).toNat 0))) ((List.getD s30 (s31).toNat (0, (0, (0, (0, ()))))).1).toNat 0)) (List.getD s30 (s31).toNat (0, (0, (0, (0, ()))))).2.2.2.1) then
  bif ((decide (0 ≤ (List.getD s30 (s31).toNat (0, (0, (0, (0, ()))))).2.2.1)) && (decide ((List.getD s30 (s31).toNat (0, (0, (0, (0, ()))))).2.2.1 < (16 : Int)))) then
  next s30 (addI s31 1) s7 s9 (List.set (List.set w ((List.getD s30 (s31).toNat (0, (0, (0, (0, ()))))).1).toNat (addW (List.getD w ((List.getD s30 (s31).toNat (0, (0, (0, (0, ()))))).1).toNat 0) (List.getD w ((List.getD s30 (s31).toNat (0, (0, (0, (0, ()))))).2.1).toNat 0))) ((List.getD s30 (s31).toNat (0, (0, (0, (0, ()))))).2.2.1).toNat (rol32_r (xorW (List.getD (List.set w ((List.getD s30 (s31).toNat (0, (0, (0, (0, ()))))).1).toNat (addW (List.getD w ((List.getD s30 (s31).toNat (0, (0, (0, (0, ()))))).1).toNat 0) (List.getD w ((List.getD s30 (s31).toNat (0, (0, (0, (0, ()))))).2.1).toNat 0))) ((List.getD s30 (s31).toNat (0, (0, (0, (0, ()))))).2.2.1).toNat 0) (List.getD (List.set w ((List.getD s30 (s31).toNat (0, (0, (0, (0, ()))))).1).toNat (addW (List.getD w ((List.getD s30 (s31).toNat (0, (0, (0, (0, ()))))).1).toNat 0) (List.getD w ((List.getD s30 (s31).toNat (0, (0, (0, (0, ()))))).2.1).toNat 0))) ((List.getD s30 (s31).toNat (0, (0, (0, (0, ()))))).1).toNat 0)) (List.getD s30 (s31).toNat (0, (0, (0, (0, ()))))).2.2.2.1)) w1
  else fail
  else fail
  else fail
  else fail
  else fail
  else fail
  else fail
  else fail
 else
 ex0 s30 s31 s7 s9 w w1
def cBlk_l3F {X : Type} (F : Nat) (fail : X) (ex0 : List (Int × ZL) → Int → Int → Int → ZW → ZW → X) : Nat → List (Int × ZL) → Int → Int → Int → ZW → ZW → X
 | 0, _, _, _, _, _, _ => fail
 | m + 1, s30, s31, s7, s9, w, w1 => cBlk_l3 F fail (cBlk_l3F F fail ex0 m) ex0 s30 s31 s7 s9 w w1
def cBlk_l2 {X : Type} (F : Nat) (fail : X) (next ex0 : Int → Int → ZW → ZW → X) (s7 s9 : Int) (change w : ZW) : X :=
 bif (decide (s9 < 4)) then
  cBlk_l3F F fail
   (fun s30 s31 s71 s91 w1 w2 =>
    next s71 (addI s91 1) w1 w2)
   F ([(s9, ((addI 4 s9), ((addI 12 s9), (16, ())))), ((addI 8 s9), ((addI 12 s9), ((addI 4 s9), (12, ())))), (s9, ((addI 4 s9), ((addI 12 s9), (8, ())))), ((addI 8 s9), ((addI 12 s9), ((addI 4 s9), (7, ()))))] : List (Int × ZL)) 0 s7 s9 change w
 else
 ex0 s7 s9 change w
def cBlk_l2F {X : Type} (F : Nat) (fail : X) (ex0 : Int → Int → ZW → ZW → X) : Nat → Int → Int → ZW → ZW → X
 | 0, _, _, _, _ => fail
 | m + 1, s7, s9, change, w => cBlk_l2 F fail (cBlk_l2F F fail ex0 m) ex0 s7 s9 change w
def cBlk_l5 {X : Type} (F : Nat) (fail : X) (next ex0 : List (Int × ZL) → Int → Int → Int → ZW → ZW → X) (s30 : List (Int × ZL)) (s31 s7 s22 : Int) (w w1 : ZW) : X :=
 bif (decide (s31 < 4)) then
  bif ((decide (0 ≤ s31)) && (decide (s31 < (4 : Int)))) then
  bif ((decide (0 ≤ (List.getD s30 (s31).toNat (0, (0, (0, (0, ()))))).1)) && (decide ((List.getD s30 (s31).toNat (0, (0, (0, (0, ()))))).1 < (16 : Int)))) then
  bif ((decide (0 ≤ (List.getD s30 (s31).toNat (0, (0, (0, (0, ()))))).2.1)) && (decide ((List.getD s30 (s31).toNat (0, (0, (0, (0, ()))))).2.1 < (16 : Int)))) then
  bif ((decide (0 ≤ (List.getD s30 (s31).toNat (0, (0, (0, (0, ()))))).1)) && (decide ((List.getD s30 (s31).toNat (0, (0, (0, (0, ()))))).1 < (16 : Int)))) then
  bif ((decide (0 ≤ (List.getD s30 (s31).toNat (0, (0, (0, (0, ()))))).2.2.1)) && (decide ((List.getD s30 (s31).toNat (0, (0, (0, (0, ()))))).2.2.1 < (16 : Int)))) then
  bif ((decide (0 ≤ (List.getD s30 (s31).toNat (0, (0, (0, (0, ()))))).1)) && (decide ((List.getD s30 (s31).toNat (0, (0, (0, (0, ()))))).1 < (16 : Int)))) then
  bif (rol32_P (xorW (List.getD (List.set w ((List.getD s30 (s31).toNat (0, (0, (0, (0, ()))))).1).toNat (addW (List.getD w ((List.getD s30 (s31).toNat (0, (0, (0, (0, ()))))).1).toNat 0) (List.getD w ((List.getD s30 (s31).toNat (0, (0, (0, (0, ()))))).2.1).toNat 0))) ((List.getD s30 (s31).toNat (0, (0, (0, (0, ()))))).2.2.1).toNat 0) (List.getD (List.set w ((List.getD s30 (s31).toNat (0, (0, (0, (0, ()))))).1).toNat (addW (List.getD w ((List.getD s30 (s31).toNat (0, (0, (0, (0, ()))))).1).toNat 0) (List.getD w ((List.getD s30 (s31).toNat (0, (0, (0, (0, ()))))).2.1).toNat 0))) ((List.getD s30 (s31).toNat (0, (0, (0, (0, ()))))).1).toNat 0)) (List.getD s30 (s31).toNat (0, (0, (0, (0, ()))))).2.2.2.1) then
  bif ((decide (0 ≤ (List.getD s30 (s31).toNat (0, (0, (0, (0, ()))))).2.2.1)) && (decide ((List.getD s30 (s31).toNat (0, (0, (0, (0, ()))))).2.2.1 < (16 : Int)))) then
  next s30 (addI s31 1) s7 s22 (List.set (List.set w ((List.getD s30 (s31).toNat (0, (0, (0, (0, ()))))).1).toNat (addW (List.getD w ((List.getD s30 (s31).toNat (0, (0, (0, (0, ()))))).1).toNat 0) (List.getD w ((List.getD s30 (s31).toNat (0, (0, (0, (0, ()))))).2.1).toNat 0))) ((List.getD s30 (s31).toNat (0, (0, (0, (0, ()))))).2.2.1).toNat (rol32_r (xorW (List.getD (List.set w ((List.getD s30 (s31).toNat (0, (0, (0, (0, ()))))).1).toNat (addW (List.getD w ((List.getD s30 (s31).toNat (0, (0, (0, (0, ()))))).1).toNat 0) (List.getD w ((List.getD s30 (s31).toNat (0, (0, (0, (0, ()))))).2.1).toNat 0))) ((List.getD s30 (s31).toNat (0, (0, (0, (0, ()))))).2.2.1).toNat 0) (List.getD (List.set w ((List.getD s30 (s31).toNat (0, (0, (0, (0, ()))))).1).toNat (addW (List.getD w ((List.getD s30 (s31).toNat (0, (0, (0, (0, ()))))).1).toNat 0) (List.getD w ((List.getD s30 (s31).toNat (0, (0, (0, (0, ()))))).2.1).toNat 0))) ((List.getD s30 (s31).toNat (0, (0, (0, (0, ()))))).1).toNat 0)) (List.getD s30 (s31).toNat (0, (0, (0, (0, ()))))).2.2.2.1)) w1
  else fail
  else fail
  else fail
  else fail
  else fail
  else fail
  else fail
  else fail
 else
 ex0 s30 s31 s7 s22 w w1
def cBlk_l5F {X : Type} (F : Nat) (fail : X) (ex0 : List (Int × ZL) → Int → Int → Int → ZW → ZW → X) : Nat → List (Int × ZL) → Int → Int → Int → ZW → ZW → X
 | 0, _, _, _, _, _, _ => fail
 | m + 1, s30, s31, s7, s22, w, w1 => cBlk_l5 F fail (cBlk_l5F F fail ex0 m) ex0 s30 s31 s7 s22 w w1
def cBlk_l4 {X : Type} (F : Nat) (fail : X) (next ex0 : Int → Int → ZW → ZW → X) (s7 s22 : Int) (change w : ZW) : X :=
 bif (decide (s22 < 4)) then
  cBlk_l5F F fail
   (fun s30 s31 s71 s221 w1 w2 =>
    next s71 (addI s221 1) w1 w2)
   F ([(s22, ((addI 4 (remI (addI s22 1) 4)), ((addI 12 (remI (addI s22 3) 4)), (16, ())))), ((addI 8 (remI (addI s22 2) 4)), ((addI 12 (remI (addI s22 3) 4)), ((addI 4 (remI (addI s22 1) 4)), (12, ())))), (s22, ((addI 4 (remI (addI s22 1) 4)), ((addI 12 (remI (addI s22 3) 4)), (8, ())))), ((addI 8 (remI (addI s22 2) 4)), ((addI 12 (remI (addI s22 3) 4)), ((addI 4 (remI (addI s22 1) 4)), (7, ()))))] : List (Int × ZL)) 0 s7 s22 change w
 else
 ex0 s7 s22 change w
def cBlk_l4F {X : Type} (F : Nat) (fail : X) (ex0 : Int → Int → ZW → ZW → X) : Nat → Int → Int → ZW → ZW → X
 | 0, _, _, _, _ => fail
 | m + 1, s7, s22, change, w => cBlk_l4 F fail (cBlk_l4F F fail ex0 m) ex0 s7 s22 change w
def cBlk_l1 {X : Type} (F : Nat) (fail : X) (next ex0 : Int → ZW → ZW → X) (s7 : Int) (change w : ZW) : X :=
 bif (decide (s7 < 10)) then
  cBlk_l2F F fail
   (fun s71 s9 change1 w1 =>
    cBlk_l4F F fail
     (fun s72 s22 change2 w2 =>
      next (addI s72 1) change2 w2)
     F s71 0 change1 w1)
   F s7 0 change w
 else
 ex0 s7 change w
def cBlk_l1F {X : Type} (F : Nat) (fail : X) (ex0 : Int → ZW → ZW → X) : Nat → Int → ZW → ZW → X
 | 0, _, _, _ => fail
 | m + 1, s7, change, w => cBlk_l1 F fail (cBlk_l1F F fail ex0 m) ex0 s7 change w
def cBlk_l6 {X : Type} (F : Nat) (fail : X) (next ex0 : ZW → Int → ZW → ZB → X) (s18 : ZW) (s19 : Int) (w : ZW) (out : ZB) : X :=
 bif (decide (s19 < 16)) then
  bif ((decide (0 ≤ s19)) && (decide (s19 < (16 : Int)))) then
  bif ((decide (0 ≤ s19)) && (decide (s19 < (16 : Int)))) then
  bif (decide ((out ++ ([(cvWB (addW (List.getD s18 (s19).toNat (0 : UInt32)) (List.getD w (s19).toNat (0 : UInt32)))), (cvWB (shrW (addW (List.getD s18 (s19).toNat (0 : UInt32)) (List.getD w (s19).toNat (0 : UInt32))) (8 : Int))), (cvWB (shrW (addW (List.getD s18 (s19).toNat (0 : UInt32)) (List.getD w (s19).toNat (0 : UInt32))) (16 : Int))), (cvWB (shrW (addW (List.getD s18 (s19).toNat (0 : UInt32)) (List.getD w (s19).toNat (0 : UInt32))) (24 : Int)))] : ZB)).length ≤ big)) then
  next s18 (addI s19 (1 : Int)) w (out ++ ([(cvWB (addW (List.getD s18 (s19).toNat (0 : UInt32)) (List.getD w (s19).toNat (0 : UInt32)))), (cvWB (shrW (addW (List.getD s18 (s19).toNat (0 : UInt32)) (List.getD w (s19).toNat (0 : UInt32))) (8 : Int))), (cvWB (shrW (addW (List.getD s18 (s19).toNat (0 : UInt32)) (List.getD w (s19).toNat (0 : UInt32))) (16 : Int))), (cvWB (shrW (addW (List.getD s18 (s19).toNat (0 : UInt32)) (List.getD w (s19).toNat (0 : UInt32))) (24 : Int)))] : ZB))
  else fail
  else fail
  else fail
 else
 ex0 s18 s19 w out
def cBlk_l6F {X : Type} (F : Nat) (fail : X) (ex0 : ZW → Int → ZW → ZB → X) : Nat → ZW → Int → ZW → ZB → X
 | 0, _, _, _, _ => fail
 | m + 1, s18, s19, w, out => cBlk_l6 F fail (cBlk_l6F F fail ex0 m) ex0 s18 s19 w out
def cBlk {X : Type} (F : Nat) (key : ZB) (nonce counter : Int) (fail : X) (ret : ZB → X) : X :=
 bif (cFirst_P key nonce counter) then
 cBlk_l1F F fail
  (fun s7 change w =>
   cBlk_l6F F fail
    (fun s18 s19 w1 out =>
     ret out)
    F change 0 w ([] : ZB))
  F 0 (cFirst_r key nonce counter) (cFirst_r key nonce counter)
 else fail
def cRange {X : Type} (F : Nat) (nonce : Int) (fail : X) (ret : Bool → X) : X :=
 bif (decide (nonce ≥ 0)) then
  ret (decide (nonce ≤ 9007199254740991))
 else
 ret false
def cStream_l2 {X : Type} (F : Nat) (fail : X) (next ex0 : Nat → Nat → Int → Int → Int → ZB → Int → Int → ZB → ZB → ZB → Int → Int → X) (part_i part_n : Nat) (s31 s32 i : Int) (b : ZB) (s7 counter : Int) (part s key : ZB) (nonce s2 : Int) : X :=
 bif (decide (s32 < s31)) then
  bif ((decide (0 ≤ s32)) && (decide (s32 < ((part_n : Nat) : Int)))) then
  bif ((decide (0 ≤ s32)) && (decide (s32 < (s.length : Int)))) then
  bif ((decide (0 ≤ s32)) && (decide (s32 < ((part_n : Nat) : Int)))) then
  next part_i part_n s31 (addI s32 1) i b s7 counter (List.set part (part_i + (s32).toNat) (xorB (List.getD part (part_i + (s32).toNat) 0) (List.getD s (s32).toNat 0))) s key nonce s2
  else fail
  else fail
  else fail
 else
 ex0 part_i part_n s31 s32 i b s7 counter part s key nonce s2
def cStream_l2F {X : Type} (F : Nat) (fail : X) (ex0 : Nat → Nat → Int → Int → Int → ZB → Int → Int → ZB → ZB → ZB → Int → Int → X) : Nat → Nat → Nat → Int → Int → Int → ZB → Int → Int → ZB → ZB → ZB → Int → Int → X
 | 0, _, _, _, _, _, _, _, _, _, _, _, _, _ => fail
 | m + 1, part_i, part_n, s31, s32, i, b, s7, counter, part, s, key, nonce, s2 => cStream_l2 F fail (cStream_l2F F fail ex0 m) ex0 part_i part_n s31 s32 i b s7 counter part s key nonce s2
def cStream_l1 {X : Type} (F : Nat) (fail : X) (next ex0 : Int → ZB → Int → ZB → Int → Int → ZB → Int → X) (i : Int) (b : ZB) (s7 : Int) (key : ZB) (nonce counter : Int) (out : ZB) (s2 : Int) : X :=
 bif (decide (i < (out.length : Int))) then
  bif ((decide (0 ≤ i)) && (decide (i ≤ (out.length : Int)))) then
  bif ((((decide (0 ≤ i)) && (decide (i ≤ (addI i (minI s2 (((out.length - (i).toNat) : Nat) : Int)))))) && (decide ((addI i (minI s2 (((out.length - (i).toNat) : Nat) : Int))) ≤ (out.length : Int)))) && ((addI i (minI s2 (((out.length - (i).toNat) : Nat) : Int))) == (addI i (minI s2 (((out.length - (i).toNat) : Nat) : Int))))) then
  bif (cBlk_P key nonce counter) then
  cStream_l2F F fail
   (fun part_i part_n s31 s32 i1 b1 s71 counter1 part s key1 nonce1 s21 =>
    next (addI i1 s21) b1 s71 key1 nonce1 (addI counter1 1) part s21)
   F (i).toNat (((addI i (minI s2 (((out.length - (i).toNat) : Nat) : Int)))).toNat - (i).toNat) (((((addI i (minI s2 (((out.length - (i).toNat) : Nat) : Int)))).toNat - (i).toNat) : Nat) : Int) 0 i b s7 counter out (cBlk_r key nonce counter) key nonce s2
  else fail
  else fail
  else fail
 else
 ex0 i b s7 key nonce counter out s2
def cStream_l1F {X : Type} (F : Nat) (fail : X) (ex0 : Int → ZB → Int → ZB → Int → Int → ZB → Int → X) : Nat → Int → ZB → Int → ZB → Int → Int → ZB → Int → X
 | 0, _, _, _, _, _, _, _, _ => fail
 | m + 1, i, b, s7, key, nonce, counter, out, s2 => cStream_l1 F fail (cStream_l1F F fail ex0 m) ex0 i b s7 key nonce counter out s2
def cStream {X : Type} (F : Nat) (key : ZB) (nonce : Int) (b : ZB) (fail : X) (ret : ZB → Int → X) : X :=
 bif (decide ((b.length : Int) > 65536)) then
  ret ([] : ZB) 5
 else
 bif (!(cRange_r nonce)) then
  ret ([] : ZB) 2
 else
 bif (clone_byte_P b) then
 cStream_l1F F fail
  (fun i b1 s7 key1 nonce1 counter out s2 =>
   ret out 0)
  F 0 b 0 key nonce 1 (clone_byte_r b) 64
 else fail
end Go.AI
namespace Go.AI
open Go
set_option linter.unusedVariables false
def shifted_l1 {X : Type} (F : Nat) (fail : X) (next ex0 : UInt32 → Int → X) (register : UInt32) (s4 : Int) : X :=
 bif (decide (s4 < 8)) then
  bif (((((andW register 1)).toNat : Nat) : Int) == 1) then
   next (xorW (shrW register 1) 3988292384) (addI s4 1)
  else
  next (shrW register 1) (addI s4 1)
 else
 ex0 register s4
def shifted_l1F {X : Type} (F : Nat) (fail : X) (ex0 : UInt32 → Int → X) : Nat → UInt32 → Int → X
 | 0, _, _ => fail
 | m + 1, register, s4 => shifted_l1 F fail (shifted_l1F F fail ex0 m) ex0 register s4
def shifted {X : Type} (F : Nat) (register : UInt32) (fail : X) (ret : UInt32 → X) : X :=
 shifted_l1F F fail
  (fun register1 s4 =>
   ret register1)
  F register 0
def ctable_l1 {X : Type} (F : Nat) (fail : X) (next ex0 : Int → ZW → ZW → X) (s3 : Int) (s0 out : ZW) : X :=
 bif (decide (s3 < 256)) then
  bif (shifted_P (cvIW s3)) then
  bif ((decide (0 ≤ s3)) && (decide (s3 < (256 : Int)))) then
  next (addI s3 1) s0 (List.set out (s3).toNat (shifted_r (cvIW s3)))
  else fail
  else fail
 else
 ex0 s3 s0 out
def ctable_l1F {X : Type} (F : Nat) (fail : X) (ex0 : Int → ZW → ZW → X) : Nat → Int → ZW → ZW → X
 | 0, _, _, _ => fail
 | m + 1, s3, s0, out => ctable_l1 F fail (ctable_l1F F fail ex0 m) ex0 s3 s0 out
def ctable {X : Type} (F : Nat) (fail : X) (ret : ZW → X) : X :=
 ctable_l1F F fail
  (fun s3 s0 out =>
   ret out)
  F (0 : Int) (List.replicate 256 (0 : UInt32)) (List.replicate 256 (0 : UInt32))
def cUpd_l1 {X : Type} (F : Nat) (fail : X) (next ex0 : ZB → Int → Int → UInt32 → UInt32 → UInt32 → ZW → ZB → X) (s5 : ZB) (s6 s7 : Int) (s4 s61 register : UInt32) (t : ZW) (bytes : ZB) : X :=
 bif (decide (s7 < s6)) then
  bif ((decide (0 ≤ s7)) && (decide (s7 < (s5.length : Int)))) then
  bif ((decide (0 ≤ ((((xorB (cvWB register) (List.getD s5 (s7).toNat 0))).toNat : Nat) : Int))) && (decide (((((xorB (cvWB register) (List.getD s5 (s7).toNat 0))).toNat : Nat) : Int) < (256 : Int)))) then
  next s5 s6 (addI s7 1) s4 s61 (xorW (shrW register 8) (List.getD t ((xorB (cvWB register) (List.getD s5 (s7).toNat 0))).toNat 0)) t bytes
  else fail
  else fail
 else
 ex0 s5 s6 s7 s4 s61 register t bytes
def cUpd_l1F {X : Type} (F : Nat) (fail : X) (ex0 : ZB → Int → Int → UInt32 → UInt32 → UInt32 → ZW → ZB → X) : Nat → ZB → Int → Int → UInt32 → UInt32 → UInt32 → ZW → ZB → X
 | 0, _, _, _, _, _, _, _, _ => fail
 | m + 1, s5, s6, s7, s4, s61, register, t, bytes => cUpd_l1 F fail (cUpd_l1F F fail ex0 m) ex0 s5 s6 s7 s4 s61 register t bytes
def cUpd {X : Type} (F : Nat) (sum : UInt32) (b : ZB) (fail : X) (ret : UInt32 → X) : X :=
 bif (ctable_P) then
 cUpd_l1F F fail
  (fun s5 s6 s7 s4 s61 register t bytes =>
   ret (notW register))
  F b (b.length : Int) 0 0 (notW sum) (notW sum) (ctable_r) b
 else fail
def cSum {X : Type} (F : Nat) (b : ZB) (fail : X) (ret : UInt32 → X) : X :=
 bif (cUpd_P 0 b) then
 ret (cUpd_r 0 b)
 else fail
def needed {X : Type} (F : Nat) (length : Int) (fail : X) (ret : Int → X) : X :=
 ret (quoI (subI (addI length 15) 1) 15)
def lPages {X : Type} (F : Nat) (length : Int) (fail : X) (ret : Int → X) : X :=
 bif (decide (length < 0)) then
  ret 0
 else
 bif (decide (length > 65536)) then
  ret 0
 else
 bif (needed_P length) then
 ret (addI (needed_r length) 1)
 else fail
def lCheck {X : Type} (F : Nat) (l : ZL) (fail : X) (ret : Int → X) : X :=
 bif (decide (l.2.2.1 < 2)) then
  ret 2
 else
 bif (decide (l.2.2.1 > 8192)) then
  bif (decide (l.2.2.1 > 8192)) then
   ret 2
  else
  bif (decide (l.2.1 < 0)) then
   ret 3
  else
  bif (decide (l.2.1 ≥ l.1)) then
   ret 3
  else
  ret 0
 else
 bif (decide (l.1 < 1)) then
  ret 2
 else
 bif (decide (l.1 > l.2.2.1)) then
  ret 2
 else
 bif (decide (l.2.1 < 0)) then
  ret 3
 else
 bif (decide (l.2.1 ≥ l.1)) then
  ret 3
 else
 ret 0
def lHead {X : Type} (F : Nat) (fail : X) (ret : ZB → X) : X :=
 ret ((([(3 : UInt8)] : ZB) ++ (List.take (min ([(99 : UInt8), (111 : UInt8), (109 : UInt8), (112 : UInt8), (97 : UInt8), (99 : UInt8), (116 : UInt8), (111 : UInt8), (114 : UInt8), (32 : UInt8), (108 : UInt8), (111 : UInt8), (103 : UInt8), (32 : UInt8), (49 : UInt8)] : ZB).length 15) ([(99 : UInt8), (111 : UInt8), (109 : UInt8), (112 : UInt8), (97 : UInt8), (99 : UInt8), (116 : UInt8), (111 : UInt8), (114 : UInt8), (32 : UInt8), (108 : UInt8), (111 : UInt8), (103 : UInt8), (32 : UInt8), (49 : UInt8)] : ZB))) ++ (List.drop (1 + (min ([(99 : UInt8), (111 : UInt8), (109 : UInt8), (112 : UInt8), (97 : UInt8), (99 : UInt8), (116 : UInt8), (111 : UInt8), (114 : UInt8), (32 : UInt8), (108 : UInt8), (111 : UInt8), (103 : UInt8), (32 : UInt8), (49 : UInt8)] : ZB).length 15)) ([(3 : UInt8), (0 : UInt8), (0 : UInt8), (0 : UInt8), (0 : UInt8), (0 : UInt8), (0 : UInt8), (0 : UInt8), (0 : UInt8), (0 : UInt8), (0 : UInt8), (0 : UInt8), (0 : UInt8), (0 : UInt8), (0 : UInt8), (0 : UInt8)] : ZB)))
def lValue_l1 {X : Type} (F : Nat) (fail : X) (next ex0 : Int → ZB → Int → Int → X) (n : Int) (s6 : ZB) (s7 s8 : Int) : X :=
 bif (decide (s8 < s7)) then
  bif ((decide (0 ≤ s8)) && (decide (s8 < (s6.length : Int)))) then
  next (orI (shlI n 8) (cvBI (List.getD s6 (s8).toNat 0))) s6 s7 (addI s8 1)
  else fail
 else
 ex0 n s6 s7 s8
def lValue_l1F {X : Type} (F : Nat) (fail : X) (ex0 : Int → ZB → Int → Int → X) : Nat → Int → ZB → Int → Int → X
 | 0, _, _, _, _ => fail
 | m + 1, n, s6, s7, s8 => lValue_l1 F fail (lValue_l1F F fail ex0 m) ex0 n s6 s7 s8
def lValue {X : Type} (F : Nat) (from_ : ZB) (fail : X) (ret : Int → X) : X :=
 lValue_l1F F fail
  (fun n s6 s7 s8 =>
   ret n)
  F 0 from_ (from_.length : Int) 0
def lEnd_l1 {X : Type} (F : Nat) (fail : X) (next ex0 : Nat → Nat → Int → Int → Int → ZB → ZB → ZB → X) (to_i to_n : Nat) (n s6 s7 : Int) (payload to s4 : ZB) : X :=
 bif (decide (s7 < s6)) then
  bif (decide (0 ≤ (mulI 8 s7))) then
  bif ((decide (0 ≤ (subI (subI ((to_n : Nat) : Int) 1) s7))) && (decide ((subI (subI ((to_n : Nat) : Int) 1) s7) < ((to_n : Nat) : Int)))) then
  next to_i to_n n s6 (addI s7 1) payload (List.set to (to_i + ((subI (subI ((to_n : Nat) : Int) 1) s7)).toNat) (cvIB (shrI n (mulI 8 s7)))) s4
  else fail
  else fail
 else
 ex0 to_i to_n n s6 s7 payload to s4
def lEnd_l1F {X : Type} (F : Nat) (fail : X) (ex0 : Nat → Nat → Int → Int → Int → ZB → ZB → ZB → X) : Nat → Nat → Nat → Int → Int → Int → ZB → ZB → ZB → X
 | 0, _, _, _, _, _, _, _, _ => fail
 | m + 1, to_i, to_n, n, s6, s7, payload, to, s4 => lEnd_l1 F fail (lEnd_l1F F fail ex0 m) ex0 to_i to_n n s6 s7 payload to s4
def lEnd_l2 {X : Type} (F : Nat) (fail : X) (next ex0 : Nat → Nat → Int → Int → Int → ZB → Nat → Nat → ZB → ZB → X) (to_i to_n : Nat) (n s6 s7 : Int) (payload : ZB) (s10_i s10_n : Nat) (to s4 : ZB) : X :=
 bif (decide (s7 < s6)) then
  bif (decide (0 ≤ (mulI 8 s7))) then
  bif ((decide (0 ≤ (subI (subI ((to_n : Nat) : Int) 1) s7))) && (decide ((subI (subI ((to_n : Nat) : Int) 1) s7) < ((to_n : Nat) : Int)))) then
  next to_i to_n n s6 (addI s7 1) payload s10_i s10_n (List.set to (to_i + ((subI (subI ((to_n : Nat) : Int) 1) s7)).toNat) (cvIB (shrI n (mulI 8 s7)))) s4
  else fail
  else fail
 else
 ex0 to_i to_n n s6 s7 payload s10_i s10_n to s4
def lEnd_l2F {X : Type} (F : Nat) (fail : X) (ex0 : Nat → Nat → Int → Int → Int → ZB → Nat → Nat → ZB → ZB → X) : Nat → Nat → Nat → Int → Int → Int → ZB → Nat → Nat → ZB → ZB → X
 | 0, _, _, _, _, _, _, _, _, _, _ => fail
 | m + 1, to_i, to_n, n, s6, s7, payload, s10_i, s10_n, to, s4 => lEnd_l2 F fail (lEnd_l2F F fail ex0 m) ex0 to_i to_n n s6 s7 payload s10_i s10_n to s4
def lEnd_l3 {X : Type} (F : Nat) (fail : X) (next ex0 : Nat → Nat → Int → Int → Int → ZB → Nat → Nat → Nat → Nat → ZB → ZB → X) (to_i to_n : Nat) (n s6 s7 : Int) (payload : ZB) (s10_i s10_n s19_i s19_n : Nat) (to s4 : ZB) : X :=
 bif (decide (s7 < s6)) then
  bif (decide (0 ≤ (mulI 8 s7))) then
  bif ((decide (0 ≤ (subI (subI ((to_n : Nat) : Int) 1) s7))) && (decide ((subI (subI ((to_n : Nat) : Int) 1) s7) < ((to_n : Nat) : Int)))) then
  next to_i to_n n s6 (addI s7 1) payload s10_i s10_n s19_i s19_n (List.set to (to_i + ((subI (subI ((to_n : Nat) : Int) 1) s7)).toNat) (cvIB (shrI n (mulI 8 s7)))) s4
  else fail
  else fail
 else
 ex0 to_i to_n n s6 s7 payload s10_i s10_n s19_i s19_n to s4
def lEnd_l3F {X : Type} (F : Nat) (fail : X) (ex0 : Nat → Nat → Int → Int → Int → ZB → Nat → Nat → Nat → Nat → ZB → ZB → X) : Nat → Nat → Nat → Int → Int → Int → ZB → Nat → Nat → Nat → Nat → ZB → ZB → X
 | 0, _, _, _, _, _, _, _, _, _, _, _, _ => fail
 | m + 1, to_i, to_n, n, s6, s7, payload, s10_i, s10_n, s19_i, s19_n, to, s4 => lEnd_l3 F fail (lEnd_l3F F fail ex0 m) ex0 to_i to_n n s6 s7 payload s10_i s10_n s19_i s19_n to s4
def lEnd {X : Type} (F : Nat) (payload : ZB) (commits : Int) (fail : X) (ret : ZB → X) : X :=
 lEnd_l1F F fail
  (fun to_i to_n n s6 s7 payload1 to s4 =>
   bif (needed_P (payload1.length : Int)) then
   lEnd_l2F F fail
    (fun to_i1 to_n1 n1 s61 s71 payload2 s10_i s10_n to1 s41 =>
     lEnd_l2F F fail
      (fun to_i2 to_n2 n2 s62 s72 payload3 s10_i1 s10_n1 to2 s42 =>
       bif (cSum_P payload3) then
       lEnd_l3F F fail
        (fun to_i3 to_n3 n3 s63 s73 payload4 s10_i2 s10_n2 s19_i s19_n to3 s43 =>
         ret to3)
        F 12 4 (cvWI (cSum_r payload3)) 4 0 payload3 s10_i1 s10_n1 12 4 to2 s42
       else fail)
      F 8 4 (payload2.length : Int) 4 0 payload2 s10_i s10_n to1 s41)
    F 5 3 (needed_r (payload1.length : Int)) 3 0 payload1 5 3 to s4
   else fail)
  F 1 4 commits 4 0 payload ([2, 0, 0, 0, 0, 0, 0, 0, 0, 0, 0, 0, 0, 0, 0, 0] : ZB) z16
def lWrite {X : Type} (F : Nat) (at_ : Int) (l : List ZB) (fail : X) (ret : (Int × (Int × ((List ZB) × Unit))) → X) : X :=
 ret (0, (at_, (l, ())))
def lSync {X : Type} (F : Nat) (fail : X) (ret : (Int × (Int × ((List ZB) × Unit))) → X) : X :=
 ret (1, (0, (([] : List ZB), ())))
def cfB_0_l1 {X : Type} (F : Nat) (fail : X) (next ex0 ex1 : ZB → Int → Int → Int → X) (s : ZB) (s4 s7 s8 : Int) : X :=
 bif (decide (s8 < s7)) then
  bif ((decide (0 ≤ s8)) && (decide (s8 < (s.length : Int)))) then
  bif (((((List.getD s (s8).toNat 0)).toNat : Nat) : Int) != 0) then
   ex0 s s8 s7 s8
  else
  next s s4 s7 (addI s8 1)
  else fail
 else
 ex1 s s4 s7 s8
def cfB_0_l1F {X : Type} (F : Nat) (fail : X) (ex0 ex1 : ZB → Int → Int → Int → X) : Nat → ZB → Int → Int → Int → X
 | 0, _, _, _, _ => fail
 | m + 1, s, s4, s7, s8 => cfB_0_l1 F fail (cfB_0_l1F F fail ex0 ex1 m) ex0 ex1 s s4 s7 s8
def cfB_0 {X : Type} (F : Nat) (s : ZB) (fail : X) (ret : Bool → X) : X :=
 cfB_0_l1F F fail
  (fun s1 s4 s7 s8 =>
   ret (decide (s4 ≥ 0)))
  (fun s2 s41 s71 s81 =>
   ret false)
  F s 0 (s.length : Int) 0
def lFormat {X : Type} (F : Nat) (size : Int) (fail : X) (ret : ZL → List (Int × (Int × ((List ZB) × Unit))) → Int → X) : X :=
 bif (decide (size < 2)) then
  ret (0, (0, (0, ()))) ([] : List (Int × (Int × ((List ZB) × Unit)))) 2
 else
 bif (decide (size > 8192)) then
  ret (0, (0, (0, ()))) ([] : List (Int × (Int × ((List ZB) × Unit)))) 2
 else
 bif (((decide (0 ≤ size)) && true) && (decide (size ≤ ((big : Nat) : Int)))) then
 bif (lWrite_P (0 : Int) (List.replicate (size).toNat z16)) then
 bif (lSync_P) then
 bif (lHead_P) then
 bif (lWrite_P 0 ([(lHead_r)] : List ZB)) then
 bif (lSync_P) then
 ret ((1 : Int), ((0 : Int), (size, ()))) ([(lWrite_r (0 : Int) (List.replicate (size).toNat z16)), (lSync_r), (lWrite_r (0 : Int) ([(lHead_r)] : List ZB)), (lSync_r)] : List (Int × (Int × ((List ZB) × Unit)))) (0 : Int)
 else fail
 else fail
 else fail
 else fail
 else fail
 else fail
def lAppend_l1 {X : Type} (F : Nat) (fail : X) (next ex0 : Int → ZB → Int → Int → List ZB → ZB → Int → ZL → ZL → X) (i : Int) (payload : ZB) (s6 n : Int) (parts : List ZB) (s1 : ZB) (s2 : Int) (l s4 : ZL) : X :=
 bif (decide (i < (s1.length : Int))) then
  bif ((decide (0 ≤ i)) && (decide (i ≤ (s1.length : Int)))) then
  bif ((((decide (0 ≤ i)) && (decide (i ≤ (addI i (minI s2 (((List.drop (i).toNat s1).length : Nat) : Int)))))) && (decide ((addI i (minI s2 (((List.drop (i).toNat s1).length : Nat) : Int))) ≤ (s1.length : Int)))) && ((addI i (minI s2 (((List.drop (i).toNat s1).length : Nat) : Int))) == (addI i (minI s2 (((List.drop (i).toNat s1).length : Nat) : Int))))) then
  bif (decide ((parts ++ ([((([(1 : UInt8)] : ZB) ++ (List.take (min (List.drop (i).toNat (List.take ((addI i (minI s2 (((List.drop (i).toNat s1).length : Nat) : Int)))).toNat s1)).length 15) (List.drop (i).toNat (List.take ((addI i (minI s2 (((List.drop (i).toNat s1).length : Nat) : Int)))).toNat s1)))) ++ (List.drop (1 + (min (List.drop (i).toNat (List.take ((addI i (minI s2 (((List.drop (i).toNat s1).length : Nat) : Int)))).toNat s1)).length 15)) ([(1 : UInt8), (0 : UInt8), (0 : UInt8), (0 : UInt8), (0 : UInt8), (0 : UInt8), (0 : UInt8), (0 : UInt8), (0 : UInt8), (0 : UInt8), (0 : UInt8), (0 : UInt8), (0 : UInt8), (0 : UInt8), (0 : UInt8), (0 : UInt8)] : ZB)))] : List ZB)).length ≤ big)) then
  next (addI i s2) payload s6 n (parts ++ ([((([(1 : UInt8)] : ZB) ++ (List.take (min (List.drop (i).toNat (List.take ((addI i (minI s2 (((List.drop (i).toNat s1).length : Nat) : Int)))).toNat s1)).length 15) (List.drop (i).toNat (List.take ((addI i (minI s2 (((List.drop (i).toNat s1).length : Nat) : Int)))).toNat s1)))) ++ (List.drop (1 + (min (List.drop (i).toNat (List.take ((addI i (minI s2 (((List.drop (i).toNat s1).length : Nat) : Int)))).toNat s1)).length 15)) ([(1 : UInt8), (0 : UInt8), (0 : UInt8), (0 : UInt8), (0 : UInt8), (0 : UInt8), (0 : UInt8), (0 : UInt8), (0 : UInt8), (0 : UInt8), (0 : UInt8), (0 : UInt8), (0 : UInt8), (0 : UInt8), (0 : UInt8), (0 : UInt8)] : ZB)))] : List ZB)) s1 s2 l s4
  else fail
  else fail
  else fail
 else
 ex0 i payload s6 n parts s1 s2 l s4
def lAppend_l1F {X : Type} (F : Nat) (fail : X) (ex0 : Int → ZB → Int → Int → List ZB → ZB → Int → ZL → ZL → X) : Nat → Int → ZB → Int → Int → List ZB → ZB → Int → ZL → ZL → X
 | 0, _, _, _, _, _, _, _, _, _ => fail
 | m + 1, i, payload, s6, n, parts, s1, s2, l, s4 => lAppend_l1 F fail (lAppend_l1F F fail ex0 m) ex0 i payload s6 n parts s1 s2 l s4
def lAppend {X : Type} (F : Nat) (l : ZL) (payload : ZB) (fail : X) (ret : ZL → List (Int × (Int × ((List ZB) × Unit))) → Int → X) : X :=
 bif ((lCheck_r l) != 0) then
  ret (0, (0, (0, ()))) ([] : List (Int × (Int × ((List ZB) × Unit)))) (lCheck_r l)
 else
 bif (lPages_P (payload.length : Int)) then
 bif (decide ((payload.length : Int) > 65536)) then
  ret (0, (0, (0, ()))) ([] : List (Int × (Int × ((List ZB) × Unit)))) 5
 else
 bif (decide ((lPages_r (payload.length : Int)) > (subI l.2.2.1 l.1))) then
  ret (0, (0, (0, ()))) ([] : List (Int × (Int × ((List ZB) × Unit)))) 11
 else
 bif (decide ((lPages_r (payload.length : Int)) > 1)) then
  lAppend_l1F F fail
   (fun i payload1 s6 n parts s1 s2 l1 s4 =>
    bif (lWrite_P l1.1 parts) then
    bif (lSync_P) then
    bif (lEnd_P payload1 (addI l1.2.1 1)) then
    bif (lWrite_P (subI (addI l1.1 n) 1) ([(lEnd_r payload1 (addI l1.2.1 1))] : List ZB)) then
    bif (lSync_P) then
    ret ((addI l1.1 n), ((addI l1.2.1 1), (l1.2.2.1, ()))) ([(lWrite_r l1.1 parts), (lSync_r), (lWrite_r (subI (addI l1.1 n) 1) ([(lEnd_r payload1 (addI l1.2.1 1))] : List ZB)), (lSync_r)] : List (Int × (Int × ((List ZB) × Unit)))) 0
    else fail
    else fail
    else fail
    else fail
    else fail)
   F 0 payload 0 (lPages_r (payload.length : Int)) ([] : List ZB) payload 15 l (0, (0, (0, ())))
 else
 bif (lEnd_P payload (addI l.2.1 1)) then
 bif (lWrite_P (subI (addI l.1 (lPages_r (payload.length : Int))) 1) ([(lEnd_r payload (addI l.2.1 1))] : List ZB)) then
 bif (lSync_P) then
 ret ((addI l.1 (lPages_r (payload.length : Int))), ((addI l.2.1 1), (l.2.2.1, ()))) ([(lWrite_r (subI (addI l.1 (lPages_r (payload.length : Int))) 1) ([(lEnd_r payload (addI l.2.1 1))] : List ZB)), (lSync_r)] : List (Int × (Int × ((List ZB) × Unit)))) 0
 else fail
 else fail
 else fail
 else fail
def lScan_l2 {X : Type} (F : Nat) (fail : X) (next ex0 ex1 : Int → Int → List ZB → Int → Int → Int → ((List ZB) × Unit) → ZB → Bool → ZB → List ZB → X) (number count : Int) (l : List ZB) (first s5 left : Int) (r : ((List ZB) × Unit)) (payload : ZB) (ok : Bool) (p : ZB) (out : List ZB) : X :=
 bif (((((List.getD p 0 0)).toNat : Nat) : Int) == 1) then
  bif (decide ((payload ++ (List.take 15 (List.drop 1 p))).length ≤ big)) then
  bif (!(decide (((r.1.length : Nat) : Int) > 0))) then
   ex0 number (addI count (1 : Int)) l first s5 left r (payload ++ (List.take 15 (List.drop 1 p))) ok p out
  else
  bif (decide (0 < ((r.1.length : Nat) : Int))) then
  bif (decide (1 ≤ ((r.1.length : Nat) : Int))) then
  next number (addI count (1 : Int)) l first s5 left ((List.drop 1 r.1), r.2) (payload ++ (List.take 15 (List.drop 1 p))) ok (List.getD r.1 0 z16) out
  else fail
  else fail
  else fail
 else
 ex1 number count l first s5 left r payload ok p out
def lScan_l2F {X : Type} (F : Nat) (fail : X) (ex0 ex1 : Int → Int → List ZB → Int → Int → Int → ((List ZB) × Unit) → ZB → Bool → ZB → List ZB → X) : Nat → Int → Int → List ZB → Int → Int → Int → ((List ZB) × Unit) → ZB → Bool → ZB → List ZB → X
 | 0, _, _, _, _, _, _, _, _, _, _, _ => fail
 | m + 1, number, count, l, first, s5, left, r, payload, ok, p, out => lScan_l2 F fail (lScan_l2F F fail ex0 ex1 m) ex0 ex1 number count l first s5 left r payload ok p out
def lScan_l1 {X : Type} (F : Nat) (fail : X) (next ex0 : List ZB → Int → Int → List ZB → ((List ZB) × Unit) → X) (l : List ZB) (first s5 : Int) (out : List ZB) (r : ((List ZB) × Unit)) : X :=
 bif (!(decide (((r.1.length : Nat) : Int) > 0))) then
  ex0 l first (subI (l.length : Int) ((r.1.length : Nat) : Int)) out r
 else
 bif (decide (0 < ((r.1.length : Nat) : Int))) then
 bif (decide (1 ≤ ((r.1.length : Nat) : Int))) then
 lScan_l2F F fail
  (fun number count l1 first1 s51 left r1 payload ok p out1 =>
   ex0 l1 first1 (subI (l1.length : Int) left) out1 r1)
  (fun number1 count1 l2 first2 s52 left1 r2 payload1 ok1 p1 out2 =>
   bif (lValue_P (List.take 4 (List.drop 8 p1))) then
   bif (((((List.getD p1 0 0)).toNat : Nat) : Int) == 2) then
    bif (lValue_P (List.take 4 (List.drop 1 p1))) then
    bif ((lValue_r (List.take 4 (List.drop 1 p1))) == number1) then
     bif (lValue_P (List.take 3 (List.drop 5 p1))) then
     bif ((lValue_r (List.take 3 (List.drop 5 p1))) == count1) then
      bif (decide ((lValue_r (List.take 4 (List.drop 8 p1))) ≤ 65536)) then
       bif (needed_P (lValue_r (List.take 4 (List.drop 8 p1)))) then
       bif (!((needed_r (lValue_r (List.take 4 (List.drop 8 p1)))) == count1)) then
        ex0 l2 first2 (subI (l2.length : Int) left1) out2 r2
       else
       bif ((decide (0 ≤ (lValue_r (List.take 4 (List.drop 8 p1))))) && (decide ((lValue_r (List.take 4 (List.drop 8 p1))) ≤ (payload1.length : Int)))) then
       bif (((decide (0 ≤ (lValue_r (List.take 4 (List.drop 8 p1))))) && (decide ((lValue_r (List.take 4 (List.drop 8 p1))) ≤ (payload1.length : Int)))) && ((lValue_r (List.take 4 (List.drop 8 p1))) == (lValue_r (List.take 4 (List.drop 8 p1))))) then
       bif (cfB_P (List.take (payload1.length - ((lValue_r (List.take 4 (List.drop 8 p1)))).toNat) (List.drop ((lValue_r (List.take 4 (List.drop 8 p1)))).toNat payload1)) 73) then
       bif (!(cfB_r (List.take (payload1.length - ((lValue_r (List.take 4 (List.drop 8 p1)))).toNat) (List.drop ((lValue_r (List.take 4 (List.drop 8 p1)))).toNat payload1)) 73)) then
        bif (lValue_P (List.take 4 (List.drop 12 p1))) then
        bif (cSum_P (List.take ((lValue_r (List.take 4 (List.drop 8 p1)))).toNat payload1)) then
        bif (!((lValue_r (List.take 4 (List.drop 12 p1))) == (cvWI (cSum_r (List.take ((lValue_r (List.take 4 (List.drop 8 p1)))).toNat payload1))))) then
         ex0 l2 first2 (subI (l2.length : Int) left1) out2 r2
        else
        bif (decide ((out2 ++ ([(List.take ((lValue_r (List.take 4 (List.drop 8 p1)))).toNat payload1)] : List ZB)).length ≤ big)) then
        next l2 first2 s52 (out2 ++ ([(List.take ((lValue_r (List.take 4 (List.drop 8 p1)))).toNat payload1)] : List ZB)) r2
        else fail
        else fail
        else fail
       else
       ex0 l2 first2 (subI (l2.length : Int) left1) out2 r2
       else fail
       else fail
       else fail
       else fail
      else
      ex0 l2 first2 (subI (l2.length : Int) left1) out2 r2
     else
     ex0 l2 first2 (subI (l2.length : Int) left1) out2 r2
     else fail
    else
    ex0 l2 first2 (subI (l2.length : Int) left1) out2 r2
    else fail
   else
   ex0 l2 first2 (subI (l2.length : Int) left1) out2 r2
   else fail)
  F (addI first (out.length : Int)) 0 l first s5 ((r.1.length : Nat) : Int) ((List.drop 1 r.1), r.2) ([] : ZB) false (List.getD r.1 0 z16) out
 else fail
 else fail
def lScan_l1F {X : Type} (F : Nat) (fail : X) (ex0 : List ZB → Int → Int → List ZB → ((List ZB) × Unit) → X) : Nat → List ZB → Int → Int → List ZB → ((List ZB) × Unit) → X
 | 0, _, _, _, _, _ => fail
 | m + 1, l, first, s5, out, r => lScan_l1 F fail (lScan_l1F F fail ex0 m) ex0 l first s5 out r
def lScan {X : Type} (F : Nat) (l : List ZB) (first : Int) (fail : X) (ret : List ZB → Int → X) : X :=
 bif (decide (first < 1)) then
  ret ([] : List ZB) 0
 else
 bif (decide (first > 8192)) then
  ret ([] : List ZB) 0
 else
 lScan_l1F F fail
  (fun l1 first1 s5 s4 r =>
   ret s4 s5)
  F l first 0 ([] : List ZB) (l, ())
def lOpen {X : Type} (F : Nat) (d_ : ZD) (fail : X) (ret : ZL → List ZB → Int → X) : X :=
 bif (dRead_P d_ 0 ((d_.1.length : Nat) : Int)) then
 bif ((dRead_r1 d_ 0 ((d_.1.length : Nat) : Int)) != 0) then
  ret (0, (0, (0, ()))) ([] : List ZB) (dRead_r1 d_ 0 ((d_.1.length : Nat) : Int))
 else
 bif (decide ((((dRead_r0 d_ 0 ((d_.1.length : Nat) : Int)).length : Nat) : Int) < 2)) then
  ret (0, (0, (0, ()))) ([] : List ZB) 2
 else
 bif (decide (0 < (((dRead_r0 d_ 0 ((d_.1.length : Nat) : Int)).length : Nat) : Int))) then
 bif (lHead_P) then
 bif (!(beqT (.arr 16 (.int .u8)) (List.getD (dRead_r0 d_ 0 ((d_.1.length : Nat) : Int)) 0 z16) (lHead_r))) then
  ret (0, (0, (0, ()))) ([] : List ZB) 3
 else
 bif (decide (1 ≤ (((dRead_r0 d_ 0 ((d_.1.length : Nat) : Int)).length : Nat) : Int))) then
 bif (lScan_P (List.take ((dRead_r0 d_ 0 ((d_.1.length : Nat) : Int)).length - 1) (List.drop 1 (dRead_r0 d_ 0 ((d_.1.length : Nat) : Int)))) 1) then
 ret ((addI 1 (lScan_r1 (List.take ((dRead_r0 d_ 0 ((d_.1.length : Nat) : Int)).length - 1) (List.drop 1 (dRead_r0 d_ 0 ((d_.1.length : Nat) : Int)))) 1)), ((((lScan_r0 (List.take ((dRead_r0 d_ 0 ((d_.1.length : Nat) : Int)).length - 1) (List.drop 1 (dRead_r0 d_ 0 ((d_.1.length : Nat) : Int)))) 1).length : Nat) : Int), ((((dRead_r0 d_ 0 ((d_.1.length : Nat) : Int)).length : Nat) : Int), ()))) (lScan_r0 (List.take ((dRead_r0 d_ 0 ((d_.1.length : Nat) : Int)).length - 1) (List.drop 1 (dRead_r0 d_ 0 ((d_.1.length : Nat) : Int)))) 1) 0
 else fail
 else fail
 else fail
 else fail
 else fail
end Go.AI
namespace Go.AI
open Go
set_option linter.unusedVariables false
def tCheck_l1 {X : Type} (F : Nat) (fail : X) (next ex0 ex1 : Int → List ZR → Int → Int → X) (s2 : Int) (s8 : List ZR) (s9 s10 : Int) : X :=
 bif (decide (s10 < s9)) then
  bif ((decide (0 ≤ s10)) && (decide (s10 < (s8.length : Int)))) then
  bif (decide ((List.getD s8 (s10).toNat (0, (([] : ZB), ()))).1 ≥ 1)) then
   bif (!(decide ((List.getD s8 (s10).toNat (0, (([] : ZB), ()))).1 ≤ 4))) then
    ex0 1 s8 s9 s10
   else
   bif (decide ((((List.getD s8 (s10).toNat (0, (([] : ZB), ()))).2.1.length : Nat) : Int) > 65536)) then
    ex0 5 s8 s9 s10
   else
   next s2 s8 s9 (addI s10 1)
  else
  ex0 1 s8 s9 s10
  else fail
 else
 ex1 s2 s8 s9 s10
def tCheck_l1F {X : Type} (F : Nat) (fail : X) (ex0 ex1 : Int → List ZR → Int → Int → X) : Nat → Int → List ZR → Int → Int → X
 | 0, _, _, _, _ => fail
 | m + 1, s2, s8, s9, s10 => tCheck_l1 F fail (tCheck_l1F F fail ex0 ex1 m) ex0 ex1 s2 s8 s9 s10
def tCheck {X : Type} (F : Nat) (l : List ZR) (fail : X) (ret : Int → X) : X :=
 bif (decide ((l.length : Int) > 1024)) then
  ret 6
 else
 tCheck_l1F F fail
  (fun s2 s8 s9 s10 =>
   ret s2)
  (fun s21 s81 s91 s101 =>
   ret 0)
  F 0 l (l.length : Int) 0
def tputI_0 {X : Type} (F : Nat) (b : ZB) (x_ : Int) (fail : X) (ret : ZB → X) : X :=
 bif (wire_PutInt_P b x_) then
 ret (wire_PutInt_r b x_)
 else fail
def tputB_0 {X : Type} (F : Nat) (b x_ : ZB) (fail : X) (ret : ZB → X) : X :=
 bif (wire_PutBytes_P b x_) then
 ret (wire_PutBytes_r b x_)
 else fail
def tEncode_l1 {X : Type} (F : Nat) (fail : X) (next ex0 : List ZR → Int → Int → ZB → X) (s16 : List ZR) (s17 s18 : Int) (b : ZB) : X :=
 bif (decide (s18 < s17)) then
  bif ((decide (0 ≤ s18)) && (decide (s18 < (s16.length : Int)))) then
  bif (tputI_P b 94 (List.getD s16 (s18).toNat (0, (([] : ZB), ()))).1) then
  bif (tputB_P (tputI_r b 94 (List.getD s16 (s18).toNat (0, (([] : ZB), ()))).1) 96 (List.getD s16 (s18).toNat (0, (([] : ZB), ()))).2.1) then
  next s16 s17 (addI s18 1) (tputB_r (tputI_r b 94 (List.getD s16 (s18).toNat (0, (([] : ZB), ()))).1) 96 (List.getD s16 (s18).toNat (0, (([] : ZB), ()))).2.1)
  else fail
  else fail
  else fail
 else
 ex0 s16 s17 s18 b
def tEncode_l1F {X : Type} (F : Nat) (fail : X) (ex0 : List ZR → Int → Int → ZB → X) : Nat → List ZR → Int → Int → ZB → X
 | 0, _, _, _, _ => fail
 | m + 1, s16, s17, s18, b => tEncode_l1 F fail (tEncode_l1F F fail ex0 m) ex0 s16 s17 s18 b
def tEncode {X : Type} (F : Nat) (l : List ZR) (fail : X) (ret : ZB → Int → X) : X :=
 bif (tCheck_P l) then
 bif ((tCheck_r l) != 0) then
  ret ([] : ZB) (tCheck_r l)
 else
 bif (tputI_P ([] : ZB) 94 (l.length : Int)) then
 tEncode_l1F F fail
  (fun s16 s17 s18 b =>
   bif (decide ((b.length : Int) > 65536)) then
    ret ([] : ZB) 5
   else
   ret b 0)
  F l (l.length : Int) 0 (tputI_r ([] : ZB) 94 (l.length : Int))
 else fail
 else fail
def tDecode_l1 {X : Type} (F : Nat) (fail : X) (next ex0 ex1 : Int → Int → Int → ZB → List ZR → X) (s3 s19 s20 : Int) (b : ZB) (out : List ZR) : X :=
 bif (decide (s20 < s19)) then
  bif (wire_Int_P b) then
  bif ((wire_Int_r2 b) == 0) then
   bif ((wire_Int_r2 b) != 0) then
    ex0 (wire_Int_r2 b) s19 s20 (wire_Int_r1 b) out
   else
   bif (decide ((wire_Int_r0 b) ≥ 1)) then
    bif (!(decide ((wire_Int_r0 b) ≤ 4))) then
     ex0 1 s19 s20 (wire_Int_r1 b) out
    else
    bif (wire_Bytes_P (wire_Int_r1 b)) then
    bif ((wire_Bytes_r2 (wire_Int_r1 b)) == 0) then
     bif ((wire_Bytes_r2 (wire_Int_r1 b)) != 0) then
      ex0 (wire_Bytes_r2 (wire_Int_r1 b)) s19 s20 (wire_Bytes_r1 (wire_Int_r1 b)) out
     else
     bif (decide ((out ++ ([((wire_Int_r0 b), ((wire_Bytes_r0 (wire_Int_r1 b)), ()))] : List ZR)).length ≤ big)) then
     next s3 s19 (addI s20 (1 : Int)) (wire_Bytes_r1 (wire_Int_r1 b)) (out ++ ([((wire_Int_r0 b), ((wire_Bytes_r0 (wire_Int_r1 b)), ()))] : List ZR))
     else fail
    else
    bif ((wire_Bytes_r2 (wire_Int_r1 b)) != 0) then
     ex0 (wire_Bytes_r2 (wire_Int_r1 b)) s19 s20 (wire_Int_r1 b) out
    else
    bif (decide ((out ++ ([((wire_Int_r0 b), (([] : ZB), ()))] : List ZR)).length ≤ big)) then
    next s3 s19 (addI s20 (1 : Int)) (wire_Int_r1 b) (out ++ ([((wire_Int_r0 b), (([] : ZB), ()))] : List ZR))
    else fail
    else fail
   else
   ex0 1 s19 s20 (wire_Int_r1 b) out
  else
  bif ((wire_Int_r2 b) != 0) then
   ex0 (wire_Int_r2 b) s19 s20 b out
  else
  ex0 1 s19 s20 b out
  else fail
 else
 ex1 s3 s19 s20 b out
def tDecode_l1F {X : Type} (F : Nat) (fail : X) (ex0 ex1 : Int → Int → Int → ZB → List ZR → X) : Nat → Int → Int → Int → ZB → List ZR → X
 | 0, _, _, _, _, _ => fail
 | m + 1, s3, s19, s20, b, out => tDecode_l1 F fail (tDecode_l1F F fail ex0 ex1 m) ex0 ex1 s3 s19 s20 b out
def tDecode {X : Type} (F : Nat) (b : ZB) (fail : X) (ret : List ZR → Int → X) : X :=
 bif (decide ((b.length : Int) > 65536)) then
  ret ([] : List ZR) 5
 else
 bif (wire_Int_P b) then
 bif ((wire_Int_r2 b) == 0) then
  bif ((wire_Int_r2 b) != 0) then
   ret ([] : List ZR) (wire_Int_r2 b)
  else
  bif (decide ((wire_Int_r0 b) > 1024)) then
   ret ([] : List ZR) 6
  else
  tDecode_l1F F fail
   (fun s3 s19 s20 b1 out =>
    ret ([] : List ZR) s3)
   (fun s31 s191 s201 b2 out1 =>
    bif (decide ((b2.length : Int) > 0)) then
     ret ([] : List ZR) 3
    else
    ret out1 0)
   F 0 (wire_Int_r0 b) 0 (wire_Int_r1 b) ([] : List ZR)
 else
 bif ((wire_Int_r2 b) != 0) then
  ret ([] : List ZR) (wire_Int_r2 b)
 else
 tDecode_l1F F fail
  (fun s32 s192 s202 b3 out2 =>
   ret ([] : List ZR) s32)
  (fun s33 s193 s203 b4 out3 =>
   bif (decide ((b4.length : Int) > 0)) then
    ret ([] : List ZR) 3
   else
   ret out3 0)
  F 0 0 0 b ([] : List ZR)
 else fail
def uFew_l1 {X : Type} (F : Nat) (fail : X) (next ex0 ex1 : List ZR → Bool → Int → X) (l : List ZR) (s2 : Bool) (i : Int) : X :=
 bif (decide (i < (l.length : Int))) then
  bif (decide (i < 60)) then
   bif ((decide (0 ≤ i)) && (decide (i < (l.length : Int)))) then
   bif (decide ((((List.getD l (i).toNat (0, (([] : ZB), ()))).2.1.length : Nat) : Int) > 300)) then
    ex0 l false i
   else
   next l s2 (addI i 1)
   else fail
  else
  ex1 l s2 i
 else
 ex1 l s2 i
def uFew_l1F {X : Type} (F : Nat) (fail : X) (ex0 ex1 : List ZR → Bool → Int → X) : Nat → List ZR → Bool → Int → X
 | 0, _, _, _ => fail
 | m + 1, l, s2, i => uFew_l1 F fail (uFew_l1F F fail ex0 ex1 m) ex0 ex1 l s2 i
def uFew {X : Type} (F : Nat) (l : List ZR) (fail : X) (ret : Bool → X) : X :=
 uFew_l1F F fail
  (fun l1 s2 i =>
   ret s2)
  (fun l2 s21 i1 =>
   ret (decide ((l2.length : Int) ≤ 60)))
  F l false 0
def uSame_l1 {X : Type} (F : Nat) (fail : X) (next ex0 ex1 : List ZR → List ZR → Bool → Int → X) (a b : List ZR) (s4 : Bool) (i : Int) : X :=
 bif (decide (i < (a.length : Int))) then
  bif ((decide (0 ≤ i)) && (decide (i < (a.length : Int)))) then
  bif ((decide (0 ≤ i)) && (decide (i < (b.length : Int)))) then
  bif ((List.getD a (i).toNat (0, (([] : ZB), ()))).1 != (List.getD b (i).toNat (0, (([] : ZB), ()))).1) then
   ex0 a b false i
  else
  bif ((decide (0 ≤ i)) && (decide (i < (a.length : Int)))) then
  bif ((decide (0 ≤ i)) && (decide (i < (b.length : Int)))) then
  bif (!((List.getD a (i).toNat (0, (([] : ZB), ()))).2.1 == (List.getD b (i).toNat (0, (([] : ZB), ()))).2.1)) then
   ex0 a b false i
  else
  next a b s4 (addI i 1)
  else fail
  else fail
  else fail
  else fail
 else
 ex1 a b s4 i
def uSame_l1F {X : Type} (F : Nat) (fail : X) (ex0 ex1 : List ZR → List ZR → Bool → Int → X) : Nat → List ZR → List ZR → Bool → Int → X
 | 0, _, _, _, _ => fail
 | m + 1, a, b, s4, i => uSame_l1 F fail (uSame_l1F F fail ex0 ex1 m) ex0 ex1 a b s4 i
def uSame {X : Type} (F : Nat) (a b : List ZR) (fail : X) (ret : Bool → X) : X :=
 bif ((a.length : Int) != (b.length : Int)) then
  ret false
 else
 uSame_l1F F fail
  (fun a1 b1 s4 i =>
   ret s4)
  (fun a2 b2 s41 i1 =>
   ret true)
  F a b false 0
def uSameAll_l1 {X : Type} (F : Nat) (fail : X) (next ex0 ex1 : List (List ZR) → List (List ZR) → Bool → Int → X) (a b : List (List ZR)) (s4 : Bool) (i : Int) : X :=
 bif (decide (i < (a.length : Int))) then
  bif ((decide (0 ≤ i)) && (decide (i < (a.length : Int)))) then
  bif ((decide (0 ≤ i)) && (decide (i < (b.length : Int)))) then
  bif (uSame_P (List.getD a (i).toNat ([] : List ZR)) (List.getD b (i).toNat ([] : List ZR))) then
  bif (!(uSame_r (List.getD a (i).toNat ([] : List ZR)) (List.getD b (i).toNat ([] : List ZR)))) then
   ex0 a b false i
  else
  next a b s4 (addI i 1)
  else fail
  else fail
  else fail
 else
 ex1 a b s4 i
def uSameAll_l1F {X : Type} (F : Nat) (fail : X) (ex0 ex1 : List (List ZR) → List (List ZR) → Bool → Int → X) : Nat → List (List ZR) → List (List ZR) → Bool → Int → X
 | 0, _, _, _, _ => fail
 | m + 1, a, b, s4, i => uSameAll_l1 F fail (uSameAll_l1F F fail ex0 ex1 m) ex0 ex1 a b s4 i
def uSameAll {X : Type} (F : Nat) (a b : List (List ZR)) (fail : X) (ret : Bool → X) : X :=
 bif ((a.length : Int) != (b.length : Int)) then
  ret false
 else
 uSameAll_l1F F fail
  (fun a1 b1 s4 i =>
   ret s4)
  (fun a2 b2 s41 i1 =>
   ret true)
  F a b false 0
end Go.AI
namespace Go.AI
open Go
set_option linter.unusedVariables false
def tCommit {X : Type} (F : Nat) (l : ZL) (key : ZB) (records : List ZR) (fail : X) (ret : ZL → List (Int × (Int × ((List ZB) × Unit))) → Int → X) : X :=
 bif ((lCheck_r l) != 0) then
  ret (0, (0, (0, ()))) ([] : List (Int × (Int × ((List ZB) × Unit)))) (lCheck_r l)
 else
 bif (tEncode_P records) then
 bif ((tEncode_r1 records) != 0) then
  ret (0, (0, (0, ()))) ([] : List (Int × (Int × ((List ZB) × Unit)))) (tEncode_r1 records)
 else
 bif (decide ((key.length : Int) > 0)) then
  bif (cSeal_P key (addI l.2.1 1) (tEncode_r0 records)) then
  bif ((cSeal_r1 key (addI l.2.1 1) (tEncode_r0 records)) != 0) then
   ret (0, (0, (0, ()))) ([] : List (Int × (Int × ((List ZB) × Unit)))) (cSeal_r1 key (addI l.2.1 1) (tEncode_r0 records))
  else
  bif (lAppend_P l (cSeal_r0 key (addI l.2.1 1) (tEncode_r0 records))) then
  ret (lAppend_r0 l (cSeal_r0 key (addI l.2.1 1) (tEncode_r0 records))) (lAppend_r1 l (cSeal_r0 key (addI l.2.1 1) (tEncode_r0 records))) (lAppend_r2 l (cSeal_r0 key (addI l.2.1 1) (tEncode_r0 records)))
  else fail
  else fail
 else
 bif (lAppend_P l (tEncode_r0 records)) then
 ret (lAppend_r0 l (tEncode_r0 records)) (lAppend_r1 l (tEncode_r0 records)) (lAppend_r2 l (tEncode_r0 records))
 else fail
 else fail
end Go.AI
namespace Go.AI
open Go
set_option linter.unusedVariables false
def tReplay_l1 {X : Type} (F : Nat) (fail : X) (next ex0 ex1 : List ZB → Int → Int → ZB → ZL → Int → List (List ZR) → ZB → ZL → X) (s7 : List ZB) (s8 s9 : Int) (key : ZB) (s4 : ZL) (s6 : Int) (out : List (List ZR)) (s2 : ZB) (l : ZL) : X :=
 bif (decide (s9 < s8)) then
  bif ((decide (0 ≤ s9)) && (decide (s9 < (s7.length : Int)))) then
  bif (decide ((s2.length : Int) > 0)) then
   bif (cOpen_P s2 (addI s9 1) (List.getD s7 (s9).toNat ([] : ZB))) then
   bif ((cOpen_r1 s2 (addI s9 1) (List.getD s7 (s9).toNat ([] : ZB))) == 0) then
    bif (tDecode_P (cOpen_r0 s2 (addI s9 1) (List.getD s7 (s9).toNat ([] : ZB)))) then
    bif ((tDecode_r1 (cOpen_r0 s2 (addI s9 1) (List.getD s7 (s9).toNat ([] : ZB)))) != 0) then
     ex0 s7 s8 s9 key (0, (0, (0, ()))) (tDecode_r1 (cOpen_r0 s2 (addI s9 1) (List.getD s7 (s9).toNat ([] : ZB)))) out s2 l
    else
    bif (decide ((out ++ ([(tDecode_r0 (cOpen_r0 s2 (addI s9 (1 : Int)) (List.getD s7 (s9).toNat ([] : ZB))))] : List (List ZR))).length ≤ big)) then
    next s7 s8 (addI s9 (1 : Int)) key s4 s6 (out ++ ([(tDecode_r0 (cOpen_r0 s2 (addI s9 (1 : Int)) (List.getD s7 (s9).toNat ([] : ZB))))] : List (List ZR))) s2 l
    else fail
    else fail
   else
   bif ((cOpen_r1 s2 (addI s9 1) (List.getD s7 (s9).toNat ([] : ZB))) != 0) then
    ex0 s7 s8 s9 key (0, (0, (0, ()))) (cOpen_r1 s2 (addI s9 1) (List.getD s7 (s9).toNat ([] : ZB))) out s2 l
   else
   bif (decide ((out ++ ([([] : List ZR)] : List (List ZR))).length ≤ big)) then
   next s7 s8 (addI s9 (1 : Int)) key s4 s6 (out ++ ([([] : List ZR)] : List (List ZR))) s2 l
   else fail
   else fail
  else
  bif (tDecode_P (List.getD s7 (s9).toNat ([] : ZB))) then
  bif ((tDecode_r1 (List.getD s7 (s9).toNat ([] : ZB))) != 0) then
   ex0 s7 s8 s9 key (0, (0, (0, ()))) (tDecode_r1 (List.getD s7 (s9).toNat ([] : ZB))) out s2 l
  else
  bif (decide ((out ++ ([(tDecode_r0 (List.getD s7 (s9).toNat ([] : ZB)))] : List (List ZR))).length ≤ big)) then
  next s7 s8 (addI s9 (1 : Int)) key s4 s6 (out ++ ([(tDecode_r0 (List.getD s7 (s9).toNat ([] : ZB)))] : List (List ZR))) s2 l
  else fail
  else fail
  else fail
 else
 ex1 s7 s8 s9 key s4 s6 out s2 l
def tReplay_l1F {X : Type} (F : Nat) (fail : X) (ex0 ex1 : List ZB → Int → Int → ZB → ZL → Int → List (List ZR) → ZB → ZL → X) : Nat → List ZB → Int → Int → ZB → ZL → Int → List (List ZR) → ZB → ZL → X
 | 0, _, _, _, _, _, _, _, _, _ => fail
 | m + 1, s7, s8, s9, key, s4, s6, out, s2, l => tReplay_l1 F fail (tReplay_l1F F fail ex0 ex1 m) ex0 ex1 s7 s8 s9 key s4 s6 out s2 l
def tReplay {X : Type} (F : Nat) (d_ : ZD) (key : ZB) (fail : X) (ret : ZL → List (List ZR) → Int → X) : X :=
 bif (lOpen_P d_) then
 bif ((lOpen_r2 d_) != 0) then
  ret (0, (0, (0, ()))) ([] : List (List ZR)) (lOpen_r2 d_)
 else
 bif (decide ((key.length : Int) > 64)) then
  ret (0, (0, (0, ()))) ([] : List (List ZR)) 1
 else
 tReplay_l1F F fail
  (fun s7 s8 s9 key1 s4 s6 out s2 l =>
   ret s4 ([] : List (List ZR)) s6)
  (fun s71 s81 s91 key2 s41 s61 out1 s21 l1 =>
   ret l1 out1 0)
  F (lOpen_r1 d_) (((lOpen_r1 d_).length : Nat) : Int) 0 key (0, (0, (0, ()))) 0 ([] : List (List ZR)) key (lOpen_r0 d_)
 else fail
end Go.AI
namespace Go.AI
open Go
set_option linter.unusedVariables false
def pCommitted_l1 {X : Type} (F : Nat) (fail : X) (next ex0 ex1 : ZB → Bool → List (List ZR) → Int → Int → ZD → ZL → ZD → List (List ZR) → X) (key : ZB) (s6 : Bool) (s50 : List (List ZR)) (s51 s52 : Int) (s4 : ZD) (x_ : ZL) (d_ : ZD) (done : List (List ZR)) : X :=
 bif (decide (s52 < s51)) then
  bif ((decide (0 ≤ s52)) && (decide (s52 < (s50.length : Int)))) then
  bif (tCommit_P x_ key (List.getD s50 (s52).toNat ([] : List ZR))) then
  bif ((tCommit_r2 x_ key (List.getD s50 (s52).toNat ([] : List ZR))) != 0) then
   next key s6 s50 s51 (addI s52 1) s4 x_ d_ done
  else
  bif (dRun_P d_ (tCommit_r1 x_ key (List.getD s50 (s52).toNat ([] : List ZR)))) then
  bif ((dRun_r2 d_ (tCommit_r1 x_ key (List.getD s50 (s52).toNat ([] : List ZR)))) != 0) then
   ex0 key false s50 s51 s52 d_ x_ d_ done
  else
  bif (decide ((done ++ ([(List.getD s50 (s52).toNat ([] : List ZR))] : List (List ZR))).length ≤ big)) then
  next key s6 s50 s51 (addI s52 (1 : Int)) s4 (tCommit_r0 x_ key (List.getD s50 (s52).toNat ([] : List ZR))) (dRun_r0 d_ (tCommit_r1 x_ key (List.getD s50 (s52).toNat ([] : List ZR)))) (done ++ ([(List.getD s50 (s52).toNat ([] : List ZR))] : List (List ZR)))
  else fail
  else fail
  else fail
  else fail
 else
 ex1 key s6 s50 s51 s52 s4 x_ d_ done
def pCommitted_l1F {X : Type} (F : Nat) (fail : X) (ex0 ex1 : ZB → Bool → List (List ZR) → Int → Int → ZD → ZL → ZD → List (List ZR) → X) : Nat → ZB → Bool → List (List ZR) → Int → Int → ZD → ZL → ZD → List (List ZR) → X
 | 0, _, _, _, _, _, _, _, _, _ => fail
 | m + 1, key, s6, s50, s51, s52, s4, x_, d_, done => pCommitted_l1 F fail (pCommitted_l1F F fail ex0 ex1 m) ex0 ex1 key s6 s50 s51 s52 s4 x_ d_ done
def pCommitted {X : Type} (F : Nat) (key : ZB) (l : List (List ZR)) (fail : X) (ret : ZD → List (List ZR) → Bool → X) : X :=
 bif (lFormat_P 300) then
 bif (dNew_P 300) then
 bif (dRun_P (dNew_r0 300) (lFormat_r1 300)) then
 bif ((lFormat_r2 (300 : Int)) != (0 : Int)) then
  ret (dRun_r0 (dNew_r0 300) (lFormat_r1 300)) ([] : List (List ZR)) false
 else
 bif ((dNew_r1 (300 : Int)) != (0 : Int)) then
  ret (dRun_r0 (dNew_r0 300) (lFormat_r1 300)) ([] : List (List ZR)) false
 else
 bif ((dRun_r2 (dNew_r0 300) (lFormat_r1 300)) != 0) then
  ret (dRun_r0 (dNew_r0 300) (lFormat_r1 300)) ([] : List (List ZR)) false
 else
 pCommitted_l1F F fail
  (fun key1 s6 s50 s51 s52 s4 x_ d_ done =>
   ret s4 ([] : List (List ZR)) s6)
  (fun key2 s61 s501 s511 s521 s41 x_1 d_1 done1 =>
   ret d_1 done1 true)
  F key false l (l.length : Int) 0 (([] : List ZB), (([] : List ZR), ())) (lFormat_r0 300) (dRun_r0 (dNew_r0 300) (lFormat_r1 300)) ([] : List (List ZR))
 else fail
 else fail
 else fail
def pFew_l1 {X : Type} (F : Nat) (fail : X) (next ex0 ex1 : List (List ZR) → Bool → Int → X) (l : List (List ZR)) (s2 : Bool) (i : Int) : X :=
 bif (decide (i < (l.length : Int))) then
  bif (decide (i < 6)) then
   bif ((decide (0 ≤ i)) && (decide (i < (l.length : Int)))) then
   bif (uFew_P (List.getD l (i).toNat ([] : List ZR))) then
   bif (!(uFew_r (List.getD l (i).toNat ([] : List ZR)))) then
    ex0 l false i
   else
   next l s2 (addI i 1)
   else fail
   else fail
  else
  ex1 l s2 i
 else
 ex1 l s2 i
def pFew_l1F {X : Type} (F : Nat) (fail : X) (ex0 ex1 : List (List ZR) → Bool → Int → X) : Nat → List (List ZR) → Bool → Int → X
 | 0, _, _, _ => fail
 | m + 1, l, s2, i => pFew_l1 F fail (pFew_l1F F fail ex0 ex1 m) ex0 ex1 l s2 i
def pFew {X : Type} (F : Nat) (l : List (List ZR)) (fail : X) (ret : Bool → X) : X :=
 pFew_l1F F fail
  (fun l1 s2 i =>
   ret s2)
  (fun l2 s21 i1 =>
   ret (decide ((l2.length : Int) ≤ 6)))
  F l false 0
def TopSealedTampered {X : Type} (F : Nat) (key : ZB) (l : List (List ZR)) (at_ : ZB) (fail : X) (ret : Bool → X) : X :=
 bif (pFew_P l) then
 bif (!(pFew_r l)) then
  ret true
 else
 bif ((key.length : Int) == 0) then
  ret true
 else
 bif (decide ((key.length : Int) > 64)) then
  ret true
 else
 bif (((((List.getD at_ 2 0)).toNat : Nat) : Int) == 0) then
  ret true
 else
 bif (pCommitted_P key l) then
 bif (!(pCommitted_r2 key l)) then
  ret false
 else
 bif ((((pCommitted_r0 key l).1.length : Nat) : Int) != 300) then
  ret false
 else
 bif (decide ((((pCommitted_r0 key l).2.1.length : Nat) : Int) > 0)) then
  ret false
 else
 bif (decide ((pCommitted_r0 key l).1.length ≤ big)) then
 bif ((decide (0 ≤ (remI (cvBI (List.getD at_ 0 0)) 60))) && (decide ((remI (cvBI (List.getD at_ 0 0)) 60) < (((pCommitted_r0 key l).1.length : Nat) : Int)))) then
 bif ((decide (0 ≤ ((((remB (List.getD at_ 1 0) 16)).toNat : Nat) : Int))) && (decide (((((remB (List.getD at_ 1 0) 16)).toNat : Nat) : Int) < (16 : Int)))) then
 bif ((decide (0 ≤ (remI (cvBI (List.getD at_ 0 0)) 60))) && (decide ((remI (cvBI (List.getD at_ 0 0)) 60) < (((pCommitted_r0 key l).1.length : Nat) : Int)))) then
 bif ((decide (0 ≤ ((((remB (List.getD at_ 1 0) 16)).toNat : Nat) : Int))) && (decide (((((remB (List.getD at_ 1 0) 16)).toNat : Nat) : Int) < (16 : Int)))) then
 bif (tReplay_P ((List.set (pCommitted_r0 key l).1 ((remI (cvBI (List.getD at_ 0 0)) 60)).toNat (List.set (List.getD (pCommitted_r0 key l).1 ((remI (cvBI (List.getD at_ 0 0)) 60)).toNat z16) ((remB (List.getD at_ 1 0) 16)).toNat (xorB (List.getD (List.getD (pCommitted_r0 key l).1 ((remI (cvBI (List.getD at_ 0 0)) 60)).toNat z16) ((remB (List.getD at_ 1 0) 16)).toNat 0) (List.getD at_ 2 0)))), (([] : List ZR), ())) key) then
 bif ((tReplay_r2 ((List.set (pCommitted_r0 key l).1 ((remI (cvBI (List.getD at_ 0 0)) 60)).toNat (List.set (List.getD (pCommitted_r0 key l).1 ((remI (cvBI (List.getD at_ 0 0)) 60)).toNat z16) ((remB (List.getD at_ 1 0) 16)).toNat (xorB (List.getD (List.getD (pCommitted_r0 key l).1 ((remI (cvBI (List.getD at_ 0 0)) 60)).toNat z16) ((remB (List.getD at_ 1 0) 16)).toNat 0) (List.getD at_ 2 0)))), (([] : List ZR), ())) key) != 0) then
  ret ((((tReplay_r1 ((List.set (pCommitted_r0 key l).1 ((remI (cvBI (List.getD at_ 0 0)) 60)).toNat (List.set (List.getD (pCommitted_r0 key l).1 ((remI (cvBI (List.getD at_ 0 0)) 60)).toNat z16) ((remB (List.getD at_ 1 0) 16)).toNat (xorB (List.getD (List.getD (pCommitted_r0 key l).1 ((remI (cvBI (List.getD at_ 0 0)) 60)).toNat z16) ((remB (List.getD at_ 1 0) 16)).toNat 0) (List.getD at_ 2 0)))), (([] : List ZR), ())) key).length : Nat) : Int) == 0)
 else
 bif (decide ((((tReplay_r1 ((List.set (pCommitted_r0 key l).1 ((remI (cvBI (List.getD at_ 0 0)) 60)).toNat (List.set (List.getD (pCommitted_r0 key l).1 ((remI (cvBI (List.getD at_ 0 0)) 60)).toNat z16) ((remB (List.getD at_ 1 0) 16)).toNat (xorB (List.getD (List.getD (pCommitted_r0 key l).1 ((remI (cvBI (List.getD at_ 0 0)) 60)).toNat z16) ((remB (List.getD at_ 1 0) 16)).toNat 0) (List.getD at_ 2 0)))), (([] : List ZR), ())) key).length : Nat) : Int) ≤ (((pCommitted_r1 key l).length : Nat) : Int))) then
  bif ((decide (0 ≤ (((tReplay_r1 ((List.set (pCommitted_r0 key l).1 ((remI (cvBI (List.getD at_ 0 0)) 60)).toNat (List.set (List.getD (pCommitted_r0 key l).1 ((remI (cvBI (List.getD at_ 0 0)) 60)).toNat z16) ((remB (List.getD at_ 1 0) 16)).toNat (xorB (List.getD (List.getD (pCommitted_r0 key l).1 ((remI (cvBI (List.getD at_ 0 0)) 60)).toNat z16) ((remB (List.getD at_ 1 0) 16)).toNat 0) (List.getD at_ 2 0)))), (([] : List ZR), ())) key).length : Nat) : Int))) && (decide ((((tReplay_r1 ((List.set (pCommitted_r0 key l).1 ((remI (cvBI (List.getD at_ 0 0)) 60)).toNat (List.set (List.getD (pCommitted_r0 key l).1 ((remI (cvBI (List.getD at_ 0 0)) 60)).toNat z16) ((remB (List.getD at_ 1 0) 16)).toNat (xorB (List.getD (List.getD (pCommitted_r0 key l).1 ((remI (cvBI (List.getD at_ 0 0)) 60)).toNat z16) ((remB (List.getD at_ 1 0) 16)).toNat 0) (List.getD at_ 2 0)))), (([] : List ZR), ())) key).length : Nat) : Int) ≤ (((pCommitted_r1 key l).length : Nat) : Int)))) then
  bif (uSameAll_P (tReplay_r1 ((List.set (pCommitted_r0 key l).1 ((remI (cvBI (List.getD at_ 0 0)) 60)).toNat (List.set (List.getD (pCommitted_r0 key l).1 ((remI (cvBI (List.getD at_ 0 0)) 60)).toNat z16) ((remB (List.getD at_ 1 0) 16)).toNat (xorB (List.getD (List.getD (pCommitted_r0 key l).1 ((remI (cvBI (List.getD at_ 0 0)) 60)).toNat z16) ((remB (List.getD at_ 1 0) 16)).toNat 0) (List.getD at_ 2 0)))), (([] : List ZR), ())) key) (List.take (tReplay_r1 ((List.set (pCommitted_r0 key l).1 ((remI (cvBI (List.getD at_ 0 0)) 60)).toNat (List.set (List.getD (pCommitted_r0 key l).1 ((remI (cvBI (List.getD at_ 0 0)) 60)).toNat z16) ((remB (List.getD at_ 1 0) 16)).toNat (xorB (List.getD (List.getD (pCommitted_r0 key l).1 ((remI (cvBI (List.getD at_ 0 0)) 60)).toNat z16) ((remB (List.getD at_ 1 0) 16)).toNat 0) (List.getD at_ 2 0)))), (([] : List ZR), ())) key).length (pCommitted_r1 key l))) then
  ret (uSameAll_r (tReplay_r1 ((List.set (pCommitted_r0 key l).1 ((remI (cvBI (List.getD at_ 0 0)) 60)).toNat (List.set (List.getD (pCommitted_r0 key l).1 ((remI (cvBI (List.getD at_ 0 0)) 60)).toNat z16) ((remB (List.getD at_ 1 0) 16)).toNat (xorB (List.getD (List.getD (pCommitted_r0 key l).1 ((remI (cvBI (List.getD at_ 0 0)) 60)).toNat z16) ((remB (List.getD at_ 1 0) 16)).toNat 0) (List.getD at_ 2 0)))), (([] : List ZR), ())) key) (List.take (tReplay_r1 ((List.set (pCommitted_r0 key l).1 ((remI (cvBI (List.getD at_ 0 0)) 60)).toNat (List.set (List.getD (pCommitted_r0 key l).1 ((remI (cvBI (List.getD at_ 0 0)) 60)).toNat z16) ((remB (List.getD at_ 1 0) 16)).toNat (xorB (List.getD (List.getD (pCommitted_r0 key l).1 ((remI (cvBI (List.getD at_ 0 0)) 60)).toNat z16) ((remB (List.getD at_ 1 0) 16)).toNat 0) (List.getD at_ 2 0)))), (([] : List ZR), ())) key).length (pCommitted_r1 key l)))
  else fail
  else fail
 else
 ret false
 else fail
 else fail
 else fail
 else fail
 else fail
 else fail
 else fail
 else fail
end Go.AI
