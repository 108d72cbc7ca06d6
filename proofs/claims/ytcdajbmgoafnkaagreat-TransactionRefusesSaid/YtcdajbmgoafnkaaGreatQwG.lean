/- Texts of the proof, joined: DiskG DigestG1 WireG WireG2 DigestG2 CipherG2 CipherG LogG TransG TransG2 TransG3 TransG9 TransG11. Names of our own are shortened by program; the long ones stand in wip/. -/
import Derived.Test.YtcdajbmgoafnkaaGreatQwS
set_option linter.unusedVariables false
namespace Go.AI
open Go
set_option linter.unusedVariables false
def K4h {X : Type} (F : Nat) (s : List ZB) (fail : X) (Ju3 : X → X → X) (ret : List ZB → X) : X :=
 bif (List.isEmpty s) then
  Ju3 (
   ret ([] : List ZB)) (
   bif (decide (s.length ≤ big)) then
   ret s
   else fail)
 else
 bif (decide (s.length ≤ big)) then
 ret s
 else fail
def K4i {X : Type} (F : Nat) (s : List ZR) (fail : X) (Ju3 : X → X → X) (ret : List ZR → X) : X :=
 bif (List.isEmpty s) then
  Ju3 (
   ret ([] : List ZR)) (
   bif (decide (s.length ≤ big)) then
   ret s
   else fail)
 else
 bif (decide (s.length ≤ big)) then
 ret s
 else fail
def Qe6 {X : Type} (F : Nat) (d_ : ZD) (at_ count : Int) (fail : X) (ret : Bool → X) : X :=
 bif (decide (at_ ≥ 0)) then
  bif (decide (count ≥ 0)) then
   bif (decide (at_ ≤ ((d_.1.length : Nat) : Int))) then
    ret (decide (count ≤ (Jby ((d_.1.length : Nat) : Int) at_)))
   else
   ret false
  else
  ret false
 else
 ret false
def dNew {X : Type} (F : Nat) (pages : Int) (fail : X) (ret : ZD → Int → X) : X :=
 bif (decide (pages < 1)) then
  ret (([] : List ZB), (([] : List ZR), ())) 2
 else
 bif (decide (pages > 8192)) then
  ret (([] : List ZB), (([] : List ZR), ())) 2
 else
 bif (((decide (0 ≤ pages)) && true) && (decide (pages ≤ ((big : Nat) : Int)))) then
 ret ((List.replicate (pages).toNat z16), (([] : List ZR), ())) (0 : Int)
 else fail
def Jyj {X : Type} (F : Nat) (fail : X) (next ex0 ex1 : List ZR → Int → Int → Int → ZD → X) (s : List ZR) (s4 s7 s8 : Int) (f : ZD) : X :=
 bif (decide (s8 < s7)) then
  bif ((decide (0 ≤ s8)) && (decide (s8 < (s.length : Int)))) then
  bif (decide ((List.getD s (s8).toNat (0, (z16, ()))).1 < 0)) then
   ex0 s s8 s7 s8 f
  else
  bif (decide ((List.getD s (s8).toNat (0, (z16, ()))).1 ≥ ((f.1.length : Nat) : Int))) then
   ex0 s s8 s7 s8 f
  else
  next s s4 s7 (Jag s8 1) f
  else fail
 else
 ex1 s s4 s7 s8 f
def Jlg {X : Type} (F : Nat) (fail : X) (ex0 ex1 : List ZR → Int → Int → Int → ZD → X) : Nat → List ZR → Int → Int → Int → ZD → X
 | 0, _, _, _, _, _ => fail
 | m + 1, s, s4, s7, s8, f => Jyj F fail (Jlg F fail ex0 ex1 m) ex0 ex1 s s4 s7 s8 f
def K4j {X : Type} (F : Nat) (d_ : ZD) (fail : X) (ret : Int → X) : X :=
 bif (decide (((d_.1.length : Nat) : Int) < 1)) then
  ret 2
 else
 bif (decide (((d_.1.length : Nat) : Int) > 8192)) then
  ret 2
 else
 Jlg F fail
  (fun s s4 s7 s8 f =>
   bif (decide (s4 ≥ 0)) then
    ret 2
   else
   ret 0)
  (fun s1 s41 s71 s81 f1 =>
   ret 0)
  F d_.2.1 0 ((d_.2.1.length : Nat) : Int) 0 d_
def Jpu {X : Type} (F : Nat) (fail : X) (next ex0 : List ZR → Int → Int → List ZB → X) (s10 : List ZR) (s11 s12 : Int) (out : List ZB) : X :=
 bif (decide (s12 < s11)) then
  bif ((decide (0 ≤ s12)) && (decide (s12 < (s10.length : Int)))) then
  bif ((decide (0 ≤ (List.getD s10 (s12).toNat (0, (z16, ()))).1)) && (decide ((List.getD s10 (s12).toNat (0, (z16, ()))).1 < (out.length : Int)))) then
  next s10 s11 (Jag s12 1) (List.set out ((List.getD s10 (s12).toNat (0, (z16, ()))).1).toNat (List.getD s10 (s12).toNat (0, (z16, ()))).2.1)
  else fail
  else fail
 else
 ex0 s10 s11 s12 out
def Jhq {X : Type} (F : Nat) (fail : X) (ex0 : List ZR → Int → Int → List ZB → X) : Nat → List ZR → Int → Int → List ZB → X
 | 0, _, _, _, _ => fail
 | m + 1, s10, s11, s12, out => Jpu F fail (Jhq F fail ex0 m) ex0 s10 s11 s12 out
def Kfr {X : Type} (F : Nat) (d_ : ZD) (fail : X) (ret : List ZB → X) : X :=
 bif (Jkk d_.1) then
 Jhq F fail
  (fun s10 s11 s12 out =>
   ret out)
  F d_.2.1 ((d_.2.1.length : Nat) : Int) 0 (Jtn d_.1)
 else fail
def Qe7 {X : Type} (F : Nat) (d_ : ZD) (at_ count : Int) (fail : X) (ret : List ZB → Int → X) : X :=
 bif (Jto d_) then
 bif ((Jkl d_) != 0) then
  ret ([] : List ZB) (Jkl d_)
 else
 bif (J0r d_ at_ count) then
 bif (!(Jrw d_ at_ count)) then
  ret ([] : List ZB) 2
 else
 bif (Jhm d_) then
 bif (((decide (0 ≤ at_)) && (decide (at_ ≤ (Jag at_ count)))) && (decide ((Jag at_ count) ≤ (((Jix d_).length : Nat) : Int)))) then
 bif (Jkk (List.take (((Jag at_ count)).toNat - (at_).toNat) (List.drop (at_).toNat (Jix d_)))) then
 ret (Jtn (List.take (((Jag at_ count)).toNat - (at_).toNat) (List.drop (at_).toNat (Jix d_)))) 0
 else fail
 else fail
 else fail
 else fail
 else fail
def Kfs {X : Type} (F : Nat) (fail : X) (next ex0 : List ZB → Int → Int → List (Int × (Int × ((List ZB) × Unit))) → Int → Int → Int → List (Int × (Int × ((List ZB) × Unit))) → Int → Int → List ZB → List ZR → (Int × (Int × ((List ZB) × Unit))) → ZD → X) (s18 : List ZB) (s19 s20 : Int) (l : List (Int × (Int × ((List ZB) × Unit)))) (s5 s6 i : Int) (s22 : List (Int × (Int × ((List ZB) × Unit)))) (s23 s24 : Int) (h1 : List ZB) (h2 : List ZR) (op : (Int × (Int × ((List ZB) × Unit)))) (s4 : ZD) : X :=
 bif (decide (s20 < s19)) then
  bif ((decide (0 ≤ s20)) && (decide (s20 < (s18.length : Int)))) then
  bif (decide ((h2 ++ ([((Jag op.2.1 s20), ((List.getD s18 (s20).toNat z16), ()))] : List ZR)).length ≤ big)) then
  next s18 s19 (Jag s20 (1 : Int)) l s5 s6 i s22 s23 s24 h1 (h2 ++ ([((Jag op.2.1 s20), ((List.getD s18 (s20).toNat z16), ()))] : List ZR)) op s4
  else fail
  else fail
 else
 ex0 s18 s19 s20 l s5 s6 i s22 s23 s24 h1 h2 op s4
def Jtz {X : Type} (F : Nat) (fail : X) (ex0 : List ZB → Int → Int → List (Int × (Int × ((List ZB) × Unit))) → Int → Int → Int → List (Int × (Int × ((List ZB) × Unit))) → Int → Int → List ZB → List ZR → (Int × (Int × ((List ZB) × Unit))) → ZD → X) : Nat → List ZB → Int → Int → List (Int × (Int × ((List ZB) × Unit))) → Int → Int → Int → List (Int × (Int × ((List ZB) × Unit))) → Int → Int → List ZB → List ZR → (Int × (Int × ((List ZB) × Unit))) → ZD → X
 | 0, _, _, _, _, _, _, _, _, _, _, _, _, _, _ => fail
 | m + 1, s18, s19, s20, l, s5, s6, i, s22, s23, s24, h1, h2, op, s4 => Kfs F fail (Jtz F fail ex0 m) ex0 s18 s19 s20 l s5 s6 i s22 s23 s24 h1 h2 op s4
def Kft {X : Type} (F : Nat) (fail : X) (next ex0 ex1 : List (Int × (Int × ((List ZB) × Unit))) → Int → Int → List (Int × (Int × ((List ZB) × Unit))) → Int → Int → ZD → List ZB → List ZR → X) (l : List (Int × (Int × ((List ZB) × Unit)))) (s5 s6 : Int) (s22 : List (Int × (Int × ((List ZB) × Unit)))) (s23 s24 : Int) (s4 : ZD) (h2 : List ZB) (h3 : List ZR) : X :=
 bif (decide (s24 < s23)) then
  bif ((decide (0 ≤ s24)) && (decide (s24 < (s22.length : Int)))) then
  bif (decide ((List.getD s22 (s24).toNat (0, (0, (([] : List ZB), ())))).1 ≥ 0)) then
   bif (decide ((List.getD s22 (s24).toNat (0, (0, (([] : List ZB), ())))).1 < 2)) then
    bif ((decide (0 ≤ (List.getD s22 (s24).toNat (0, (0, (([] : List ZB), ())))).1)) && (decide ((List.getD s22 (s24).toNat (0, (0, (([] : List ZB), ())))).1 < (2 : Int)))) then
    bif (Nat.beq ((List.getD s22 (s24).toNat (0, (0, (([] : List ZB), ())))).1).toNat 0) then
     bif (J0r (h2, (h3, ())) (List.getD s22 (s24).toNat (0, (0, (([] : List ZB), ())))).2.1 (((List.getD s22 (s24).toNat (0, (0, (([] : List ZB), ())))).2.2.1.length : Nat) : Int)) then
     bif (!(Jrw (h2, (h3, ())) (List.getD s22 (s24).toNat (0, (0, (([] : List ZB), ())))).2.1 (((List.getD s22 (s24).toNat (0, (0, (([] : List ZB), ())))).2.2.1.length : Nat) : Int))) then
      ex0 l s24 2 s22 s23 s24 (([] : List ZB), (([] : List ZR), ())) h2 h3
     else
     Jtz F fail
      (fun s18 s19 s20 l1 s51 s61 i s221 s231 s241 h1 h21 op s41 =>
       next l1 s51 s61 s221 s231 (Jag s241 1) s41 h1 h21)
      F (List.getD s22 (s24).toNat (0, (0, (([] : List ZB), ())))).2.2.1 (((List.getD s22 (s24).toNat (0, (0, (([] : List ZB), ())))).2.2.1.length : Nat) : Int) 0 l s5 s6 s24 s22 s23 s24 h2 h3 (List.getD s22 (s24).toNat (0, (0, (([] : List ZB), ())))) s4
     else fail
    else
    bif (Nat.beq ((List.getD s22 (s24).toNat (0, (0, (([] : List ZB), ())))).1).toNat 1) then
    bif (Jhm (h2, (h3, ()))) then
    next l s5 s6 s22 s23 (Jag s24 1) s4 (Jix (h2, (h3, ()))) ([] : List ZR)
    else fail
    else fail
    else fail
   else
   ex0 l s24 1 s22 s23 s24 (([] : List ZB), (([] : List ZR), ())) h2 h3
  else
  ex0 l s24 1 s22 s23 s24 (([] : List ZB), (([] : List ZR), ())) h2 h3
  else fail
 else
 ex1 l s5 s6 s22 s23 s24 s4 h2 h3
def Jpv {X : Type} (F : Nat) (fail : X) (ex0 ex1 : List (Int × (Int × ((List ZB) × Unit))) → Int → Int → List (Int × (Int × ((List ZB) × Unit))) → Int → Int → ZD → List ZB → List ZR → X) : Nat → List (Int × (Int × ((List ZB) × Unit))) → Int → Int → List (Int × (Int × ((List ZB) × Unit))) → Int → Int → ZD → List ZB → List ZR → X
 | 0, _, _, _, _, _, _, _, _, _ => fail
 | m + 1, l, s5, s6, s22, s23, s24, s4, h2, h3 => Kft F fail (Jpv F fail ex0 ex1 m) ex0 ex1 l s5 s6 s22 s23 s24 s4 h2 h3
def dRun {X : Type} (F : Nat) (d_ : ZD) (l : List (Int × (Int × ((List ZB) × Unit)))) (fail : X) (ret : ZD → Int → Int → X) : X :=
 bif (Jto d_) then
 bif ((Jkl d_) != 0) then
  ret (([] : List ZB), (([] : List ZR), ())) 0 (Jkl d_)
 else
 bif (Jkk d_.1) then
 bif (Jx6 d_.2.1) then
 Jpv F fail
  (fun l1 s5 s6 s22 s23 s24 s4 h2 h3 =>
   ret s4 s5 s6)
  (fun l2 s51 s61 s221 s231 s241 s41 h21 h31 =>
   ret (h21, (h31, ())) (l2.length : Int) 0)
  F l 0 0 l (l.length : Int) 0 (([] : List ZB), (([] : List ZR), ())) (Jtn d_.1) (J4l d_.2.1)
 else fail
 else fail
 else fail
end Go.AI
namespace Go.AI
open Go
set_option linter.unusedVariables false
def rotr {X : Type} (F : Nat) (x_ : UInt32) (n : Int) (fail : X) (ret : UInt32 → X) : X :=
 bif (decide (0 ≤ n)) then
 bif (decide (0 ≤ (Jby 32 n))) then
 ret (orW (Jqx x_ n) (Jwh x_ (Jby 32 n)))
 else fail
 else fail
def shr {X : Type} (F : Nat) (x_ : UInt32) (n : Int) (fail : X) (ret : UInt32 → X) : X :=
 bif (decide (0 ≤ n)) then
 ret (Jqx x_ n)
 else fail
def Kri {X : Type} (F : Nat) (x_ : UInt32) (a b c : Int) (fail : X) (ret : UInt32 → X) : X :=
 bif (Jve x_ a) then
 bif (Jve x_ b) then
 bif (Jve x_ c) then
 ret (Jgg (Jgg (J6m x_ a) (J6m x_ b)) (J6m x_ c))
 else fail
 else fail
 else fail
def Krj {X : Type} (F : Nat) (x_ : UInt32) (a b c : Int) (fail : X) (ret : UInt32 → X) : X :=
 bif (Jve x_ a) then
 bif (Jve x_ b) then
 bif (Qax x_ c) then
 ret (Jgg (Jgg (J6m x_ a) (J6m x_ b)) (Qe5 x_ c))
 else fail
 else fail
 else fail
def Qdd {X : Type} (F : Nat) (fail : X) (ret : ZW → X) : X :=
 ret (List.set (List.set (List.set (List.set (List.set (List.set (List.set (List.set (List.set (List.set (List.set (List.set (List.set (List.set (List.set (List.set (List.set (List.set (List.set (List.set (List.set (List.set (List.set (List.set (List.set (List.set (List.set (List.set (List.set (List.set (List.set (List.set (List.set (List.set (List.set (List.set (List.set (List.set (List.set (List.set (List.set (List.set (List.set (List.set (List.set (List.set (List.set (List.set (List.set (List.set (List.set (List.set (List.set (List.set (List.set (List.set (List.set (List.set (List.set (List.set (List.set (List.set (List.set (List.set (List.replicate 64 (0 : UInt32)) 0 (1116352408 : UInt32)) 1 (1899447441 : UInt32)) 2 (3049323471 : UInt32)) 3 (3921009573 : UInt32)) 4 (961987163 : UInt32)) 5 (1508970993 : UInt32)) 6 (2453635748 : UInt32)) 7 (2870763221 : UInt32)) 8 (3624381080 : UInt32)) 9 (310598401 : UInt32)) 10 (607225278 : UInt32)) 11 (1426881987 : UInt32)) 12 (1925078388 : UInt32)) 13 (2162078206 : UInt32)) 14 (2614888103 : UInt32)) 15 (3248222580 : UInt32)) 16 (3835390401 : UInt32)) 17 (4022224774 : UInt32)) 18 (264347078 : UInt32)) 19 (604807628 : UInt32)) 20 (770255983 : UInt32)) 21 (1249150122 : UInt32)) 22 (1555081692 : UInt32)) 23 (1996064986 : UInt32)) 24 (2554220882 : UInt32)) 25 (2821834349 : UInt32)) 26 (2952996808 : UInt32)) 27 (3210313671 : UInt32)) 28 (3336571891 : UInt32)) 29 (3584528711 : UInt32)) 30 (113926993 : UInt32)) 31 (338241895 : UInt32)) 32 (666307205 : UInt32)) 33 (773529912 : UInt32)) 34 (1294757372 : UInt32)) 35 (1396182291 : UInt32)) 36 (1695183700 : UInt32)) 37 (1986661051 : UInt32)) 38 (2177026350 : UInt32)) 39 (2456956037 : UInt32)) 40 (2730485921 : UInt32)) 41 (2820302411 : UInt32)) 42 (3259730800 : UInt32)) 43 (3345764771 : UInt32)) 44 (3516065817 : UInt32)) 45 (3600352804 : UInt32)) 46 (4094571909 : UInt32)) 47 (275423344 : UInt32)) 48 (430227734 : UInt32)) 49 (506948616 : UInt32)) 50 (659060556 : UInt32)) 51 (883997877 : UInt32)) 52 (958139571 : UInt32)) 53 (1322822218 : UInt32)) 54 (1537002063 : UInt32)) 55 (1747873779 : UInt32)) 56 (1955562222 : UInt32)) 57 (2024104815 : UInt32)) 58 (2227730452 : UInt32)) 59 (2361852424 : UInt32)) 60 (2428436474 : UInt32)) 61 (2756734187 : UInt32)) 62 (3204031479 : UInt32)) 63 (3329325298 : UInt32))
def Jyk {X : Type} (F : Nat) (fail : X) (next ex0 : Int → UInt32 → ZW → Int → ZB → Int → Int → ZW → ZB → ZW → ZW → ZW → X) (i : Int) (k : UInt32) (s10 : ZW) (s11 : Int) (s23 : ZB) (s24 s25 : Int) (x_ : ZW) (s1 : ZB) (w s s4 : ZW) : X :=
 bif (decide (s25 < s24)) then
  bif ((decide (0 ≤ s25)) && (decide (s25 < (s23.length : Int)))) then
  bif ((decide (0 ≤ i)) && (decide (i < (16 : Int)))) then
  bif ((decide (0 ≤ i)) && (decide (i < (16 : Int)))) then
  next i k s10 s11 s23 s24 (Jag s25 1) x_ s1 (List.set w (i).toNat (orW (Jwh (List.getD w (i).toNat 0) 8) (Jn1 (List.getD s23 (s25).toNat 0)))) s s4
  else fail
  else fail
  else fail
 else
 ex0 i k s10 s11 s23 s24 s25 x_ s1 w s s4
def Jhr {X : Type} (F : Nat) (fail : X) (ex0 : Int → UInt32 → ZW → Int → ZB → Int → Int → ZW → ZB → ZW → ZW → ZW → X) : Nat → Int → UInt32 → ZW → Int → ZB → Int → Int → ZW → ZB → ZW → ZW → ZW → X
 | 0, _, _, _, _, _, _, _, _, _, _, _, _ => fail
 | m + 1, i, k, s10, s11, s23, s24, s25, x_, s1, w, s, s4 => Jyk F fail (Jhr F fail ex0 m) ex0 i k s10 s11 s23 s24 s25 x_ s1 w s s4
def Jyl {X : Type} (F : Nat) (fail : X) (next ex0 : ZW → Int → ZW → ZB → ZW → ZW → ZW → X) (s10 : ZW) (s11 : Int) (x_ : ZW) (s1 : ZB) (w s s4 : ZW) : X :=
 bif (decide (s11 < 64)) then
  bif ((decide (0 ≤ s11)) && (decide (s11 < (64 : Int)))) then
  bif (decide (s11 < 16)) then
   bif (((decide (0 ≤ (Jfe 4 s11))) && (decide ((Jfe 4 s11) ≤ (Jag (Jfe 4 s11) 4)))) && (decide ((Jag (Jfe 4 s11) 4) ≤ (s1.length : Int)))) then
   Jhr F fail
    (fun i k s101 s111 s23 s24 s25 x_1 s12 w1 s2 s41 =>
     bif ((decide ((0 : Int) ≤ (Jb8 i (16 : Int)))) && (decide ((Jb8 i (16 : Int)) < ((16 : Nat) : Int)))) then
     bif (Jfj (List.getD x_1 4 0) 6 11 25 168) then
     bif (Jfj (List.getD x_1 0 0) 2 13 22 168) then
     next s101 (Jag s111 1) ([(Jbf (Jbf (Jbf (Jbf (List.getD x_1 7 0) (Jd7 (List.getD x_1 4 0) 6 11 25 168)) (Jgg (List.getD x_1 6 0) (Jxc (List.getD x_1 4 0) (Jgg (List.getD x_1 5 0) (List.getD x_1 6 0))))) (Jbf k (List.getD w1 ((Jb8 i 16)).toNat 0))) (Jbf (Jd7 (List.getD x_1 0 0) 2 13 22 168) (orW (Jxc (List.getD x_1 0 0) (List.getD x_1 1 0)) (Jxc (List.getD x_1 2 0) (orW (List.getD x_1 0 0) (List.getD x_1 1 0)))))), (List.getD x_1 0 0), (List.getD x_1 1 0), (List.getD x_1 2 0), (Jbf (List.getD x_1 3 0) (Jbf (Jbf (Jbf (List.getD x_1 7 0) (Jd7 (List.getD x_1 4 0) 6 11 25 168)) (Jgg (List.getD x_1 6 0) (Jxc (List.getD x_1 4 0) (Jgg (List.getD x_1 5 0) (List.getD x_1 6 0))))) (Jbf k (List.getD w1 ((Jb8 i 16)).toNat 0)))), (List.getD x_1 4 0), (List.getD x_1 5 0), (List.getD x_1 6 0)] : ZW) s12 w1 s2 s41
     else fail
     else fail
     else fail)
    F s11 (List.getD s10 (s11).toNat 0) s10 s11 (List.drop ((Jfe 4 s11)).toNat (List.take ((Jag (Jfe 4 s11) 4)).toNat s1)) (((List.drop ((Jfe 4 s11)).toNat (List.take ((Jag (Jfe 4 s11) 4)).toNat s1)).length : Nat) : Int) 0 x_ s1 w s s4
   else fail
  else
  bif ((decide ((0 : Int) ≤ (Jb8 (Jby s11 (15 : Int)) (16 : Int)))) && (decide ((Jb8 (Jby s11 (15 : Int)) (16 : Int)) < ((16 : Nat) : Int)))) then
  bif (Jfj (List.getD w ((Jb8 (Jby s11 15) 16)).toNat 0) 7 18 3 177) then
  bif ((decide ((0 : Int) ≤ (Jb8 (Jby s11 (2 : Int)) (16 : Int)))) && (decide ((Jb8 (Jby s11 (2 : Int)) (16 : Int)) < ((16 : Nat) : Int)))) then
  bif (Jfj (List.getD w ((Jb8 (Jby s11 2) 16)).toNat 0) 17 19 10 177) then
  bif ((decide ((0 : Int) ≤ (Jb8 s11 (16 : Int)))) && (decide ((Jb8 s11 (16 : Int)) < ((16 : Nat) : Int)))) then
  bif ((decide ((0 : Int) ≤ (Jb8 (Jby s11 (7 : Int)) (16 : Int)))) && (decide ((Jb8 (Jby s11 (7 : Int)) (16 : Int)) < ((16 : Nat) : Int)))) then
  bif ((decide ((0 : Int) ≤ (Jb8 s11 (16 : Int)))) && (decide ((Jb8 s11 (16 : Int)) < ((16 : Nat) : Int)))) then
  bif ((decide ((0 : Int) ≤ (Jb8 s11 (16 : Int)))) && (decide ((Jb8 s11 (16 : Int)) < ((16 : Nat) : Int)))) then
  bif (Jfj (List.getD x_ 4 0) 6 11 25 168) then
  bif (Jfj (List.getD x_ 0 0) 2 13 22 168) then
  next s10 (Jag s11 1) ([(Jbf (Jbf (Jbf (Jbf (List.getD x_ 7 0) (Jd7 (List.getD x_ 4 0) 6 11 25 168)) (Jgg (List.getD x_ 6 0) (Jxc (List.getD x_ 4 0) (Jgg (List.getD x_ 5 0) (List.getD x_ 6 0))))) (Jbf (List.getD s10 (s11).toNat 0) (List.getD (List.set w ((Jb8 s11 16)).toNat (Jbf (List.getD w ((Jb8 s11 16)).toNat 0) (Jbf (Jbf (Jd7 (List.getD w ((Jb8 (Jby s11 15) 16)).toNat 0) 7 18 3 177) (List.getD w ((Jb8 (Jby s11 7) 16)).toNat 0)) (Jd7 (List.getD w ((Jb8 (Jby s11 2) 16)).toNat 0) 17 19 10 177)))) ((Jb8 s11 16)).toNat 0))) (Jbf (Jd7 (List.getD x_ 0 0) 2 13 22 168) (orW (Jxc (List.getD x_ 0 0) (List.getD x_ 1 0)) (Jxc (List.getD x_ 2 0) (orW (List.getD x_ 0 0) (List.getD x_ 1 0)))))), (List.getD x_ 0 0), (List.getD x_ 1 0), (List.getD x_ 2 0), (Jbf (List.getD x_ 3 0) (Jbf (Jbf (Jbf (List.getD x_ 7 0) (Jd7 (List.getD x_ 4 0) 6 11 25 168)) (Jgg (List.getD x_ 6 0) (Jxc (List.getD x_ 4 0) (Jgg (List.getD x_ 5 0) (List.getD x_ 6 0))))) (Jbf (List.getD s10 (s11).toNat 0) (List.getD (List.set w ((Jb8 s11 16)).toNat (Jbf (List.getD w ((Jb8 s11 16)).toNat 0) (Jbf (Jbf (Jd7 (List.getD w ((Jb8 (Jby s11 15) 16)).toNat 0) 7 18 3 177) (List.getD w ((Jb8 (Jby s11 7) 16)).toNat 0)) (Jd7 (List.getD w ((Jb8 (Jby s11 2) 16)).toNat 0) 17 19 10 177)))) ((Jb8 s11 16)).toNat 0)))), (List.getD x_ 4 0), (List.getD x_ 5 0), (List.getD x_ 6 0)] : ZW) s1 (List.set w ((Jb8 s11 16)).toNat (Jbf (List.getD w ((Jb8 s11 16)).toNat 0) (Jbf (Jbf (Jd7 (List.getD w ((Jb8 (Jby s11 15) 16)).toNat 0) 7 18 3 177) (List.getD w ((Jb8 (Jby s11 7) 16)).toNat 0)) (Jd7 (List.getD w ((Jb8 (Jby s11 2) 16)).toNat 0) 17 19 10 177)))) s s4
  else fail
  else fail
  else fail
  else fail
  else fail
  else fail
  else fail
  else fail
  else fail
  else fail
  else fail
 else
 ex0 s10 s11 x_ s1 w s s4
def Jlh {X : Type} (F : Nat) (fail : X) (ex0 : ZW → Int → ZW → ZB → ZW → ZW → ZW → X) : Nat → ZW → Int → ZW → ZB → ZW → ZW → ZW → X
 | 0, _, _, _, _, _, _, _ => fail
 | m + 1, s10, s11, x_, s1, w, s, s4 => Jyl F fail (Jlh F fail ex0 m) ex0 s10 s11 x_ s1 w s s4
def Kk7 {X : Type} (F : Nat) (fail : X) (next ex0 : Int → ZW → ZW → ZW → X) (s71 : Int) (s s4 x_ : ZW) : X :=
 bif (decide (s71 < 8)) then
  bif ((decide (0 ≤ s71)) && (decide (s71 < (8 : Int)))) then
  bif ((decide (0 ≤ s71)) && (decide (s71 < (8 : Int)))) then
  bif ((decide (0 ≤ s71)) && (decide (s71 < (8 : Int)))) then
  next (Jag s71 1) s s4 (List.set x_ (s71).toNat (Jbf (List.getD x_ (s71).toNat 0) (List.getD s (s71).toNat 0)))
  else fail
  else fail
  else fail
 else
 ex0 s71 s s4 x_
def Jol {X : Type} (F : Nat) (fail : X) (ex0 : Int → ZW → ZW → ZW → X) : Nat → Int → ZW → ZW → ZW → X
 | 0, _, _, _, _ => fail
 | m + 1, s71, s, s4, x_ => Kk7 F fail (Jol F fail ex0 m) ex0 s71 s s4 x_
def K4k {X : Type} (F : Nat) (s : ZW) (block : ZB) (fail : X) (ret : ZW → X) : X :=
 bif (J4m) then
 Jlh F fail
  (fun s10 s11 x_ s1 w s2 s4 =>
   Jol F fail
    (fun s71 s3 s41 x_1 =>
     ret x_1)
    F 0 s2 s4 x_)
  F (Kfk) 0 s block ([0, 0, 0, 0, 0, 0, 0, 0, 0, 0, 0, 0, 0, 0, 0, 0] : ZW) s ([0, 0, 0, 0, 0, 0, 0, 0] : ZW)
 else fail
def hNew {X : Type} (F : Nat) (fail : X) (ret : ZH → X) : X :=
 ret (([1779033703, 3144134277, 1013904242, 2773480762, 1359893119, 2600822924, 528734635, 1541459225] : ZW), (([] : ZB), (0, ())))
def Kk8 {X : Type} (F : Nat) (fail : X) (next ex0 : ZB → ZW → Int → ZH → ZH → ZW → X) (b : ZB) (s13 : ZW) (s14 : Int) (h s4 : ZH) (s : ZW) : X :=
 bif (decide (s14 < 8)) then
  bif ((decide (0 ≤ s14)) && (decide (s14 < (8 : Int)))) then
  bif ((decide (0 ≤ s14)) && (decide (s14 < (8 : Int)))) then
  next b s13 (Jag s14 1) h s4 (List.set s (s14).toNat (List.getD s13 (s14).toNat 0))
  else fail
  else fail
 else
 ex0 b s13 s14 h s4 s
def Jt0 {X : Type} (F : Nat) (fail : X) (ex0 : ZB → ZW → Int → ZH → ZH → ZW → X) : Nat → ZB → ZW → Int → ZH → ZH → ZW → X
 | 0, _, _, _, _, _, _ => fail
 | m + 1, b, s13, s14, h, s4, s => Kk8 F fail (Jt0 F fail ex0 m) ex0 b s13 s14 h s4 s
def Jym {X : Type} (F : Nat) (fail : X) (next ex0 : ZB → ZB → ZH → ZH → ZW → X) (b all : ZB) (h s4 : ZH) (s : ZW) : X :=
 bif (decide ((all.length : Int) ≥ 64)) then
  bif (Jx7 s all) then
  bif (decide (64 ≤ (all.length : Int))) then
  next b (List.drop 64 all) h s4 (Kfl s all)
  else fail
  else fail
 else
 ex0 b all h s4 s
def Jli {X : Type} (F : Nat) (fail : X) (ex0 : ZB → ZB → ZH → ZH → ZW → X) : Nat → ZB → ZB → ZH → ZH → ZW → X
 | 0, _, _, _, _, _ => fail
 | m + 1, b, all, h, s4, s => Jym F fail (Jli F fail ex0 m) ex0 b all h s4 s
def Kk9 {X : Type} (F : Nat) (fail : X) (next ex0 : ZW → Int → ZH → ZW → (Int × Unit) → ZB → X) (s49 : ZW) (s50 : Int) (s4 : ZH) (out : ZW) (out1 : (Int × Unit)) (h2 : ZB) : X :=
 bif (decide (s50 < 8)) then
  bif ((decide (0 ≤ s50)) && (decide (s50 < (8 : Int)))) then
  bif ((decide (0 ≤ s50)) && (decide (s50 < (8 : Int)))) then
  next s49 (Jag s50 1) s4 (List.set out (s50).toNat (List.getD s49 (s50).toNat 0)) out1 h2
  else fail
  else fail
 else
 ex0 s49 s50 s4 out out1 h2
def Jt1 {X : Type} (F : Nat) (fail : X) (ex0 : ZW → Int → ZH → ZW → (Int × Unit) → ZB → X) : Nat → ZW → Int → ZH → ZW → (Int × Unit) → ZB → X
 | 0, _, _, _, _, _, _ => fail
 | m + 1, s49, s50, s4, out, out1, h2 => Kk9 F fail (Jt1 F fail ex0 m) ex0 s49 s50 s4 out out1 h2
def K4l {X : Type} (F : Nat) (h : ZH) (b : ZB) (fail : X) (ret : ZH → X) : X :=
 Jt0 F fail
  (fun b1 s13 s14 h1 s4 s =>
   bif (((decide (0 ≤ ((h1.2.1.length : Nat) : Int))) && (decide (((h1.2.1.length : Nat) : Int) ≤ ((h1.2.1.length : Nat) : Int)))) && (((h1.2.1.length : Nat) : Int) == ((h1.2.1.length : Nat) : Int))) then
   bif (decide (((List.take h1.2.1.length h1.2.1) ++ b1).length ≤ big)) then
   Jli F fail
    (fun b2 all h2 s41 s1 =>
     bif (decide (all.length ≤ big)) then
     Jt1 F fail
      (fun s49 s50 s42 out out1 h21 =>
       ret (out, (h21, out1)))
      F s1 0 s41 ([0, 0, 0, 0, 0, 0, 0, 0] : ZW) ((Jag h2.2.2.1 (b2.length : Int)), ()) all
     else fail)
    F b1 ((List.take h1.2.1.length h1.2.1) ++ b1) h1 s4 s
   else fail
   else fail)
  F b h.1 0 h (([0, 0, 0, 0, 0, 0, 0, 0] : ZW), (([] : ZB), (0, ()))) ([0, 0, 0, 0, 0, 0, 0, 0] : ZW)
def Jt2 {X : Type} (F : Nat) (fail : X) (next ex0 : Int → ZH → ZB → ZB → X) (shift : Int) (h : ZH) (s2 pad : ZB) : X :=
 bif (decide (shift ≥ 0)) then
  bif (decide (0 ≤ shift)) then
  bif (decide ((pad ++ ([(Jru (Jj7 (K35 (Kcm h.2.2.1) (8 : Int)) shift))] : ZB)).length ≤ big)) then
  next (Jby shift (8 : Int)) h s2 (pad ++ ([(Jru (Jj7 (K35 (Kcm h.2.2.1) (8 : Int)) shift))] : ZB))
  else fail
  else fail
 else
 ex0 shift h s2 pad
def Jfm {X : Type} (F : Nat) (fail : X) (ex0 : Int → ZH → ZB → ZB → X) : Nat → Int → ZH → ZB → ZB → X
 | 0, _, _, _, _ => fail
 | m + 1, shift, h, s2, pad => Jt2 F fail (Jfm F fail ex0 m) ex0 shift h s2 pad
def Kcw {X : Type} (F : Nat) (fail : X) (next ex0 : Int → UInt32 → ZW → Int → Int → ZB → ZB → X) (i : Int) (x_ : UInt32) (s35 : ZW) (s36 s40 : Int) (s2 out : ZB) : X :=
 bif (decide (s40 < 4)) then
  bif (decide (0 ≤ (Jby 24 (Jfe 8 s40)))) then
  bif ((decide (0 ≤ (Jag (Jfe 4 i) s40))) && (decide ((Jag (Jfe 4 i) s40) < (32 : Int)))) then
  next i x_ s35 s36 (Jag s40 1) s2 (List.set out ((Jag (Jfe 4 i) s40)).toNat (J3k (Jqx x_ (Jby 24 (Jfe 8 s40)))))
  else fail
  else fail
 else
 ex0 i x_ s35 s36 s40 s2 out
def Jwl {X : Type} (F : Nat) (fail : X) (ex0 : Int → UInt32 → ZW → Int → Int → ZB → ZB → X) : Nat → Int → UInt32 → ZW → Int → Int → ZB → ZB → X
 | 0, _, _, _, _, _, _, _ => fail
 | m + 1, i, x_, s35, s36, s40, s2, out => Kcw F fail (Jwl F fail ex0 m) ex0 i x_ s35 s36 s40 s2 out
def Kcx {X : Type} (F : Nat) (fail : X) (next ex0 : ZW → Int → ZB → ZB → X) (s35 : ZW) (s36 : Int) (s2 out : ZB) : X :=
 bif (decide (s36 < 8)) then
  bif ((decide (0 ≤ s36)) && (decide (s36 < (8 : Int)))) then
  Jwl F fail
   (fun i x_ s351 s361 s40 s21 out1 =>
    next s351 (Jag s361 1) s21 out1)
   F s36 (List.getD s35 (s36).toNat 0) s35 s36 0 s2 out
  else fail
 else
 ex0 s35 s36 s2 out
def Jpw {X : Type} (F : Nat) (fail : X) (ex0 : ZW → Int → ZB → ZB → X) : Nat → ZW → Int → ZB → ZB → X
 | 0, _, _, _, _ => fail
 | m + 1, s35, s36, s2, out => Kcx F fail (Jpw F fail ex0 m) ex0 s35 s36 s2 out
def Krk {X : Type} (F : Nat) (h : ZH) (fail : X) (ret : ZB → X) : X :=
 bif (((decide (0 ≤ (Jag 1 (Jb8 (Jby 119 ((h.2.1.length : Nat) : Int)) 64)))) && (decide ((Jag 1 (Jb8 (Jby 119 ((h.2.1.length : Nat) : Int)) 64)) ≤ 72))) && (decide (72 ≤ ((big : Nat) : Int)))) then
 bif (decide ((0 : Int) < (((List.replicate ((Jag (1 : Int) (Jb8 (Jby (119 : Int) ((h.2.1.length : Nat) : Int)) (64 : Int)))).toNat (0 : UInt8)).length : Nat) : Int))) then
 Jfm F fail
  (fun shift h1 s2 pad =>
   bif (Jdz h1 pad) then
   Jpw F fail
    (fun s35 s36 s21 out =>
     ret out)
    F (Jcq h1 pad).1 (0 : Int) s2 (List.replicate 32 (0 : UInt8))
   else fail)
  F (56 : Int) h (List.replicate 32 (0 : UInt8)) (List.set (List.replicate ((Jag (1 : Int) (Jb8 (Jby (119 : Int) ((h.2.1.length : Nat) : Int)) (64 : Int)))).toNat (0 : UInt8)) 0 (128 : UInt8))
 else fail
 else fail
def dSum {X : Type} (F : Nat) (b : ZB) (fail : X) (ret : ZB → X) : X :=
 bif (J2l) then
 bif (Jdz (Jgf) b) then
 bif (Jgl (Jcq (Jgf) b)) then
 ret (Jjs (Jcq (Jgf) b))
 else fail
 else fail
 else fail
def K4m {X : Type} (F : Nat) (fail : X) (ret : ZW → X) : X :=
 ret (List.set (List.set (List.set (List.set (List.set (List.set (List.set (List.set (List.set (List.set (List.set (List.set (List.set (List.set (List.set (List.set (List.set (List.set (List.set (List.set (List.set (List.set (List.set (List.set (List.set (List.set (List.set (List.set (List.set (List.set (List.set (List.set (List.set (List.set (List.set (List.set (List.set (List.set (List.set (List.set (List.set (List.set (List.set (List.set (List.set (List.set (List.set (List.set (List.set (List.set (List.set (List.set (List.set (List.set (List.set (List.set (List.set (List.set (List.set (List.set (List.set (List.set (List.set (List.set (List.replicate 64 (0 : UInt32)) 0 (1116352408 : UInt32)) 1 (1899447441 : UInt32)) 2 (3049323471 : UInt32)) 3 (3921009573 : UInt32)) 4 (961987163 : UInt32)) 5 (1508970993 : UInt32)) 6 (2453635748 : UInt32)) 7 (2870763221 : UInt32)) 8 (3624381080 : UInt32)) 9 (310598401 : UInt32)) 10 (607225278 : UInt32)) 11 (1426881987 : UInt32)) 12 (1925078388 : UInt32)) 13 (2162078206 : UInt32)) 14 (2614888103 : UInt32)) 15 (3248222580 : UInt32)) 16 (3835390401 : UInt32)) 17 (4022224774 : UInt32)) 18 (264347078 : UInt32)) 19 (604807628 : UInt32)) 20 (770255983 : UInt32)) 21 (1249150122 : UInt32)) 22 (1555081692 : UInt32)) 23 (1996064986 : UInt32)) 24 (2554220882 : UInt32)) 25 (2821834349 : UInt32)) 26 (2952996808 : UInt32)) 27 (3210313671 : UInt32)) 28 (3336571891 : UInt32)) 29 (3584528711 : UInt32)) 30 (113926993 : UInt32)) 31 (338241895 : UInt32)) 32 (666307205 : UInt32)) 33 (773529912 : UInt32)) 34 (1294757372 : UInt32)) 35 (1396182291 : UInt32)) 36 (1695183700 : UInt32)) 37 (1986661051 : UInt32)) 38 (2177026350 : UInt32)) 39 (2456956037 : UInt32)) 40 (2730485921 : UInt32)) 41 (2820302411 : UInt32)) 42 (3259730800 : UInt32)) 43 (3345764771 : UInt32)) 44 (3516065817 : UInt32)) 45 (3600352804 : UInt32)) 46 (4094571909 : UInt32)) 47 (275423344 : UInt32)) 48 (430227734 : UInt32)) 49 (506948616 : UInt32)) 50 (659060556 : UInt32)) 51 (883997877 : UInt32)) 52 (958139571 : UInt32)) 53 (1322822218 : UInt32)) 54 (1537002063 : UInt32)) 55 (1747873779 : UInt32)) 56 (1955562222 : UInt32)) 57 (2024104815 : UInt32)) 58 (2227730452 : UInt32)) 59 (2361852424 : UInt32)) 60 (2428436474 : UInt32)) 61 (2756734187 : UInt32)) 62 (3204031479 : UInt32)) 63 (3329325298 : UInt32))
def Qe8 {X : Type} (F : Nat) (x_ : UInt32) (n : Int) (fail : X) (ret : UInt32 → X) : X :=
 bif (decide (0 ≤ n)) then
 bif (decide (0 ≤ (Jby 32 n))) then
 ret (orW (Jqx x_ n) (Jwh x_ (Jby 32 n)))
 else fail
 else fail
def Jyn {X : Type} (F : Nat) (fail : X) (next ex0 : ZB → Int → Int → ZW → ZW → X) (block : ZB) (i k : Int) (s2 w : ZW) : X :=
 bif (decide (k < 4)) then
  bif ((decide (0 ≤ i)) && (decide (i < (64 : Int)))) then
  bif ((decide (0 ≤ (Jag (Jfe 4 i) k))) && (decide ((Jag (Jfe 4 i) k) < (block.length : Int)))) then
  bif ((decide (0 ≤ i)) && (decide (i < (64 : Int)))) then
  next block i (Jag k 1) s2 (List.set w (i).toNat (orW (Jwh (List.getD w (i).toNat 0) 8) (Jn1 (List.getD block ((Jag (Jfe 4 i) k)).toNat 0))))
  else fail
  else fail
  else fail
 else
 ex0 block i k s2 w
def Jhs {X : Type} (F : Nat) (fail : X) (ex0 : ZB → Int → Int → ZW → ZW → X) : Nat → ZB → Int → Int → ZW → ZW → X
 | 0, _, _, _, _, _ => fail
 | m + 1, block, i, k, s2, w => Jyn F fail (Jhs F fail ex0 m) ex0 block i k s2 w
def Jyo {X : Type} (F : Nat) (fail : X) (next ex0 : ZB → Int → ZW → ZW → X) (block : ZB) (i : Int) (s2 w : ZW) : X :=
 bif (decide (i < 16)) then
  Jhs F fail
   (fun block1 i1 k s21 w1 =>
    next block1 (Jag i1 1) s21 w1)
   F block i 0 s2 w
 else
 ex0 block i s2 w
def Jlj {X : Type} (F : Nat) (fail : X) (ex0 : ZB → Int → ZW → ZW → X) : Nat → ZB → Int → ZW → ZW → X
 | 0, _, _, _, _ => fail
 | m + 1, block, i, s2, w => Jyo F fail (Jlj F fail ex0 m) ex0 block i s2 w
def Jyp {X : Type} (F : Nat) (fail : X) (next ex0 : Int → ZW → ZW → X) (i : Int) (s2 w : ZW) : X :=
 bif (decide (i < 64)) then
  bif ((decide ((0 : Int) ≤ (Jby i (15 : Int)))) && (decide ((Jby i (15 : Int)) < ((64 : Nat) : Int)))) then
  bif (Jdl (List.getD w ((Jby i 15)).toNat 0) 7) then
  bif ((decide ((0 : Int) ≤ (Jby i (15 : Int)))) && (decide ((Jby i (15 : Int)) < ((64 : Nat) : Int)))) then
  bif (Jdl (List.getD w ((Jby i 15)).toNat 0) 18) then
  bif ((decide ((0 : Int) ≤ (Jby i (15 : Int)))) && (decide ((Jby i (15 : Int)) < ((64 : Nat) : Int)))) then
  bif ((decide ((0 : Int) ≤ (Jby i (2 : Int)))) && (decide ((Jby i (2 : Int)) < ((64 : Nat) : Int)))) then
  bif (Jdl (List.getD w ((Jby i 2)).toNat 0) 17) then
  bif ((decide ((0 : Int) ≤ (Jby i (2 : Int)))) && (decide ((Jby i (2 : Int)) < ((64 : Nat) : Int)))) then
  bif (Jdl (List.getD w ((Jby i 2)).toNat 0) 19) then
  bif ((decide ((0 : Int) ≤ (Jby i (2 : Int)))) && (decide ((Jby i (2 : Int)) < ((64 : Nat) : Int)))) then
  bif ((decide ((0 : Int) ≤ (Jby i (16 : Int)))) && (decide ((Jby i (16 : Int)) < ((64 : Nat) : Int)))) then
  bif ((decide ((0 : Int) ≤ (Jby i (7 : Int)))) && (decide ((Jby i (7 : Int)) < ((64 : Nat) : Int)))) then
  bif ((decide (0 ≤ i)) && (decide (i < (64 : Int)))) then
  next (Jag i 1) s2 (List.set w (i).toNat (Jbf (Jbf (Jbf (List.getD w ((Jby i 16)).toNat 0) (Jgg (Jgg (Jgi (List.getD w ((Jby i 15)).toNat 0) 7) (Jgi (List.getD w ((Jby i 15)).toNat 0) 18)) (Jqx (List.getD w ((Jby i 15)).toNat 0) 3))) (List.getD w ((Jby i 7)).toNat 0)) (Jgg (Jgg (Jgi (List.getD w ((Jby i 2)).toNat 0) 17) (Jgi (List.getD w ((Jby i 2)).toNat 0) 19)) (Jqx (List.getD w ((Jby i 2)).toNat 0) 10))))
  else fail
  else fail
  else fail
  else fail
  else fail
  else fail
  else fail
  else fail
  else fail
  else fail
  else fail
  else fail
  else fail
 else
 ex0 i s2 w
def Jlk {X : Type} (F : Nat) (fail : X) (ex0 : Int → ZW → ZW → X) : Nat → Int → ZW → ZW → X
 | 0, _, _, _ => fail
 | m + 1, i, s2, w => Jyp F fail (Jlk F fail ex0 m) ex0 i s2 w
def K4n {X : Type} (F : Nat) (block : ZB) (fail : X) (ret : ZW → X) : X :=
 Jlj F fail
  (fun block1 i s2 w =>
   Jlk F fail
    (fun i1 s21 w1 =>
     ret w1)
    F 16 s2 w)
  F block (0 : Int) (List.replicate 64 (0 : UInt32)) (List.replicate 64 (0 : UInt32))
def Jt3 {X : Type} (F : Nat) (fail : X) (next ex0 : UInt32 → UInt32 → UInt32 → UInt32 → UInt32 → UInt32 → UInt32 → UInt32 → Int → ZW → ZW → ZW → ZW → X) (a b c d_ e_ f g h : UInt32) (i : Int) (state s4 w k : ZW) : X :=
 bif (decide (i < 64)) then
  bif (Jdl e_ 6) then
  bif (Jdl e_ 11) then
  bif (Jdl e_ 25) then
  bif ((decide (0 ≤ i)) && (decide (i < (64 : Int)))) then
  bif ((decide (0 ≤ i)) && (decide (i < (64 : Int)))) then
  bif (Jdl a 2) then
  bif (Jdl a 13) then
  bif (Jdl a 22) then
  next (Jbf (Jbf (Jbf (Jbf (Jbf h (Jgg (Jgg (Jgi e_ 6) (Jgi e_ 11)) (Jgi e_ 25))) (Jgg (Jxc e_ f) (Jxc (K34 e_) g))) (List.getD k (i).toNat 0)) (List.getD w (i).toNat 0)) (Jbf (Jgg (Jgg (Jgi a 2) (Jgi a 13)) (Jgi a 22)) (Jgg (Jgg (Jxc a b) (Jxc a c)) (Jxc b c)))) a b c (Jbf d_ (Jbf (Jbf (Jbf (Jbf h (Jgg (Jgg (Jgi e_ 6) (Jgi e_ 11)) (Jgi e_ 25))) (Jgg (Jxc e_ f) (Jxc (K34 e_) g))) (List.getD k (i).toNat 0)) (List.getD w (i).toNat 0))) e_ f g (Jag i 1) state s4 w k
  else fail
  else fail
  else fail
  else fail
  else fail
  else fail
  else fail
  else fail
 else
 ex0 a b c d_ e_ f g h i state s4 w k
def Ji3 {X : Type} (F : Nat) (fail : X) (ex0 : UInt32 → UInt32 → UInt32 → UInt32 → UInt32 → UInt32 → UInt32 → UInt32 → Int → ZW → ZW → ZW → ZW → X) : Nat → UInt32 → UInt32 → UInt32 → UInt32 → UInt32 → UInt32 → UInt32 → UInt32 → Int → ZW → ZW → ZW → ZW → X
 | 0, _, _, _, _, _, _, _, _, _, _, _, _, _ => fail
 | m + 1, a, b, c, d_, e_, f, g, h, i, state, s4, w, k => Jt3 F fail (Ji3 F fail ex0 m) ex0 a b c d_ e_ f g h i state s4 w k
def Krl {X : Type} (F : Nat) (state : ZW) (block : ZB) (fail : X) (ret : ZW → X) : X :=
 bif (Jya block) then
 bif (Jx8) then
 Ji3 F fail
  (fun a b c d_ e_ f g h i state1 s4 w k =>
   ret ([(Jbf (List.getD state1 0 0) a), (Jbf (List.getD state1 1 0) b), (Jbf (List.getD state1 2 0) c), (Jbf (List.getD state1 3 0) d_), (Jbf (List.getD state1 4 0) e_), (Jbf (List.getD state1 5 0) f), (Jbf (List.getD state1 6 0) g), (Jbf (List.getD state1 7 0) h)] : ZW))
  F (List.getD state 0 0) (List.getD state 1 0) (List.getD state 2 0) (List.getD state 3 0) (List.getD state 4 0) (List.getD state 5 0) (List.getD state 6 0) (List.getD state 7 0) 0 state ([0, 0, 0, 0, 0, 0, 0, 0] : ZW) (J4n block) (Jx9)
 else fail
 else fail
def sNew {X : Type} (F : Nat) (fail : X) (ret : ZH → X) : X :=
 ret (([1779033703, 3144134277, 1013904242, 2773480762, 1359893119, 2600822924, 528734635, 1541459225] : ZW), (([] : ZB), (0, ())))
def K4o {X : Type} (F : Nat) (h : ZH) (fail : X) (ret : Int → X) : X :=
 bif (decide (h.2.2.1 < 0)) then
  ret 3
 else
 bif (decide (h.2.2.1 > 9007199254740991)) then
  ret 3
 else
 bif (((h.2.1.length : Nat) : Int) != (Jb8 h.2.2.1 64)) then
  ret 3
 else
 ret 0
def Jt4 {X : Type} (F : Nat) (fail : X) (next ex0 : ZB → ZH → ZH → X) (all : ZB) (h s4 : ZH) : X :=
 bif (decide ((all.length : Int) ≥ 64)) then
  bif (decide (64 ≤ (all.length : Int))) then
  bif (Jry h.1 (List.take 64 all)) then
  bif (decide (64 ≤ (all.length : Int))) then
  next (List.drop 64 all) ((Jn8 h.1 (List.take 64 all)), h.2) s4
  else fail
  else fail
  else fail
 else
 ex0 all h s4
def Ji4 {X : Type} (F : Nat) (fail : X) (ex0 : ZB → ZH → ZH → X) : Nat → ZB → ZH → ZH → X
 | 0, _, _, _ => fail
 | m + 1, all, h, s4 => Jt4 F fail (Ji4 F fail ex0 m) ex0 all h s4
def Krm {X : Type} (F : Nat) (h : ZH) (b : ZB) (fail : X) (ret : ZH → X) : X :=
 bif (decide (h.2.1.length ≤ big)) then
 bif (decide ((h.2.1 ++ b).length ≤ big)) then
 Ji4 F fail
  (fun all h1 s4 =>
   ret (h1.1, (all, h1.2.2)))
  F (h.2.1 ++ b) (h.1, (h.2.1, ((Jag h.2.2.1 ((b.length : Nat) : Int)), h.2.2.2))) (([(0 : UInt32), (0 : UInt32), (0 : UInt32), (0 : UInt32), (0 : UInt32), (0 : UInt32), (0 : UInt32), (0 : UInt32)] : ZW), (([] : ZB), ((0 : Int), ())))
 else fail
 else fail
def Jt5 {X : Type} (F : Nat) (fail : X) (next ex0 : Int → ZH → ZB → ZB → X) (bits : Int) (h : ZH) (s2 pad : ZB) : X :=
 bif ((Jb8 (Jag ((h.2.1.length : Nat) : Int) ((pad.length : Nat) : Int)) (64 : Int)) != (56 : Int)) then
  bif (decide ((pad ++ ([(0 : UInt8)] : ZB)).length ≤ big)) then
  next bits h s2 (pad ++ ([(0 : UInt8)] : ZB))
  else fail
 else
 ex0 bits h s2 pad
def Ji5 {X : Type} (F : Nat) (fail : X) (ex0 : Int → ZH → ZB → ZB → X) : Nat → Int → ZH → ZB → ZB → X
 | 0, _, _, _, _ => fail
 | m + 1, bits, h, s2, pad => Jt5 F fail (Ji5 F fail ex0 m) ex0 bits h s2 pad
def Jt6 {X : Type} (F : Nat) (fail : X) (next ex0 : Int → Int → ZH → ZB → ZB → X) (bits i : Int) (h : ZH) (s2 pad : ZB) : X :=
 bif (decide (i ≥ 0)) then
  bif (decide (0 ≤ (Jfe 8 i))) then
  bif (decide ((pad ++ ([(Jru (Jj7 bits (Jfe (8 : Int) i)))] : ZB)).length ≤ big)) then
  next bits (Jby i (1 : Int)) h s2 (pad ++ ([(Jru (Jj7 bits (Jfe (8 : Int) i)))] : ZB))
  else fail
  else fail
 else
 ex0 bits i h s2 pad
def Jfn {X : Type} (F : Nat) (fail : X) (ex0 : Int → Int → ZH → ZB → ZB → X) : Nat → Int → Int → ZH → ZB → ZB → X
 | 0, _, _, _, _, _ => fail
 | m + 1, bits, i, h, s2, pad => Jt6 F fail (Jfn F fail ex0 m) ex0 bits i h s2 pad
def Kcy {X : Type} (F : Nat) (fail : X) (next ex0 : Int → ZH → ZB → ZB → X) (i : Int) (h : ZH) (s2 out : ZB) : X :=
 bif (decide (i < 32)) then
  bif ((decide ((0 : Int) ≤ (Kkv i (4 : Int)))) && (decide ((Kkv i (4 : Int)) < ((8 : Nat) : Int)))) then
  bif (decide (0 ≤ (Jby 24 (Jfe 8 (Jb8 i 4))))) then
  bif ((decide (0 ≤ i)) && (decide (i < (32 : Int)))) then
  next (Jag i 1) h s2 (List.set out (i).toNat (J3k (Jqx (List.getD h.1 ((Kkv i 4)).toNat 0) (Jby 24 (Jfe 8 (Jb8 i 4))))))
  else fail
  else fail
  else fail
 else
 ex0 i h s2 out
def Jpx {X : Type} (F : Nat) (fail : X) (ex0 : Int → ZH → ZB → ZB → X) : Nat → Int → ZH → ZB → ZB → X
 | 0, _, _, _, _ => fail
 | m + 1, i, h, s2, out => Kcy F fail (Jpx F fail ex0 m) ex0 i h s2 out
def Krn {X : Type} (F : Nat) (h : ZH) (fail : X) (ret : ZB → Int → X) : X :=
 bif ((Jyb h) != 0) then
  ret (List.replicate 32 (0 : UInt8)) (3 : Int)
 else
 Ji5 F fail
  (fun bits h1 s2 pad =>
   Jfn F fail
    (fun bits1 i h2 s21 pad1 =>
     bif (Jh7 h2 pad1) then
     Jpx F fail
      (fun i1 h3 s22 out =>
       ret out 0)
      F (0 : Int) (Jn9 h2 pad1) s21 (List.replicate 32 (0 : UInt8))
     else fail)
    F bits 7 h1 s2 pad)
  F (K35 (Kcm h.2.2.1) (8 : Int)) h (List.replicate 32 (0 : UInt8)) ([(128 : UInt8)] : ZB)
def rSum {X : Type} (F : Nat) (b : ZB) (fail : X) (ret : ZB → X) : X :=
 bif (Kwx) then
 bif (Jh7 (J2n) b) then
 bif (Jrz (Jn9 (J2n) b)) then
 ret (Jtr (Jn9 (J2n) b))
 else fail
 else fail
 else fail
end Go.AI
namespace Go.AI
open Go
set_option linter.unusedVariables false
def Jbn  : ZB := [0, 1, 2, 2, 3, 3, 3, 3, 4, 4, 4, 4, 4, 4, 4, 4, 5, 5, 5, 5, 5, 5, 5, 5, 5, 5, 5, 5, 5, 5, 5, 5, 6, 6, 6, 6, 6, 6, 6, 6, 6, 6, 6, 6, 6, 6, 6, 6, 6, 6, 6, 6, 6, 6, 6, 6, 6, 6, 6, 6, 6, 6, 6, 6, 7, 7, 7, 7, 7, 7, 7, 7, 7, 7, 7, 7, 7, 7, 7, 7, 7, 7, 7, 7, 7, 7, 7, 7, 7, 7, 7, 7, 7, 7, 7, 7, 7, 7, 7, 7, 7, 7, 7, 7, 7, 7, 7, 7, 7, 7, 7, 7, 7, 7, 7, 7, 7, 7, 7, 7, 7, 7, 7, 7, 7, 7, 7, 7, 8, 8, 8, 8, 8, 8, 8, 8, 8, 8, 8, 8, 8, 8, 8, 8, 8, 8, 8, 8, 8, 8, 8, 8, 8, 8, 8, 8, 8, 8, 8, 8, 8, 8, 8, 8, 8, 8, 8, 8, 8, 8, 8, 8, 8, 8, 8, 8, 8, 8, 8, 8, 8, 8, 8, 8, 8, 8, 8, 8, 8, 8, 8, 8, 8, 8, 8, 8, 8, 8, 8, 8, 8, 8, 8, 8, 8, 8, 8, 8, 8, 8, 8, 8, 8, 8, 8, 8, 8, 8, 8, 8, 8, 8, 8, 8, 8, 8, 8, 8, 8, 8, 8, 8, 8, 8, 8, 8, 8, 8, 8, 8, 8, 8, 8, 8, 8, 8, 8, 8, 8, 8, 8, 8, 8, 8, 8, 8]
def J0z {X : Type} (F : Nat) (x_ : Int) (fail : X) (ret : Int → X) : X :=
 bif (decide (x_ ≥ 4294967296)) then
  bif (decide ((Jj7 x_ (32 : Int)) ≥ (65536 : Int))) then
   bif (decide ((Jj7 (Jj7 x_ (32 : Int)) (16 : Int)) ≥ (256 : Int))) then
    bif ((decide (0 ≤ ((((Jru (Jj7 (Jj7 (Jj7 x_ 32) 16) 8))).toNat : Nat) : Int))) && (decide (((((Jru (Jj7 (Jj7 (Jj7 x_ 32) 16) 8))).toNat : Nat) : Int) < (Jbn.length : Int)))) then
    ret (Jag 56 (Kkx (List.getD Jbn ((Jru (Jj7 (Jj7 (Jj7 x_ 32) 16) 8))).toNat 0)))
    else fail
   else
   bif ((decide (0 ≤ ((((Jru (Jj7 (Jj7 x_ 32) 16))).toNat : Nat) : Int))) && (decide (((((Jru (Jj7 (Jj7 x_ 32) 16))).toNat : Nat) : Int) < (Jbn.length : Int)))) then
   ret (Jag 48 (Kkx (List.getD Jbn ((Jru (Jj7 (Jj7 x_ 32) 16))).toNat 0)))
   else fail
  else
  bif (decide ((Jj7 x_ (32 : Int)) ≥ (256 : Int))) then
   bif ((decide (0 ≤ ((((Jru (Jj7 (Jj7 x_ 32) 8))).toNat : Nat) : Int))) && (decide (((((Jru (Jj7 (Jj7 x_ 32) 8))).toNat : Nat) : Int) < (Jbn.length : Int)))) then
   ret (Jag 40 (Kkx (List.getD Jbn ((Jru (Jj7 (Jj7 x_ 32) 8))).toNat 0)))
   else fail
  else
  bif ((decide (0 ≤ ((((Jru (Jj7 x_ 32))).toNat : Nat) : Int))) && (decide (((((Jru (Jj7 x_ 32))).toNat : Nat) : Int) < (Jbn.length : Int)))) then
  ret (Jag 32 (Kkx (List.getD Jbn ((Jru (Jj7 x_ 32))).toNat 0)))
  else fail
 else
 bif (decide (x_ ≥ 65536)) then
  bif (decide ((Jj7 x_ (16 : Int)) ≥ (256 : Int))) then
   bif ((decide (0 ≤ ((((Jru (Jj7 (Jj7 x_ 16) 8))).toNat : Nat) : Int))) && (decide (((((Jru (Jj7 (Jj7 x_ 16) 8))).toNat : Nat) : Int) < (Jbn.length : Int)))) then
   ret (Jag 24 (Kkx (List.getD Jbn ((Jru (Jj7 (Jj7 x_ 16) 8))).toNat 0)))
   else fail
  else
  bif ((decide (0 ≤ ((((Jru (Jj7 x_ 16))).toNat : Nat) : Int))) && (decide (((((Jru (Jj7 x_ 16))).toNat : Nat) : Int) < (Jbn.length : Int)))) then
  ret (Jag 16 (Kkx (List.getD Jbn ((Jru (Jj7 x_ 16))).toNat 0)))
  else fail
 else
 bif (decide (x_ ≥ 256)) then
  bif ((decide (0 ≤ ((((Jru (Jj7 x_ 8))).toNat : Nat) : Int))) && (decide (((((Jru (Jj7 x_ 8))).toNat : Nat) : Int) < (Jbn.length : Int)))) then
  ret (Jag 8 (Kkx (List.getD Jbn ((Jru (Jj7 x_ 8))).toNat 0)))
  else fail
 else
 bif ((decide (0 ≤ ((((Jru x_)).toNat : Nat) : Int))) && (decide (((((Jru x_)).toNat : Nat) : Int) < (Jbn.length : Int)))) then
 ret (Jag 0 (Kkx (List.getD Jbn ((Jru x_)).toNat 0)))
 else fail
def J6v {X : Type} (F : Nat) (x_ : UInt8) (fail : X) (ret : Int → X) : X :=
 bif ((decide (0 ≤ (((x_).toNat : Nat) : Int))) && (decide ((((x_).toNat : Nat) : Int) < (Jbn.length : Int)))) then
 ret (Kkx (List.getD Jbn (x_).toNat 0))
 else fail
def Kfu {X : Type} (F : Nat) (x_ : Int) (fail : X) (ret : Int → X) : X :=
 bif (Jnc x_) then
 ret (Jr0 x_)
 else fail
def Jid {X : Type} (F : Nat) (x_ : UInt8) (fail : X) (ret : Int → X) : X :=
 ret (Jby 8 (Jpk x_))
def J6w {X : Type} (F : Nat) (n : Int) (fail : X) (ret : Int → X) : X :=
 bif (decide (n < 0)) then
  ret 0
 else
 bif (decide (n > 9007199254740991)) then
  ret 0
 else
 ret n
def Jr7 {X : Type} (F : Nat) (n : Int) (fail : X) (ret : Int → X) : X :=
 bif (Jts (Kcm n)) then
 ret (Kkv (maxI 0 (Jby (Jtt (Kcm n)) 1)) 7)
 else fail
def Kcz {X : Type} (F : Nat) (s : ZB) (fail : X) (Ju3 : X → X → X) (ret : ZB → X) : X :=
 bif (List.isEmpty s) then
  Ju3 (
   ret ([] : ZB)) (
   bif (decide (s.length ≤ big)) then
   ret s
   else fail)
 else
 bif (decide (s.length ≤ big)) then
 ret s
 else fail
def Jpy {X : Type} (F : Nat) (fail : X) (next ex0 : Int → Int → ZB → X) (n i : Int) (dst : ZB) : X :=
 bif (decide (i ≥ 0)) then
  bif (decide (0 ≤ (Jfe 8 i))) then
  bif (decide ((dst ++ ([(Kjg (Kkw n (Jfe (8 : Int) i)))] : ZB)).length ≤ big)) then
  next n (Jby i (1 : Int)) (dst ++ ([(Kjg (Kkw n (Jfe (8 : Int) i)))] : ZB))
  else fail
  else fail
 else
 ex0 n i dst
def Jht {X : Type} (F : Nat) (fail : X) (ex0 : Int → Int → ZB → X) : Nat → Int → Int → ZB → X
 | 0, _, _, _ => fail
 | m + 1, n, i, dst => Jpy F fail (Jht F fail ex0 m) ex0 n i dst
def Kfv {X : Type} (F : Nat) (dst : ZB) (n : Int) (fail : X) (ret : ZB → X) : X :=
 bif (Jdi (Jbx n)) then
 bif (decide (0 ≤ (Jby 8 (Jbe (Jbx n))))) then
 bif (decide (0 ≤ (Jfe 8 (Jbe (Jbx n))))) then
 bif (decide ((dst ++ ([(orB (shlB (255 : UInt8) (Jby (8 : Int) (Jbe (Jbx n)))) (Kjg (Kkw (Jbx n) (Jfe (8 : Int) (Jbe (Jbx n))))))] : ZB)).length ≤ big)) then
 Jht F fail
  (fun n1 i dst1 =>
   ret dst1)
  F (Jbx n) (Jby (Jbe (Jbx n)) (1 : Int)) (dst ++ ([(orB (shlB (255 : UInt8) (Jby (8 : Int) (Jbe (Jbx n)))) (Kjg (Kkw (Jbx n) (Jfe (8 : Int) (Jbe (Jbx n))))))] : ZB))
 else fail
 else fail
 else fail
 else fail
def Jwm {X : Type} (F : Nat) (dst : ZB) (n : Int) (fail : X) (ret : ZB → X) : X :=
 bif (Jbh dst) then
 bif (Jlc (Jb4 dst) n) then
 ret (Job (Jb4 dst) n)
 else fail
 else fail
def Jpz {X : Type} (F : Nat) (fail : X) (next ex0 : ZB → Int → Int → ZB → Int → Int → X) (src : ZB) (k n : Int) (s33 : ZB) (s34 s35 : Int) : X :=
 bif (decide (s35 < s34)) then
  bif ((decide (0 ≤ s35)) && (decide (s35 < (s33.length : Int)))) then
  next src k (orI (Qey n 8) (Kkx (List.getD s33 (s35).toNat 0))) s33 s34 (Jag s35 1)
  else fail
 else
 ex0 src k n s33 s34 s35
def Jhu {X : Type} (F : Nat) (fail : X) (ex0 : ZB → Int → Int → ZB → Int → Int → X) : Nat → ZB → Int → Int → ZB → Int → Int → X
 | 0, _, _, _, _, _, _ => fail
 | m + 1, src, k, n, s33, s34, s35 => Jpz F fail (Jhu F fail ex0 m) ex0 src k n s33 s34 s35
def Kfw {X : Type} (F : Nat) (src : ZB) (fail : X) (ret : Int → ZB → Int → X) : X :=
 bif ((src.length : Int) == 0) then
  ret 0 ([] : ZB) 9
 else
 bif (decide (0 < (src.length : Int))) then
 bif (decide ((Jav (K9n (List.getD src 0 0))) > 7)) then
  ret 0 ([] : ZB) 3
 else
 bif (decide ((src.length : Int) ≤ (Jav (K9n (List.getD src 0 0))))) then
  ret 0 ([] : ZB) 9
 else
 bif (decide (0 < (src.length : Int))) then
 bif (decide (0 ≤ (Jav (K9n (List.getD src 0 0))))) then
 bif ((decide (1 ≤ (Jag (Jav (K9n (List.getD src 0 0))) 1))) && (decide ((Jag (Jav (K9n (List.getD src 0 0))) 1) ≤ (src.length : Int)))) then
 Jhu F fail
  (fun src1 k n s33 s34 s35 =>
   bif (decide (n > 9007199254740991)) then
    ret 0 ([] : ZB) 3
   else
   bif (Jdi n) then
   bif ((Jbe n) != k) then
    ret 0 ([] : ZB) 3
   else
   bif ((decide (0 ≤ (Jag k 1))) && (decide ((Jag k 1) ≤ (src1.length : Int)))) then
   bif (Jbh (List.drop ((Jag k 1)).toNat src1)) then
   ret n (Jb4 (List.drop ((Jag k 1)).toNat src1)) 0
   else fail
   else fail
   else fail)
  F src (Jav (K9n (List.getD src 0 0))) (Kkx (andB (List.getD src 0 0) (shrB 127 (Jav (K9n (List.getD src 0 0)))))) (List.drop 1 (List.take ((Jag (Jav (K9n (List.getD src 0 0))) 1)).toNat src)) (((List.drop 1 (List.take ((Jag (Jav (K9n (List.getD src 0 0))) 1)).toNat src)).length : Nat) : Int) 0
 else fail
 else fail
 else fail
 else fail
end Go.AI
namespace Go.AI
open Go
set_option linter.unusedVariables false
def Jgp {X : Type} (F : Nat) (fail : X) (next ex0 : ZB → Int → Int → ZB → X) (s14 : ZB) (s15 s16 : Int) (dst : ZB) : X :=
 bif (decide (s16 < s15)) then
  bif ((decide (0 ≤ s16)) && (decide (s16 < (s14.length : Int)))) then
  bif (decide ((dst ++ ([(List.getD s14 (s16).toNat (0 : UInt8))] : ZB)).length ≤ big)) then
  next s14 s15 (Jag s16 (1 : Int)) (dst ++ ([(List.getD s14 (s16).toNat (0 : UInt8))] : ZB))
  else fail
  else fail
 else
 ex0 s14 s15 s16 dst
def Jdk {X : Type} (F : Nat) (fail : X) (ex0 : ZB → Int → Int → ZB → X) : Nat → ZB → Int → Int → ZB → X
 | 0, _, _, _, _ => fail
 | m + 1, s14, s15, s16, dst => Jgp F fail (Jdk F fail ex0 m) ex0 s14 s15 s16 dst
def Jp0 {X : Type} (F : Nat) (dst b : ZB) (fail : X) (ret : ZB → X) : X :=
 bif (Jbh dst) then
 bif (Jlc (Jb4 dst) (b.length : Int)) then
 Jdk F fail
  (fun s14 s15 s16 dst1 =>
   ret dst1)
  F b (b.length : Int) 0 (Job (Jb4 dst) (b.length : Int))
 else fail
 else fail
def J00 {X : Type} (F : Nat) (src : ZB) (fail : X) (ret : ZB → ZB → Int → X) : X :=
 bif (Jef src) then
 bif ((Jbb src) == 0) then
  bif (decide ((Jao src) > 65536)) then
   ret ([] : ZB) ([] : ZB) 5
  else
  bif ((Jbb src) != 0) then
   ret ([] : ZB) ([] : ZB) (Jbb src)
  else
  bif (decide ((((Jam src).length : Nat) : Int) < (Jao src))) then
   ret ([] : ZB) ([] : ZB) 9
  else
  bif ((decide (0 ≤ (Jao src))) && (decide ((Jao src) ≤ (((Jam src).length : Nat) : Int)))) then
  bif (Jbh (List.take ((Jao src)).toNat (Jam src))) then
  bif ((decide (0 ≤ (Jao src))) && (decide ((Jao src) ≤ (((Jam src).length : Nat) : Int)))) then
  bif (Jbh (List.drop ((Jao src)).toNat (Jam src))) then
  ret (Jb4 (List.take ((Jao src)).toNat (Jam src))) (Jb4 (List.drop ((Jao src)).toNat (Jam src))) 0
  else fail
  else fail
  else fail
  else fail
 else
 bif ((Jbb src) != 0) then
  ret ([] : ZB) ([] : ZB) (Jbb src)
 else
 bif (decide ((((Jam src).length : Nat) : Int) < (Jao src))) then
  ret ([] : ZB) ([] : ZB) 9
 else
 bif ((decide (0 ≤ (Jao src))) && (decide ((Jao src) ≤ (((Jam src).length : Nat) : Int)))) then
 bif (Jbh (List.take ((Jao src)).toNat (Jam src))) then
 bif ((decide (0 ≤ (Jao src))) && (decide ((Jao src) ≤ (((Jam src).length : Nat) : Int)))) then
 bif (Jbh (List.drop ((Jao src)).toNat (Jam src))) then
 ret (Jb4 (List.take ((Jao src)).toNat (Jam src))) (Jb4 (List.drop ((Jao src)).toNat (Jam src))) 0
 else fail
 else fail
 else fail
 else fail
 else fail
end Go.AI
namespace Go.AI
open Go
set_option linter.unusedVariables false
def Jyq {X : Type} (F : Nat) (fail : X) (next ex0 : UInt8 → Int → Int → ZB → X) (by_ : UInt8) (s19 s20 : Int) (out : ZB) : X :=
 bif (decide (s20 < s19)) then
  bif ((decide (0 ≤ s20)) && (decide (s20 < (out.length : Int)))) then
  bif ((decide (0 ≤ s20)) && (decide (s20 < (out.length : Int)))) then
  next by_ s19 (Jag s20 1) (List.set out (s20).toNat (Jpj (List.getD out (s20).toNat 0) by_))
  else fail
  else fail
 else
 ex0 by_ s19 s20 out
def Ji6 {X : Type} (F : Nat) (fail : X) (ex0 : UInt8 → Int → Int → ZB → X) : Nat → UInt8 → Int → Int → ZB → X
 | 0, _, _, _, _ => fail
 | m + 1, by_, s19, s20, out => Jyq F fail (Ji6 F fail ex0 m) ex0 by_ s19 s20 out
def K4p {X : Type} (F : Nat) (key : ZB) (by_ : UInt8) (fail : X) (ret : ZB → X) : X :=
 bif (decide ((key.length : Int) > 64)) then
  bif (Kk2 key) then
  bif (decide (64 ≤ ((big : Nat) : Int))) then
  Ji6 F fail
   (fun by_1 s19 s20 out =>
    ret out)
   F by_ (((((List.take 0 (List.replicate 64 (0 : UInt8))) ++ (List.take (min (List.take 32 (Jvf key)).length (List.replicate 64 (0 : UInt8)).length) (List.take 32 (Jvf key)))) ++ (List.drop (0 + (min (List.take 32 (Jvf key)).length (List.replicate 64 (0 : UInt8)).length)) (List.replicate 64 (0 : UInt8)))).length : Nat) : Int) (0 : Int) (((List.take 0 (List.replicate 64 (0 : UInt8))) ++ (List.take (min (List.take 32 (Jvf key)).length (List.replicate 64 (0 : UInt8)).length) (List.take 32 (Jvf key)))) ++ (List.drop (0 + (min (List.take 32 (Jvf key)).length (List.replicate 64 (0 : UInt8)).length)) (List.replicate 64 (0 : UInt8))))
  else fail
  else fail
 else
 bif (decide (64 ≤ ((big : Nat) : Int))) then
 Ji6 F fail
  (fun by_2 s191 s201 out1 =>
   ret out1)
  F by_ (((((List.take 0 (List.replicate 64 (0 : UInt8))) ++ (List.take (min key.length (List.replicate 64 (0 : UInt8)).length) key)) ++ (List.drop (0 + (min key.length (List.replicate 64 (0 : UInt8)).length)) (List.replicate 64 (0 : UInt8)))).length : Nat) : Int) (0 : Int) (((List.take 0 (List.replicate 64 (0 : UInt8))) ++ (List.take (min key.length (List.replicate 64 (0 : UInt8)).length) key)) ++ (List.drop (0 + (min key.length (List.replicate 64 (0 : UInt8)).length)) (List.replicate 64 (0 : UInt8))))
 else fail
def dMac {X : Type} (F : Nat) (key b : ZB) (fail : X) (ret : ZB → X) : X :=
 bif (J2l) then
 bif (Jtq key 54) then
 bif (Jdz (Jgf) (Jd9 key 54)) then
 bif (Jdz (Jcq (Jgf) (Jd9 key 54)) b) then
 bif (Jgl (Jcq (Jcq (Jgf) (Jd9 key 54)) b)) then
 bif (J2l) then
 bif (Jtq key 92) then
 bif (Jdz (Jgf) (Jd9 key 92)) then
 bif (Jdz (Jcq (Jgf) (Jd9 key 92)) (List.take 32 (Jjs (Jcq (Jcq (Jgf) (Jd9 key 54)) b)))) then
 bif (Jgl (Jcq (Jcq (Jgf) (Jd9 key 92)) (List.take 32 (Jjs (Jcq (Jcq (Jgf) (Jd9 key 54)) b))))) then
 ret (Jjs (Jcq (Jcq (Jgf) (Jd9 key 92)) (List.take 32 (Jjs (Jcq (Jcq (Jgf) (Jd9 key 54)) b)))))
 else fail
 else fail
 else fail
 else fail
 else fail
 else fail
 else fail
 else fail
 else fail
 else fail
def Kfx {X : Type} (F : Nat) (fail : X) (next ex0 : ZB → Int → ZB → ZB → ZB → ZB → X) (b : ZB) (i : Int) (s4 k inner outer : ZB) : X :=
 bif (decide (i < 64)) then
  bif ((decide (0 ≤ i)) && (decide (i < (64 : Int)))) then
  bif (decide ((inner ++ ([(Jpj (List.getD k (i).toNat (0 : UInt8)) (54 : UInt8))] : ZB)).length ≤ big)) then
  bif ((decide (0 ≤ i)) && (decide (i < (64 : Int)))) then
  bif (decide ((outer ++ ([(Jpj (List.getD k (i).toNat (0 : UInt8)) (92 : UInt8))] : ZB)).length ≤ big)) then
  next b (Jag i (1 : Int)) s4 k (inner ++ ([(Jpj (List.getD k (i).toNat (0 : UInt8)) (54 : UInt8))] : ZB)) (outer ++ ([(Jpj (List.getD k (i).toNat (0 : UInt8)) (92 : UInt8))] : ZB))
  else fail
  else fail
  else fail
  else fail
 else
 ex0 b i s4 k inner outer
def Jp1 {X : Type} (F : Nat) (fail : X) (ex0 : ZB → Int → ZB → ZB → ZB → ZB → X) : Nat → ZB → Int → ZB → ZB → ZB → ZB → X
 | 0, _, _, _, _, _, _ => fail
 | m + 1, b, i, s4, k, inner, outer => Kfx F fail (Jp1 F fail ex0 m) ex0 b i s4 k inner outer
def rMac {X : Type} (F : Nat) (key b : ZB) (fail : X) (ret : ZB → X) : X :=
 bif (decide ((key.length : Int) > 64)) then
  bif (Joa key) then
  Jp1 F fail
   (fun b1 i s4 k inner outer =>
    bif (decide ((inner ++ b1).length ≤ big)) then
    bif (Joa (inner ++ b1)) then
    bif (decide ((outer ++ (List.take 32 (Jgm (inner ++ b1)))).length ≤ big)) then
    bif (Joa (outer ++ (List.take 32 (Jgm (inner ++ b1))))) then
    ret (Jgm (outer ++ (List.take 32 (Jgm (inner ++ b1)))))
    else fail
    else fail
    else fail
    else fail)
   F b (0 : Int) (List.replicate 32 (0 : UInt8)) (((List.take 0 (List.replicate 64 (0 : UInt8))) ++ (List.take (min (List.take 32 (Jgm key)).length 64) (List.take 32 (Jgm key)))) ++ (List.drop (0 + (min (List.take 32 (Jgm key)).length 64)) (List.replicate 64 (0 : UInt8)))) ([] : ZB) ([] : ZB)
  else fail
 else
 Jp1 F fail
  (fun b2 i1 s41 k1 inner1 outer1 =>
   bif (decide ((inner1 ++ b2).length ≤ big)) then
   bif (Joa (inner1 ++ b2)) then
   bif (decide ((outer1 ++ (List.take 32 (Jgm (inner1 ++ b2)))).length ≤ big)) then
   bif (Joa (outer1 ++ (List.take 32 (Jgm (inner1 ++ b2))))) then
   ret (Jgm (outer1 ++ (List.take 32 (Jgm (inner1 ++ b2)))))
   else fail
   else fail
   else fail
   else fail)
  F b (0 : Int) (List.replicate 32 (0 : UInt8)) (((List.take 0 (List.replicate 64 (0 : UInt8))) ++ (List.take (min key.length 64) key)) ++ (List.drop (0 + (min key.length 64)) (List.replicate 64 (0 : UInt8)))) ([] : ZB) ([] : ZB)
end Go.AI
namespace Go.AI
open Go
set_option linter.unusedVariables false
def Qe9 {X : Type} (F : Nat) (key : ZB) (fail : X) (ret : ZB → ZB → X) : X :=
 bif (Jrx key ([101, 110, 99, 114, 121, 112, 116] : ZB)) then
 bif (Jrx key ([97, 117, 116, 104, 101, 110, 116, 105, 99, 97, 116, 101] : ZB)) then
 ret (J2m key ([101, 110, 99, 114, 121, 112, 116] : ZB)) (J2m key ([97, 117, 116, 104, 101, 110, 116, 105, 99, 97, 116, 101] : ZB))
 else fail
 else fail
def Kfy {X : Type} (F : Nat) (fail : X) (next ex0 : Int → ZB → Int → ZB → ZB → X) (nonce : Int) (b : ZB) (s10 : Int) (key l : ZB) : X :=
 bif (decide (s10 < 8)) then
  bif (decide (0 ≤ (Jfe 8 s10))) then
  bif (decide ((l ++ ([(Kjg (Kkw nonce (Jfe (8 : Int) s10)))] : ZB)).length ≤ big)) then
  next nonce b (Jag s10 (1 : Int)) key (l ++ ([(Kjg (Kkw nonce (Jfe (8 : Int) s10)))] : ZB))
  else fail
  else fail
 else
 ex0 nonce b s10 key l
def Jt7 {X : Type} (F : Nat) (fail : X) (ex0 : Int → ZB → Int → ZB → ZB → X) : Nat → Int → ZB → Int → ZB → ZB → X
 | 0, _, _, _, _, _ => fail
 | m + 1, nonce, b, s10, key, l => Kfy F fail (Jt7 F fail ex0 m) ex0 nonce b s10 key l
def cTag {X : Type} (F : Nat) (key : ZB) (nonce : Int) (b : ZB) (fail : X) (ret : ZB → X) : X :=
 Jt7 F fail
  (fun nonce1 b1 s10 Jn2 l =>
   bif (decide ((l ++ b1).length ≤ big)) then
   bif (Jrx (List.take 32 Jn2) (l ++ b1)) then
   ret (List.take 16 (J2m (List.take 32 Jn2) (l ++ b1)))
   else fail
   else fail)
  F nonce b 0 key ([] : ZB)
def Kro {X : Type} (F : Nat) (key : ZB) (fail : X) (ret : Bool → X) : X :=
 bif (decide ((key.length : Int) ≥ 1)) then
  ret (decide ((key.length : Int) ≤ 64))
 else
 ret false
def J4w {X : Type} (F : Nat) (fail : X) (next ex0 : Int → Int → ZB → Int → ZB → ZB → ZB → ZB → ZB → X) (nonce s10 : Int) (key : ZB) (nonce1 : Int) (b b1 Jn2 l authenticate : ZB) : X :=
 bif (decide (s10 < 8)) then
  bif (decide (0 ≤ (Jfe 8 s10))) then
  bif (decide ((l ++ ([(Kjg (Kkw nonce (Jfe (8 : Int) s10)))] : ZB)).length ≤ big)) then
  next nonce (Jag s10 (1 : Int)) key nonce1 b b1 Jn2 (l ++ ([(Kjg (Kkw nonce (Jfe (8 : Int) s10)))] : ZB)) authenticate
  else fail
  else fail
 else
 ex0 nonce s10 key nonce1 b b1 Jn2 l authenticate
def Jom {X : Type} (F : Nat) (fail : X) (ex0 : Int → Int → ZB → Int → ZB → ZB → ZB → ZB → ZB → X) : Nat → Int → Int → ZB → Int → ZB → ZB → ZB → ZB → ZB → X
 | 0, _, _, _, _, _, _, _, _, _ => fail
 | m + 1, nonce, s10, key, nonce1, b, b1, Jn2, l, authenticate => J4w F fail (Jom F fail ex0 m) ex0 nonce s10 key nonce1 b b1 Jn2 l authenticate
def Qfa {X : Type} (F : Nat) (key : ZB) (nonce : Int) (b : ZB) (fail : X) (ret : ZB → Int → X) : X :=
 bif (!(Jl5 key)) then
  ret ([] : ZB) 1
 else
 bif (decide ((b.length : Int) > 65520)) then
  ret ([] : ZB) 5
 else
 bif (Jpm key) then
 bif (Jl4 (Jfb key) nonce b) then
 bif ((Jga (Jfb key) nonce b) != 0) then
  ret ([] : ZB) (Jga (Jfb key) nonce b)
 else
 Jom F fail
  (fun nonce1 s10 Jn2 nonce2 b1 b2 key2 l authenticate =>
   bif (decide ((l ++ b2).length ≤ big)) then
   bif (Jrx (List.take 32 key2) (l ++ b2)) then
   bif (decide ((b2 ++ (List.take 16 (J2m (List.take 32 key2) (l ++ b2)))).length ≤ big)) then
   ret (b2 ++ (List.take 16 (J2m (List.take 32 key2) (l ++ b2)))) (0 : Int)
   else fail
   else fail
   else fail)
  F nonce 0 key nonce b (Jiy (Jfb key) nonce b) (Jgo key) ([] : ZB) (Jgo key)
 else fail
 else fail
def Qfb {X : Type} (F : Nat) (key : ZB) (nonce : Int) (b : ZB) (fail : X) (ret : ZB → Int → X) : X :=
 bif (!(Jl5 key)) then
  ret ([] : ZB) 1
 else
 bif (decide ((b.length : Int) > 65536)) then
  ret ([] : ZB) 5
 else
 bif (!(Jpl nonce)) then
  ret ([] : ZB) 2
 else
 bif (decide ((Jby ((b.length : Nat) : Int) (16 : Int)) < (0 : Int))) then
  ret ([] : ZB) 9
 else
 bif (Jpm key) then
 bif ((decide (0 ≤ (Jby (b.length : Int) 16))) && (decide ((Jby (b.length : Int) 16) ≤ (b.length : Int)))) then
 bif (J2o (Jgo key) nonce (List.take ((Jby (b.length : Int) 16)).toNat b)) then
 bif ((decide (0 ≤ (Jby (b.length : Int) 16))) && (decide ((Jby (b.length : Int) 16) ≤ (b.length : Int)))) then
 bif (Jhn (J2p (Jgo key) nonce (List.take ((Jby (b.length : Int) 16)).toNat b)) (List.drop ((Jby (b.length : Int) 16)).toNat b)) then
 bif (!(Jho (J2p (Jgo key) nonce (List.take ((Jby (b.length : Int) 16)).toNat b)) (List.drop ((Jby (b.length : Int) 16)).toNat b))) then
  ret ([] : ZB) 25
 else
 bif ((decide (0 ≤ (Jby (b.length : Int) 16))) && (decide ((Jby (b.length : Int) 16) ≤ (b.length : Int)))) then
 bif (Jl4 (Jfb key) nonce (List.take ((Jby (b.length : Int) 16)).toNat b)) then
 ret (Jiy (Jfb key) nonce (List.take ((Jby (b.length : Int) 16)).toNat b)) (Jga (Jfb key) nonce (List.take ((Jby (b.length : Int) 16)).toNat b))
 else fail
 else fail
 else fail
 else fail
 else fail
 else fail
 else fail
def Jkx {X : Type} (F : Nat) (fail : X) (next ex0 ex1 : ZB → ZB → Bool → Int → Int → X) (s1 s2 : ZB) (s4 : Bool) (s12 s13 : Int) : X :=
 bif (decide (s13 < s12)) then
  bif ((decide (0 ≤ s13)) && (decide (s13 < (s1.length : Int)))) then
  bif ((decide (0 ≤ s13)) && (decide (s13 < (s2.length : Int)))) then
  bif (((((List.getD s1 (s13).toNat 0)).toNat : Nat) : Int) != ((((List.getD s2 (s13).toNat 0)).toNat : Nat) : Int)) then
   ex0 s1 s2 false s12 s13
  else
  next s1 s2 s4 s12 (Jag s13 1)
  else fail
  else fail
 else
 ex1 s1 s2 s4 s12 s13
def Je7 {X : Type} (F : Nat) (fail : X) (ex0 ex1 : ZB → ZB → Bool → Int → Int → X) : Nat → ZB → ZB → Bool → Int → Int → X
 | 0, _, _, _, _, _ => fail
 | m + 1, s1, s2, s4, s12, s13 => Jkx F fail (Je7 F fail ex0 ex1 m) ex0 ex1 s1 s2 s4 s12 s13
def J01 {X : Type} (F : Nat) (s1 s2 : ZB) (fail : X) (ret : Bool → X) : X :=
 bif ((s1.length : Int) != (s2.length : Int)) then
  ret false
 else
 Je7 F fail
  (fun s11 s21 s4 s12 s13 =>
   ret s4)
  (fun s14 s22 s41 s121 s131 =>
   ret true)
  F s1 s2 false (s1.length : Int) 0
def Qfc {X : Type} (F : Nat) (key : ZB) (fail : X) (ret : ZB → ZB → X) : X :=
 bif (Jyc key ([101, 110, 99, 114, 121, 112, 116] : ZB)) then
 bif (Jyc key ([97, 117, 116, 104, 101, 110, 116, 105, 99, 97, 116, 101] : ZB)) then
 ret (Kcp key ([101, 110, 99, 114, 121, 112, 116] : ZB)) (Kcp key ([97, 117, 116, 104, 101, 110, 116, 105, 99, 97, 116, 101] : ZB))
 else fail
 else fail
def Kfz {X : Type} (F : Nat) (fail : X) (next ex0 : Int → ZB → Int → ZB → ZB → X) (nonce : Int) (b : ZB) (i : Int) (key k : ZB) : X :=
 bif (decide (i < 32)) then
  bif ((decide (0 ≤ i)) && (decide (i < (32 : Int)))) then
  bif (decide ((k ++ ([(List.getD key (i).toNat (0 : UInt8))] : ZB)).length ≤ big)) then
  next nonce b (Jag i (1 : Int)) key (k ++ ([(List.getD key (i).toNat (0 : UInt8))] : ZB))
  else fail
  else fail
 else
 ex0 nonce b i key k
def Jt8 {X : Type} (F : Nat) (fail : X) (ex0 : Int → ZB → Int → ZB → ZB → X) : Nat → Int → ZB → Int → ZB → ZB → X
 | 0, _, _, _, _, _ => fail
 | m + 1, nonce, b, i, key, k => Kfz F fail (Jt8 F fail ex0 m) ex0 nonce b i key k
def Kf0 {X : Type} (F : Nat) (fail : X) (next ex0 : Int → ZB → ZB → X) (i : Int) (d_ out : ZB) : X :=
 bif (decide (i < 16)) then
  bif ((decide (0 ≤ i)) && (decide (i < (32 : Int)))) then
  bif (decide ((out ++ ([(List.getD d_ (i).toNat (0 : UInt8))] : ZB)).length ≤ big)) then
  next (Jag i (1 : Int)) d_ (out ++ ([(List.getD d_ (i).toNat (0 : UInt8))] : ZB))
  else fail
  else fail
 else
 ex0 i d_ out
def Jt9 {X : Type} (F : Nat) (fail : X) (ex0 : Int → ZB → ZB → X) : Nat → Int → ZB → ZB → X
 | 0, _, _, _ => fail
 | m + 1, i, d_, out => Kf0 F fail (Jt9 F fail ex0 m) ex0 i d_ out
def rTag {X : Type} (F : Nat) (key : ZB) (nonce : Int) (b : ZB) (fail : X) (ret : ZB → X) : X :=
 Jt8 F fail
  (fun nonce1 b1 i Jn2 k =>
   bif (Jl6 nonce1 8) then
   bif (decide (((Jia nonce1 (8 : Int)) ++ b1).length ≤ big)) then
   bif (Jyc k ((Jia nonce1 (8 : Int)) ++ b1)) then
   Jt9 F fail
    (fun i1 d_ out =>
     ret out)
    F (0 : Int) (Kcp k ((Jia nonce1 (8 : Int)) ++ b1)) ([] : ZB)
   else fail
   else fail
   else fail)
  F nonce b 0 key ([] : ZB)
def Qfd {X : Type} (F : Nat) (key : ZB) (nonce : Int) (b : ZB) (fail : X) (ret : ZB → Int → X) : X :=
 bif (decide ((key.length : Int) < 1)) then
  ret ([] : ZB) 1
 else
 bif (decide ((key.length : Int) > 64)) then
  ret ([] : ZB) 1
 else
 bif (decide ((b.length : Int) > 65536)) then
  ret ([] : ZB) 5
 else
 bif (!(Jib nonce)) then
  ret ([] : ZB) 2
 else
 bif (decide ((b.length : Int) < 16)) then
  ret ([] : ZB) 9
 else
 bif (J0v key) then
 bif ((decide (0 ≤ (Jby (b.length : Int) 16))) && (decide ((Jby (b.length : Int) 16) ≤ (b.length : Int)))) then
 bif (J2q (Jtw key) nonce (List.take ((Jby (b.length : Int) 16)).toNat b)) then
 bif ((decide (0 ≤ (Jby (b.length : Int) 16))) && (decide ((Jby (b.length : Int) 16) ≤ (b.length : Int)))) then
 bif (!((Kk4 (Jtw key) nonce (List.take ((Jby (b.length : Int) 16)).toNat b)) == (List.drop ((Jby (b.length : Int) 16)).toNat b))) then
  ret ([] : ZB) 25
 else
 bif ((decide (0 ≤ (Jby (b.length : Int) 16))) && (decide ((Jby (b.length : Int) 16) ≤ (b.length : Int)))) then
 bif (Jyd (Jpo key) nonce (List.take ((Jby (b.length : Int) 16)).toNat b)) then
 ret (Joc (Jpo key) nonce (List.take ((Jby (b.length : Int) 16)).toNat b)) (Jod (Jpo key) nonce (List.take ((Jby (b.length : Int) 16)).toNat b))
 else fail
 else fail
 else fail
 else fail
 else fail
 else fail
end Go.AI
namespace Go.AI
open Go
set_option linter.unusedVariables false
def Qfe {X : Type} (F : Nat) (x_ : UInt32) (k : Int) (fail : X) (ret : UInt32 → X) : X :=
 ret (orW (Jwh x_ (Qhv (Kcm k) 31)) (Jqx x_ (subU 32 (Qhv (Kcm k) 31))))
def Jyr {X : Type} (F : Nat) (fail : X) (next ex0 : Int → Int → Int → Int → Int → ZB → ZW → ZW → X) (nonce counter i s11 s14 : Int) (key : ZB) (s6 w : ZW) : X :=
 bif (decide (s14 < 4)) then
  bif ((decide (0 ≤ (Jag 4 i))) && (decide ((Jag 4 i) < (16 : Int)))) then
  bif ((decide (0 ≤ (Jag (Jfe 4 i) s14))) && (decide ((Jag (Jfe 4 i) s14) < (32 : Int)))) then
  bif (decide (0 ≤ (Jfe 8 s14))) then
  bif ((decide (0 ≤ (Jag 4 i))) && (decide ((Jag 4 i) < (16 : Int)))) then
  next nonce counter i s11 (Jag s14 1) key s6 (List.set w ((Jag 4 i)).toNat (orW (List.getD w ((Jag 4 i)).toNat 0) (Jwh (Jn1 (List.getD key ((Jag (Jfe 4 i) s14)).toNat 0)) (Jfe 8 s14))))
  else fail
  else fail
  else fail
  else fail
 else
 ex0 nonce counter i s11 s14 key s6 w
def Jhv {X : Type} (F : Nat) (fail : X) (ex0 : Int → Int → Int → Int → Int → ZB → ZW → ZW → X) : Nat → Int → Int → Int → Int → Int → ZB → ZW → ZW → X
 | 0, _, _, _, _, _, _, _, _ => fail
 | m + 1, nonce, counter, i, s11, s14, key, s6, w => Jyr F fail (Jhv F fail ex0 m) ex0 nonce counter i s11 s14 key s6 w
def Jys {X : Type} (F : Nat) (fail : X) (next ex0 : Int → Int → Int → ZB → ZW → ZW → X) (nonce counter s11 : Int) (key : ZB) (s6 w : ZW) : X :=
 bif (decide (s11 < 8)) then
  Jhv F fail
   (fun nonce1 counter1 i s111 s14 Jn2 s61 w1 =>
    next nonce1 counter1 (Jag s111 1) Jn2 s61 w1)
   F nonce counter s11 s11 0 key s6 w
 else
 ex0 nonce counter s11 key s6 w
def Jll {X : Type} (F : Nat) (fail : X) (ex0 : Int → Int → Int → ZB → ZW → ZW → X) : Nat → Int → Int → Int → ZB → ZW → ZW → X
 | 0, _, _, _, _, _, _ => fail
 | m + 1, nonce, counter, s11, key, s6, w => Jys F fail (Jll F fail ex0 m) ex0 nonce counter s11 key s6 w
def K4q {X : Type} (F : Nat) (key : ZB) (nonce counter : Int) (fail : X) (ret : ZW → X) : X :=
 Jll F fail
  (fun nonce1 counter1 s11 Jn2 s6 w =>
   ret (List.set (List.set (List.set w 12 (Kcl counter1)) 14 (Kcl nonce1)) 15 (Kcl (Kkw nonce1 32))))
  F nonce counter 0 key ([0, 0, 0, 0, 0, 0, 0, 0, 0, 0, 0, 0, 0, 0, 0, 0] : ZW) ([1634760805, 857760878, 2036477234, 1797285236, 0, 0, 0, 0, 0, 0, 0, 0, 0, 0, 0, 0] : ZW)
def Kf1 {X : Type} (F : Nat) (fail : X) (next ex0 : List (Int × ZL) → Int → Int → Int → ZW → ZW → X) (s30 : List (Int × ZL)) (s31 s7 s9 : Int) (w w1 : ZW) : X :=
 bif (decide (s31 < 4)) then
  bif ((decide (0 ≤ s31)) && (decide (s31 < (4 : Int)))) then
  bif ((decide (0 ≤ (List.getD s30 (s31).toNat (0, (0, (0, (0, ()))))).1)) && (decide ((List.getD s30 (s31).toNat (0, (0, (0, (0, ()))))).1 < (16 : Int)))) then
  bif ((decide (0 ≤ (List.getD s30 (s31).toNat (0, (0, (0, (0, ()))))).2.1)) && (decide ((List.getD s30 (s31).toNat (0, (0, (0, (0, ()))))).2.1 < (16 : Int)))) then
  bif ((decide (0 ≤ (List.getD s30 (s31).toNat (0, (0, (0, (0, ()))))).1)) && (decide ((List.getD s30 (s31).toNat (0, (0, (0, (0, ()))))).1 < (16 : Int)))) then
  bif ((decide (0 ≤ (List.getD s30 (s31).toNat (0, (0, (0, (0, ()))))).2.2.1)) && (decide ((List.getD s30 (s31).toNat (0, (0, (0, (0, ()))))).2.2.1 < (16 : Int)))) then
  bif ((decide (0 ≤ (List.getD s30 (s31).toNat (0, (0, (0, (0, ()))))).1)) && (decide ((List.getD s30 (s31).toNat (0, (0, (0, (0, ()))))).1 < (16 : Int)))) then
  bif (J0t (Jgg (List.getD (List.set w ((List.getD s30 (s31).toNat (0, (0, (0, (0, ()))))).1).toNat (Jbf (List.getD w ((List.getD s30 (s31).toNat (0, (0, (0, (0, ()))))).1).toNat 0) (List.getD w ((List.getD s30 (s31).toNat (0, (0, (0, (0, ()))))).2.1).toNat 0))) ((List.getD s30 (s31).toNat (0, (0, (0, (0, ()))))).2.2.1).toNat 0) (List.getD (List.set w ((List.getD s30 (s31).toNat (0, (0, (0, (0, ()))))).1).toNat (Jbf (List.getD w ((List.getD s30 (s31).toNat (0, (0, (0, (0, ()))))).1).toNat 0) (List.getD w ((List.getD s30 (s31).toNat (0, (0, (0, (0, ()))))).2.1).toNat 0))) ((List.getD s30 (s31).toNat (0, (0, (0, (0, ()))))).1).toNat 0)) (List.getD s30 (s31).toNat (0, (0, (0, (0, ()))))).2.2.2.1) then
  bif ((decide (0 ≤ (List.getD s30 (s31).toNat (0, (0, (0, (0, ()))))).2.2.1)) && (decide ((List.getD s30 (s31).toNat (0, (0, (0, (0, ()))))).2.2.1 < (16 : Int)))) then
  next s30 (Jag s31 1) s7 s9 (List.set (List.set w ((List.getD s30 (s31).toNat (0, (0, (0, (0, ()))))).1).toNat (Jbf (List.getD w ((List.getD s30 (s31).toNat (0, (0, (0, (0, ()))))).1).toNat 0) (List.getD w ((List.getD s30 (s31).toNat (0, (0, (0, (0, ()))))).2.1).toNat 0))) ((List.getD s30 (s31).toNat (0, (0, (0, (0, ()))))).2.2.1).toNat (J6n (Jgg (List.getD (List.set w ((List.getD s30 (s31).toNat (0, (0, (0, (0, ()))))).1).toNat (Jbf (List.getD w ((List.getD s30 (s31).toNat (0, (0, (0, (0, ()))))).1).toNat 0) (List.getD w ((List.getD s30 (s31).toNat (0, (0, (0, (0, ()))))).2.1).toNat 0))) ((List.getD s30 (s31).toNat (0, (0, (0, (0, ()))))).2.2.1).toNat 0) (List.getD (List.set w ((List.getD s30 (s31).toNat (0, (0, (0, (0, ()))))).1).toNat (Jbf (List.getD w ((List.getD s30 (s31).toNat (0, (0, (0, (0, ()))))).1).toNat 0) (List.getD w ((List.getD s30 (s31).toNat (0, (0, (0, (0, ()))))).2.1).toNat 0))) ((List.getD s30 (s31).toNat (0, (0, (0, (0, ()))))).1).toNat 0)) (List.getD s30 (s31).toNat (0, (0, (0, (0, ()))))).2.2.2.1)) w1
  else fail
  else fail
  else fail
  else fail
  else fail
  else fail
  else fail
  else fail
 else
 ex0 s30 s31 s7 s9 w w1
def Jky {X : Type} (F : Nat) (fail : X) (ex0 : List (Int × ZL) → Int → Int → Int → ZW → ZW → X) : Nat → List (Int × ZL) → Int → Int → Int → ZW → ZW → X
 | 0, _, _, _, _, _, _ => fail
 | m + 1, s30, s31, s7, s9, w, w1 => Kf1 F fail (Jky F fail ex0 m) ex0 s30 s31 s7 s9 w w1
def Kf2 {X : Type} (F : Nat) (fail : X) (next ex0 : Int → Int → ZW → ZW → X) (s7 s9 : Int) (change w : ZW) : X :=
 bif (decide (s9 < 4)) then
  Jky F fail
   (fun s30 s31 s71 s91 w1 w2 =>
    next s71 (Jag s91 1) w1 w2)
   F ([(s9, ((Jag 4 s9), ((Jag 12 s9), (16, ())))), ((Jag 8 s9), ((Jag 12 s9), ((Jag 4 s9), (12, ())))), (s9, ((Jag 4 s9), ((Jag 12 s9), (8, ())))), ((Jag 8 s9), ((Jag 12 s9), ((Jag 4 s9), (7, ()))))] : List (Int × ZL)) 0 s7 s9 change w
 else
 ex0 s7 s9 change w
def Jp2 {X : Type} (F : Nat) (fail : X) (ex0 : Int → Int → ZW → ZW → X) : Nat → Int → Int → ZW → ZW → X
 | 0, _, _, _, _ => fail
 | m + 1, s7, s9, change, w => Kf2 F fail (Jp2 F fail ex0 m) ex0 s7 s9 change w
def Kf3 {X : Type} (F : Nat) (fail : X) (next ex0 : List (Int × ZL) → Int → Int → Int → ZW → ZW → X) (s30 : List (Int × ZL)) (s31 s7 s22 : Int) (w w1 : ZW) : X :=
 bif (decide (s31 < 4)) then
  bif ((decide (0 ≤ s31)) && (decide (s31 < (4 : Int)))) then
  bif ((decide (0 ≤ (List.getD s30 (s31).toNat (0, (0, (0, (0, ()))))).1)) && (decide ((List.getD s30 (s31).toNat (0, (0, (0, (0, ()))))).1 < (16 : Int)))) then
  bif ((decide (0 ≤ (List.getD s30 (s31).toNat (0, (0, (0, (0, ()))))).2.1)) && (decide ((List.getD s30 (s31).toNat (0, (0, (0, (0, ()))))).2.1 < (16 : Int)))) then
  bif ((decide (0 ≤ (List.getD s30 (s31).toNat (0, (0, (0, (0, ()))))).1)) && (decide ((List.getD s30 (s31).toNat (0, (0, (0, (0, ()))))).1 < (16 : Int)))) then
  bif ((decide (0 ≤ (List.getD s30 (s31).toNat (0, (0, (0, (0, ()))))).2.2.1)) && (decide ((List.getD s30 (s31).toNat (0, (0, (0, (0, ()))))).2.2.1 < (16 : Int)))) then
  bif ((decide (0 ≤ (List.getD s30 (s31).toNat (0, (0, (0, (0, ()))))).1)) && (decide ((List.getD s30 (s31).toNat (0, (0, (0, (0, ()))))).1 < (16 : Int)))) then
  bif (J0t (Jgg (List.getD (List.set w ((List.getD s30 (s31).toNat (0, (0, (0, (0, ()))))).1).toNat (Jbf (List.getD w ((List.getD s30 (s31).toNat (0, (0, (0, (0, ()))))).1).toNat 0) (List.getD w ((List.getD s30 (s31).toNat (0, (0, (0, (0, ()))))).2.1).toNat 0))) ((List.getD s30 (s31).toNat (0, (0, (0, (0, ()))))).2.2.1).toNat 0) (List.getD (List.set w ((List.getD s30 (s31).toNat (0, (0, (0, (0, ()))))).1).toNat (Jbf (List.getD w ((List.getD s30 (s31).toNat (0, (0, (0, (0, ()))))).1).toNat 0) (List.getD w ((List.getD s30 (s31).toNat (0, (0, (0, (0, ()))))).2.1).toNat 0))) ((List.getD s30 (s31).toNat (0, (0, (0, (0, ()))))).1).toNat 0)) (List.getD s30 (s31).toNat (0, (0, (0, (0, ()))))).2.2.2.1) then
  bif ((decide (0 ≤ (List.getD s30 (s31).toNat (0, (0, (0, (0, ()))))).2.2.1)) && (decide ((List.getD s30 (s31).toNat (0, (0, (0, (0, ()))))).2.2.1 < (16 : Int)))) then
  next s30 (Jag s31 1) s7 s22 (List.set (List.set w ((List.getD s30 (s31).toNat (0, (0, (0, (0, ()))))).1).toNat (Jbf (List.getD w ((List.getD s30 (s31).toNat (0, (0, (0, (0, ()))))).1).toNat 0) (List.getD w ((List.getD s30 (s31).toNat (0, (0, (0, (0, ()))))).2.1).toNat 0))) ((List.getD s30 (s31).toNat (0, (0, (0, (0, ()))))).2.2.1).toNat (J6n (Jgg (List.getD (List.set w ((List.getD s30 (s31).toNat (0, (0, (0, (0, ()))))).1).toNat (Jbf (List.getD w ((List.getD s30 (s31).toNat (0, (0, (0, (0, ()))))).1).toNat 0) (List.getD w ((List.getD s30 (s31).toNat (0, (0, (0, (0, ()))))).2.1).toNat 0))) ((List.getD s30 (s31).toNat (0, (0, (0, (0, ()))))).2.2.1).toNat 0) (List.getD (List.set w ((List.getD s30 (s31).toNat (0, (0, (0, (0, ()))))).1).toNat (Jbf (List.getD w ((List.getD s30 (s31).toNat (0, (0, (0, (0, ()))))).1).toNat 0) (List.getD w ((List.getD s30 (s31).toNat (0, (0, (0, (0, ()))))).2.1).toNat 0))) ((List.getD s30 (s31).toNat (0, (0, (0, (0, ()))))).1).toNat 0)) (List.getD s30 (s31).toNat (0, (0, (0, (0, ()))))).2.2.2.1)) w1
  else fail
  else fail
  else fail
  else fail
  else fail
  else fail
  else fail
  else fail
 else
 ex0 s30 s31 s7 s22 w w1
def Jkz {X : Type} (F : Nat) (fail : X) (ex0 : List (Int × ZL) → Int → Int → Int → ZW → ZW → X) : Nat → List (Int × ZL) → Int → Int → Int → ZW → ZW → X
 | 0, _, _, _, _, _, _ => fail
 | m + 1, s30, s31, s7, s22, w, w1 => Kf3 F fail (Jkz F fail ex0 m) ex0 s30 s31 s7 s22 w w1
def Kf4 {X : Type} (F : Nat) (fail : X) (next ex0 : Int → Int → ZW → ZW → X) (s7 s22 : Int) (change w : ZW) : X :=
 bif (decide (s22 < 4)) then
  Jkz F fail
   (fun s30 s31 s71 s221 w1 w2 =>
    next s71 (Jag s221 1) w1 w2)
   F ([(s22, ((Jag 4 (Jb8 (Jag s22 1) 4)), ((Jag 12 (Jb8 (Jag s22 3) 4)), (16, ())))), ((Jag 8 (Jb8 (Jag s22 2) 4)), ((Jag 12 (Jb8 (Jag s22 3) 4)), ((Jag 4 (Jb8 (Jag s22 1) 4)), (12, ())))), (s22, ((Jag 4 (Jb8 (Jag s22 1) 4)), ((Jag 12 (Jb8 (Jag s22 3) 4)), (8, ())))), ((Jag 8 (Jb8 (Jag s22 2) 4)), ((Jag 12 (Jb8 (Jag s22 3) 4)), ((Jag 4 (Jb8 (Jag s22 1) 4)), (7, ()))))] : List (Int × ZL)) 0 s7 s22 change w
 else
 ex0 s7 s22 change w
def Jp3 {X : Type} (F : Nat) (fail : X) (ex0 : Int → Int → ZW → ZW → X) : Nat → Int → Int → ZW → ZW → X
 | 0, _, _, _, _ => fail
 | m + 1, s7, s22, change, w => Kf4 F fail (Jp3 F fail ex0 m) ex0 s7 s22 change w
def Kf5 {X : Type} (F : Nat) (fail : X) (next ex0 : Int → ZW → ZW → X) (s7 : Int) (change w : ZW) : X :=
 bif (decide (s7 < 10)) then
  Jp2 F fail
   (fun s71 s9 change1 w1 =>
    Jp3 F fail
     (fun s72 s22 change2 w2 =>
      next (Jag s72 1) change2 w2)
     F s71 0 change1 w1)
   F s7 0 change w
 else
 ex0 s7 change w
def Jua {X : Type} (F : Nat) (fail : X) (ex0 : Int → ZW → ZW → X) : Nat → Int → ZW → ZW → X
 | 0, _, _, _ => fail
 | m + 1, s7, change, w => Kf5 F fail (Jua F fail ex0 m) ex0 s7 change w
def Kf6 {X : Type} (F : Nat) (fail : X) (next ex0 : ZW → Int → ZW → ZB → X) (s18 : ZW) (s19 : Int) (w : ZW) (out : ZB) : X :=
 bif (decide (s19 < 16)) then
  bif ((decide (0 ≤ s19)) && (decide (s19 < (16 : Int)))) then
  bif ((decide (0 ≤ s19)) && (decide (s19 < (16 : Int)))) then
  bif (decide ((out ++ ([(J3k (Jbf (List.getD s18 (s19).toNat (0 : UInt32)) (List.getD w (s19).toNat (0 : UInt32)))), (J3k (Jqx (Jbf (List.getD s18 (s19).toNat (0 : UInt32)) (List.getD w (s19).toNat (0 : UInt32))) (8 : Int))), (J3k (Jqx (Jbf (List.getD s18 (s19).toNat (0 : UInt32)) (List.getD w (s19).toNat (0 : UInt32))) (16 : Int))), (J3k (Jqx (Jbf (List.getD s18 (s19).toNat (0 : UInt32)) (List.getD w (s19).toNat (0 : UInt32))) (24 : Int)))] : ZB)).length ≤ big)) then
  next s18 (Jag s19 (1 : Int)) w (out ++ ([(J3k (Jbf (List.getD s18 (s19).toNat (0 : UInt32)) (List.getD w (s19).toNat (0 : UInt32)))), (J3k (Jqx (Jbf (List.getD s18 (s19).toNat (0 : UInt32)) (List.getD w (s19).toNat (0 : UInt32))) (8 : Int))), (J3k (Jqx (Jbf (List.getD s18 (s19).toNat (0 : UInt32)) (List.getD w (s19).toNat (0 : UInt32))) (16 : Int))), (J3k (Jqx (Jbf (List.getD s18 (s19).toNat (0 : UInt32)) (List.getD w (s19).toNat (0 : UInt32))) (24 : Int)))] : ZB))
  else fail
  else fail
  else fail
 else
 ex0 s18 s19 w out
def Jub {X : Type} (F : Nat) (fail : X) (ex0 : ZW → Int → ZW → ZB → X) : Nat → ZW → Int → ZW → ZB → X
 | 0, _, _, _, _ => fail
 | m + 1, s18, s19, w, out => Kf6 F fail (Jub F fail ex0 m) ex0 s18 s19 w out
def cBlk {X : Type} (F : Nat) (key : ZB) (nonce counter : Int) (fail : X) (ret : ZB → X) : X :=
 bif (J4p key nonce counter) then
 Jua F fail
  (fun s7 change w =>
   Jub F fail
    (fun s18 s19 w1 out =>
     ret out)
    F change 0 w ([] : ZB))
  F 0 (J4q key nonce counter) (J4q key nonce counter)
 else fail
def K4r {X : Type} (F : Nat) (nonce : Int) (fail : X) (ret : Bool → X) : X :=
 bif (decide (nonce ≥ 0)) then
  ret (decide (nonce ≤ 9007199254740991))
 else
 ret false
def Juc {X : Type} (F : Nat) (fail : X) (next ex0 : Nat → Nat → Int → Int → Int → ZB → Int → Int → ZB → ZB → ZB → Int → Int → X) (part_i part_n : Nat) (s31 s32 i : Int) (b : ZB) (s7 counter : Int) (part s key : ZB) (nonce s2 : Int) : X :=
 bif (decide (s32 < s31)) then
  bif ((decide (0 ≤ s32)) && (decide (s32 < ((part_n : Nat) : Int)))) then
  bif ((decide (0 ≤ s32)) && (decide (s32 < (s.length : Int)))) then
  bif ((decide (0 ≤ s32)) && (decide (s32 < ((part_n : Nat) : Int)))) then
  next part_i part_n s31 (Jag s32 1) i b s7 counter (List.set part (part_i + (s32).toNat) (Jpj (List.getD part (part_i + (s32).toNat) 0) (List.getD s (s32).toNat 0))) s key nonce s2
  else fail
  else fail
  else fail
 else
 ex0 part_i part_n s31 s32 i b s7 counter part s key nonce s2
def Ji7 {X : Type} (F : Nat) (fail : X) (ex0 : Nat → Nat → Int → Int → Int → ZB → Int → Int → ZB → ZB → ZB → Int → Int → X) : Nat → Nat → Nat → Int → Int → Int → ZB → Int → Int → ZB → ZB → ZB → Int → Int → X
 | 0, _, _, _, _, _, _, _, _, _, _, _, _, _ => fail
 | m + 1, part_i, part_n, s31, s32, i, b, s7, counter, part, s, key, nonce, s2 => Juc F fail (Ji7 F fail ex0 m) ex0 part_i part_n s31 s32 i b s7 counter part s key nonce s2
def Jon {X : Type} (F : Nat) (fail : X) (next ex0 : Int → ZB → Int → ZB → Int → Int → ZB → Int → X) (i : Int) (b : ZB) (s7 : Int) (key : ZB) (nonce counter : Int) (out : ZB) (s2 : Int) : X :=
 bif (decide (i < (out.length : Int))) then
  bif ((decide (0 ≤ i)) && (decide (i ≤ (out.length : Int)))) then
  bif ((((decide (0 ≤ i)) && (decide (i ≤ (Jag i (Kfe s2 (((out.length - (i).toNat) : Nat) : Int)))))) && (decide ((Jag i (Kfe s2 (((out.length - (i).toNat) : Nat) : Int))) ≤ (out.length : Int)))) && ((Jag i (Kfe s2 (((out.length - (i).toNat) : Nat) : Int))) == (Jag i (Kfe s2 (((out.length - (i).toNat) : Nat) : Int))))) then
  bif (Kwz key nonce counter) then
  Ji7 F fail
   (fun part_i part_n s31 s32 i1 b1 s71 counter1 part s Jn2 nonce1 s21 =>
    next (Jag i1 s21) b1 s71 Jn2 nonce1 (Jag counter1 1) part s21)
   F (i).toNat (((Jag i (Kfe s2 (((out.length - (i).toNat) : Nat) : Int)))).toNat - (i).toNat) (((((Jag i (Kfe s2 (((out.length - (i).toNat) : Nat) : Int)))).toNat - (i).toNat) : Nat) : Int) 0 i b s7 counter out (Kw0 key nonce counter) key nonce s2
  else fail
  else fail
  else fail
 else
 ex0 i b s7 key nonce counter out s2
def Jgx {X : Type} (F : Nat) (fail : X) (ex0 : Int → ZB → Int → ZB → Int → Int → ZB → Int → X) : Nat → Int → ZB → Int → ZB → Int → Int → ZB → Int → X
 | 0, _, _, _, _, _, _, _, _ => fail
 | m + 1, i, b, s7, key, nonce, counter, out, s2 => Jon F fail (Jgx F fail ex0 m) ex0 i b s7 key nonce counter out s2
def Krp {X : Type} (F : Nat) (key : ZB) (nonce : Int) (b : ZB) (fail : X) (ret : ZB → Int → X) : X :=
 bif (decide ((b.length : Int) > 65536)) then
  ret ([] : ZB) 5
 else
 bif (!(Jpl nonce)) then
  ret ([] : ZB) 2
 else
 bif (Jbh b) then
 Jgx F fail
  (fun i b1 s7 Jn2 nonce1 counter out s2 =>
   ret out 0)
  F 0 b 0 key nonce 1 (Jb4 b) 64
 else fail
def J4x {X : Type} (F : Nat) (fail : X) (next ex0 : UInt32 → Int → Int → X) (x_ : UInt32) (n i : Int) : X :=
 bif (decide (i < n)) then
  next (Jbf (K12 2 x_) (quoW x_ 2147483648)) n (Jag i 1)
 else
 ex0 x_ n i
def Joo {X : Type} (F : Nat) (fail : X) (ex0 : UInt32 → Int → Int → X) : Nat → UInt32 → Int → Int → X
 | 0, _, _, _ => fail
 | m + 1, x_, n, i => J4x F fail (Joo F fail ex0 m) ex0 x_ n i
def Qff {X : Type} (F : Nat) (x_ : UInt32) (n : Int) (fail : X) (ret : UInt32 → X) : X :=
 Joo F fail
  (fun x_1 n1 i =>
   ret x_1)
  F x_ n 0
def Jyt {X : Type} (F : Nat) (fail : X) (next ex0 : Int → Int → Int → ZB → ZW → X) (nonce counter i : Int) (key : ZB) (w : ZW) : X :=
 bif (decide (i < 8)) then
  bif ((decide (0 ≤ (Jfe 4 i))) && (decide ((Jfe 4 i) < (32 : Int)))) then
  bif ((decide ((0 : Int) ≤ (Jag (Jfe (4 : Int) i) (1 : Int)))) && (decide ((Jag (Jfe (4 : Int) i) (1 : Int)) < ((32 : Nat) : Int)))) then
  bif ((decide ((0 : Int) ≤ (Jag (Jfe (4 : Int) i) (2 : Int)))) && (decide ((Jag (Jfe (4 : Int) i) (2 : Int)) < ((32 : Nat) : Int)))) then
  bif ((decide ((0 : Int) ≤ (Jag (Jfe (4 : Int) i) (3 : Int)))) && (decide ((Jag (Jfe (4 : Int) i) (3 : Int)) < ((32 : Nat) : Int)))) then
  bif (decide ((w ++ ([(Jbf (Jbf (Jbf (Jn1 (List.getD key ((Jfe (4 : Int) i)).toNat (0 : UInt8))) (K12 (256 : UInt32) (Jn1 (List.getD key ((Jag (Jfe (4 : Int) i) (1 : Int))).toNat (0 : UInt8))))) (K12 (65536 : UInt32) (Jn1 (List.getD key ((Jag (Jfe (4 : Int) i) (2 : Int))).toNat (0 : UInt8))))) (K12 (16777216 : UInt32) (Jn1 (List.getD key ((Jag (Jfe (4 : Int) i) (3 : Int))).toNat (0 : UInt8)))))] : ZW)).length ≤ big)) then
  next nonce counter (Jag i (1 : Int)) key (w ++ ([(Jbf (Jbf (Jbf (Jn1 (List.getD key ((Jfe (4 : Int) i)).toNat (0 : UInt8))) (K12 (256 : UInt32) (Jn1 (List.getD key ((Jag (Jfe (4 : Int) i) (1 : Int))).toNat (0 : UInt8))))) (K12 (65536 : UInt32) (Jn1 (List.getD key ((Jag (Jfe (4 : Int) i) (2 : Int))).toNat (0 : UInt8))))) (K12 (16777216 : UInt32) (Jn1 (List.getD key ((Jag (Jfe (4 : Int) i) (3 : Int))).toNat (0 : UInt8)))))] : ZW))
  else fail
  else fail
  else fail
  else fail
  else fail
 else
 ex0 nonce counter i key w
def Jlm {X : Type} (F : Nat) (fail : X) (ex0 : Int → Int → Int → ZB → ZW → X) : Nat → Int → Int → Int → ZB → ZW → X
 | 0, _, _, _, _, _ => fail
 | m + 1, nonce, counter, i, key, w => Jyt F fail (Jlm F fail ex0 m) ex0 nonce counter i key w
def K4s {X : Type} (F : Nat) (key : ZB) (nonce counter : Int) (fail : X) (ret : ZW → X) : X :=
 Jlm F fail
  (fun nonce1 counter1 i Jn2 w =>
   bif (decide ((w ++ ([(Kcl counter1), (0 : UInt32), (Kcl (Jb8 nonce1 (4294967296 : Int))), (Kcl (Kkv nonce1 (4294967296 : Int)))] : ZW)).length ≤ big)) then
   ret (w ++ ([(Kcl counter1), (0 : UInt32), (Kcl (Jb8 nonce1 (4294967296 : Int))), (Kcl (Kkv nonce1 (4294967296 : Int)))] : ZW))
   else fail)
  F nonce counter 0 key ([1634760805, 857760878, 2036477234, 1797285236] : ZW)
def Jud {X : Type} (F : Nat) (fail : X) (next ex0 : Int → Int → Int → ZB → X) (n bytes i : Int) (out : ZB) : X :=
 bif (decide (i < bytes)) then
  bif (decide ((out ++ ([(Kjg (Jb8 n (256 : Int)))] : ZB)).length ≤ big)) then
  next (Kkv n (256 : Int)) bytes (Jag i (1 : Int)) (out ++ ([(Kjg (Jb8 n (256 : Int)))] : ZB))
  else fail
 else
 ex0 n bytes i out
def Ji8 {X : Type} (F : Nat) (fail : X) (ex0 : Int → Int → Int → ZB → X) : Nat → Int → Int → Int → ZB → X
 | 0, _, _, _, _ => fail
 | m + 1, n, bytes, i, out => Jud F fail (Ji8 F fail ex0 m) ex0 n bytes i out
def Krq {X : Type} (F : Nat) (n bytes : Int) (fail : X) (ret : ZB → X) : X :=
 Ji8 F fail
  (fun n1 bytes1 i out =>
   ret out)
  F n bytes 0 ([] : ZB)
def Krr {X : Type} (F : Nat) (n : Int) (fail : X) (ret : Bool → X) : X :=
 bif (decide (n ≥ 0)) then
  ret (decide (n ≤ 9007199254740991))
 else
 ret false
def Jek (k : Int) (w : ZW) := (List.set (List.set w (k).toNat (Jbf (List.getD w (k).toNat 0) (List.getD w ((Jag 4 k)).toNat 0))) ((Jag 12 k)).toNat (Jiz (Jgg (List.getD (List.set w (k).toNat (Jbf (List.getD w (k).toNat 0) (List.getD w ((Jag 4 k)).toNat 0))) ((Jag 12 k)).toNat 0) (List.getD (List.set w (k).toNat (Jbf (List.getD w (k).toNat 0) (List.getD w ((Jag 4 k)).toNat 0))) (k).toNat 0)) 16))
def Jnf (k : Int) (w : ZW) := ((decide (0 ≤ (Jag 8 k))) && (decide ((Jag 8 k) < (((Jek k w).length : Nat) : Int))))
def Jel (k : Int) (w : ZW) := (List.set (Jek k w) ((Jag 8 k)).toNat (Jbf (List.getD (Jek k w) ((Jag 8 k)).toNat 0) (List.getD (Jek k w) ((Jag 12 k)).toNat 0)))
def Jng (k : Int) (w : ZW) := ((decide (0 ≤ (Jag 4 k))) && (decide ((Jag 4 k) < (((Jel k w).length : Nat) : Int))))
def Jr8 (k : Int) (w : ZW) := (Jgg (List.getD (Jel k w) ((Jag 4 k)).toNat 0) (List.getD (Jel k w) ((Jag 8 k)).toNat 0))
def Jem (k : Int) (w : ZW) := (List.set (Jel k w) ((Jag 4 k)).toNat (Jiz (Jr8 k w) 12))
def Jnh (k : Int) (w : ZW) := ((decide (0 ≤ k)) && (decide (k < (((Jem k w).length : Nat) : Int))))
def Jen (k : Int) (w : ZW) := (List.set (Jem k w) (k).toNat (Jbf (List.getD (Jem k w) (k).toNat 0) (List.getD (Jem k w) ((Jag 4 k)).toNat 0)))
def Jni (k : Int) (w : ZW) := ((decide (0 ≤ (Jag 12 k))) && (decide ((Jag 12 k) < (((Jen k w).length : Nat) : Int))))
def Jp4 (k : Int) (w : ZW) := (Jgg (List.getD (Jen k w) ((Jag 12 k)).toNat 0) (List.getD (Jen k w) (k).toNat 0))
def Jd2 (k : Int) (w : ZW) := (List.set (Jen k w) ((Jag 12 k)).toNat (Jiz (Jp4 k w) 8))
def Jk0 (k : Int) (w : ZW) := ((decide (0 ≤ (Jag 8 k))) && (decide ((Jag 8 k) < (((Jd2 k w).length : Nat) : Int))))
def Jde (k : Int) (w : ZW) := (List.set (Jd2 k w) ((Jag 8 k)).toNat (Jbf (List.getD (Jd2 k w) ((Jag 8 k)).toNat 0) (List.getD (Jd2 k w) ((Jag 12 k)).toNat 0)))
def Jk1 (k : Int) (w : ZW) := ((decide (0 ≤ (Jag 4 k))) && (decide ((Jag 4 k) < (((Jde k w).length : Nat) : Int))))
def Jk2 (k : Int) (w : ZW) := (Jgg (List.getD (Jde k w) ((Jag 4 k)).toNat 0) (List.getD (Jde k w) ((Jag 8 k)).toNat 0))
def Jyu {X : Type} (F : Nat) (fail : X) (next ex0 : Int → Int → ZW → ZW → X) (i k : Int) (before w : ZW) : X :=
 bif (decide (k < 4)) then
  bif ((decide (0 ≤ k)) && (decide (k < (w.length : Int)))) then
  bif ((decide (0 ≤ (Jag 4 k))) && (decide ((Jag 4 k) < (w.length : Int)))) then
  bif ((decide (0 ≤ k)) && (decide (k < (w.length : Int)))) then
  bif ((decide (0 ≤ (Jag 12 k))) && (decide ((Jag 12 k) < (((List.set w (k).toNat (Jbf (List.getD w (k).toNat 0) (List.getD w ((Jag 4 k)).toNat 0))).length : Nat) : Int)))) then
  bif ((decide (0 ≤ k)) && (decide (k < (((List.set w (k).toNat (Jbf (List.getD w (k).toNat 0) (List.getD w ((Jag 4 k)).toNat 0))).length : Nat) : Int)))) then
  bif (Jgw (Jgg (List.getD (List.set w (k).toNat (Jbf (List.getD w (k).toNat 0) (List.getD w ((Jag 4 k)).toNat 0))) ((Jag 12 k)).toNat 0) (List.getD (List.set w (k).toNat (Jbf (List.getD w (k).toNat 0) (List.getD w ((Jag 4 k)).toNat 0))) (k).toNat 0)) 16) then
  bif ((decide (0 ≤ (Jag 12 k))) && (decide ((Jag 12 k) < (((List.set w (k).toNat (Jbf (List.getD w (k).toNat 0) (List.getD w ((Jag 4 k)).toNat 0))).length : Nat) : Int)))) then
  bif (Jnf k w) then
  bif ((decide (0 ≤ (Jag 12 k))) && (decide ((Jag 12 k) < (((Jek k w).length : Nat) : Int)))) then
  bif (Jnf k w) then
  bif (Jng k w) then
  bif ((decide (0 ≤ (Jag 8 k))) && (decide ((Jag 8 k) < (((Jel k w).length : Nat) : Int)))) then
  bif (Jgw (Jr8 k w) 12) then
  bif (Jng k w) then
  bif (Jnh k w) then
  bif ((decide (0 ≤ (Jag 4 k))) && (decide ((Jag 4 k) < (((Jem k w).length : Nat) : Int)))) then
  bif (Jnh k w) then
  bif (Jni k w) then
  bif ((decide (0 ≤ k)) && (decide (k < (((Jen k w).length : Nat) : Int)))) then
  bif (Jgw (Jp4 k w) 8) then
  bif (Jni k w) then
  bif (Jk0 k w) then
  bif ((decide (0 ≤ (Jag 12 k))) && (decide ((Jag 12 k) < (((Jd2 k w).length : Nat) : Int)))) then
  bif (Jk0 k w) then
  bif (Jk1 k w) then
  bif ((decide (0 ≤ (Jag 8 k))) && (decide ((Jag 8 k) < (((Jde k w).length : Nat) : Int)))) then
  bif (Jgw (Jk2 k w) 7) then
  bif (Jk1 k w) then
  next i (Jag k 1) before (List.set (Jde k w) ((Jag 4 k)).toNat (Jiz (Jk2 k w) 7))
  else fail
  else fail
  else fail
  else fail
  else fail
  else fail
  else fail
  else fail
  else fail
  else fail
  else fail
  else fail
  else fail
  else fail
  else fail
  else fail
  else fail
  else fail
  else fail
  else fail
  else fail
  else fail
  else fail
  else fail
  else fail
  else fail
  else fail
  else fail
 else
 ex0 i k before w
def Jhw {X : Type} (F : Nat) (fail : X) (ex0 : Int → Int → ZW → ZW → X) : Nat → Int → Int → ZW → ZW → X
 | 0, _, _, _, _ => fail
 | m + 1, i, k, before, w => Jyu F fail (Jhw F fail ex0 m) ex0 i k before w
def Jeo (k : Int) (w : ZW) := (List.set (List.set w (k).toNat (Jbf (List.getD w (k).toNat 0) (List.getD w ((Jag 4 (Jb8 (Jag k 1) 4))).toNat 0))) ((Jag 12 (Jb8 (Jag k 3) 4))).toNat (Jiz (Jgg (List.getD (List.set w (k).toNat (Jbf (List.getD w (k).toNat 0) (List.getD w ((Jag 4 (Jb8 (Jag k 1) 4))).toNat 0))) ((Jag 12 (Jb8 (Jag k 3) 4))).toNat 0) (List.getD (List.set w (k).toNat (Jbf (List.getD w (k).toNat 0) (List.getD w ((Jag 4 (Jb8 (Jag k 1) 4))).toNat 0))) (k).toNat 0)) 16))
def Jnj (k : Int) (w : ZW) := ((decide (0 ≤ (Jag 8 (Jb8 (Jag k 2) 4)))) && (decide ((Jag 8 (Jb8 (Jag k 2) 4)) < (((Jeo k w).length : Nat) : Int))))
def Jep (k : Int) (w : ZW) := (List.set (Jeo k w) ((Jag 8 (Jb8 (Jag k 2) 4))).toNat (Jbf (List.getD (Jeo k w) ((Jag 8 (Jb8 (Jag k 2) 4))).toNat 0) (List.getD (Jeo k w) ((Jag 12 (Jb8 (Jag k 3) 4))).toNat 0)))
def Jnk (k : Int) (w : ZW) := ((decide (0 ≤ (Jag 4 (Jb8 (Jag k 1) 4)))) && (decide ((Jag 4 (Jb8 (Jag k 1) 4)) < (((Jep k w).length : Nat) : Int))))
def Jr9 (k : Int) (w : ZW) := (Jgg (List.getD (Jep k w) ((Jag 4 (Jb8 (Jag k 1) 4))).toNat 0) (List.getD (Jep k w) ((Jag 8 (Jb8 (Jag k 2) 4))).toNat 0))
def Jeq (k : Int) (w : ZW) := (List.set (Jep k w) ((Jag 4 (Jb8 (Jag k 1) 4))).toNat (Jiz (Jr9 k w) 12))
def Jnl (k : Int) (w : ZW) := ((decide (0 ≤ k)) && (decide (k < (((Jeq k w).length : Nat) : Int))))
def Jer (k : Int) (w : ZW) := (List.set (Jeq k w) (k).toNat (Jbf (List.getD (Jeq k w) (k).toNat 0) (List.getD (Jeq k w) ((Jag 4 (Jb8 (Jag k 1) 4))).toNat 0)))
def Jnm (k : Int) (w : ZW) := ((decide (0 ≤ (Jag 12 (Jb8 (Jag k 3) 4)))) && (decide ((Jag 12 (Jb8 (Jag k 3) 4)) < (((Jer k w).length : Nat) : Int))))
def Jp5 (k : Int) (w : ZW) := (Jgg (List.getD (Jer k w) ((Jag 12 (Jb8 (Jag k 3) 4))).toNat 0) (List.getD (Jer k w) (k).toNat 0))
def Jd3 (k : Int) (w : ZW) := (List.set (Jer k w) ((Jag 12 (Jb8 (Jag k 3) 4))).toNat (Jiz (Jp5 k w) 8))
def Jk3 (k : Int) (w : ZW) := ((decide (0 ≤ (Jag 8 (Jb8 (Jag k 2) 4)))) && (decide ((Jag 8 (Jb8 (Jag k 2) 4)) < (((Jd3 k w).length : Nat) : Int))))
def Jdf (k : Int) (w : ZW) := (List.set (Jd3 k w) ((Jag 8 (Jb8 (Jag k 2) 4))).toNat (Jbf (List.getD (Jd3 k w) ((Jag 8 (Jb8 (Jag k 2) 4))).toNat 0) (List.getD (Jd3 k w) ((Jag 12 (Jb8 (Jag k 3) 4))).toNat 0)))
def Jk4 (k : Int) (w : ZW) := ((decide (0 ≤ (Jag 4 (Jb8 (Jag k 1) 4)))) && (decide ((Jag 4 (Jb8 (Jag k 1) 4)) < (((Jdf k w).length : Nat) : Int))))
def Jk5 (k : Int) (w : ZW) := (Jgg (List.getD (Jdf k w) ((Jag 4 (Jb8 (Jag k 1) 4))).toNat 0) (List.getD (Jdf k w) ((Jag 8 (Jb8 (Jag k 2) 4))).toNat 0))
def Jyv {X : Type} (F : Nat) (fail : X) (next ex0 : Int → Int → ZW → ZW → X) (i k : Int) (before w : ZW) : X :=
 bif (decide (k < 4)) then
  bif ((decide (0 ≤ k)) && (decide (k < (w.length : Int)))) then
  bif ((decide (0 ≤ (Jag 4 (Jb8 (Jag k 1) 4)))) && (decide ((Jag 4 (Jb8 (Jag k 1) 4)) < (w.length : Int)))) then
  bif ((decide (0 ≤ k)) && (decide (k < (w.length : Int)))) then
  bif ((decide (0 ≤ (Jag 12 (Jb8 (Jag k 3) 4)))) && (decide ((Jag 12 (Jb8 (Jag k 3) 4)) < (((List.set w (k).toNat (Jbf (List.getD w (k).toNat 0) (List.getD w ((Jag 4 (Jb8 (Jag k 1) 4))).toNat 0))).length : Nat) : Int)))) then
  bif ((decide (0 ≤ k)) && (decide (k < (((List.set w (k).toNat (Jbf (List.getD w (k).toNat 0) (List.getD w ((Jag 4 (Jb8 (Jag k 1) 4))).toNat 0))).length : Nat) : Int)))) then
  bif (Jgw (Jgg (List.getD (List.set w (k).toNat (Jbf (List.getD w (k).toNat 0) (List.getD w ((Jag 4 (Jb8 (Jag k 1) 4))).toNat 0))) ((Jag 12 (Jb8 (Jag k 3) 4))).toNat 0) (List.getD (List.set w (k).toNat (Jbf (List.getD w (k).toNat 0) (List.getD w ((Jag 4 (Jb8 (Jag k 1) 4))).toNat 0))) (k).toNat 0)) 16) then
  bif ((decide (0 ≤ (Jag 12 (Jb8 (Jag k 3) 4)))) && (decide ((Jag 12 (Jb8 (Jag k 3) 4)) < (((List.set w (k).toNat (Jbf (List.getD w (k).toNat 0) (List.getD w ((Jag 4 (Jb8 (Jag k 1) 4))).toNat 0))).length : Nat) : Int)))) then
  bif (Jnj k w) then
  bif ((decide (0 ≤ (Jag 12 (Jb8 (Jag k 3) 4)))) && (decide ((Jag 12 (Jb8 (Jag k 3) 4)) < (((Jeo k w).length : Nat) : Int)))) then
  bif (Jnj k w) then
  bif (Jnk k w) then
  bif ((decide (0 ≤ (Jag 8 (Jb8 (Jag k 2) 4)))) && (decide ((Jag 8 (Jb8 (Jag k 2) 4)) < (((Jep k w).length : Nat) : Int)))) then
  bif (Jgw (Jr9 k w) 12) then
  bif (Jnk k w) then
  bif (Jnl k w) then
  bif ((decide (0 ≤ (Jag 4 (Jb8 (Jag k 1) 4)))) && (decide ((Jag 4 (Jb8 (Jag k 1) 4)) < (((Jeq k w).length : Nat) : Int)))) then
  bif (Jnl k w) then
  bif (Jnm k w) then
  bif ((decide (0 ≤ k)) && (decide (k < (((Jer k w).length : Nat) : Int)))) then
  bif (Jgw (Jp5 k w) 8) then
  bif (Jnm k w) then
  bif (Jk3 k w) then
  bif ((decide (0 ≤ (Jag 12 (Jb8 (Jag k 3) 4)))) && (decide ((Jag 12 (Jb8 (Jag k 3) 4)) < (((Jd3 k w).length : Nat) : Int)))) then
  bif (Jk3 k w) then
  bif (Jk4 k w) then
  bif ((decide (0 ≤ (Jag 8 (Jb8 (Jag k 2) 4)))) && (decide ((Jag 8 (Jb8 (Jag k 2) 4)) < (((Jdf k w).length : Nat) : Int)))) then
  bif (Jgw (Jk5 k w) 7) then
  bif (Jk4 k w) then
  next i (Jag k 1) before (List.set (Jdf k w) ((Jag 4 (Jb8 (Jag k 1) 4))).toNat (Jiz (Jk5 k w) 7))
  else fail
  else fail
  else fail
  else fail
  else fail
  else fail
  else fail
  else fail
  else fail
  else fail
  else fail
  else fail
  else fail
  else fail
  else fail
  else fail
  else fail
  else fail
  else fail
  else fail
  else fail
  else fail
  else fail
  else fail
  else fail
  else fail
  else fail
  else fail
 else
 ex0 i k before w
def Jhx {X : Type} (F : Nat) (fail : X) (ex0 : Int → Int → ZW → ZW → X) : Nat → Int → Int → ZW → ZW → X
 | 0, _, _, _, _ => fail
 | m + 1, i, k, before, w => Jyv F fail (Jhx F fail ex0 m) ex0 i k before w
def Jyw {X : Type} (F : Nat) (fail : X) (next ex0 : Int → ZW → ZW → X) (i : Int) (before w : ZW) : X :=
 bif (decide (i < 10)) then
  Jhw F fail
   (fun i1 k before1 w1 =>
    Jhx F fail
     (fun i2 k1 before2 w2 =>
      next (Jag i2 1) before2 w2)
     F i1 0 before1 w1)
   F i 0 before w
 else
 ex0 i before w
def Jln {X : Type} (F : Nat) (fail : X) (ex0 : Int → ZW → ZW → X) : Nat → Int → ZW → ZW → X
 | 0, _, _, _ => fail
 | m + 1, i, before, w => Jyw F fail (Jln F fail ex0 m) ex0 i before w
def Jyx {X : Type} (F : Nat) (fail : X) (next ex0 : Int → ZW → ZW → ZB → X) (i : Int) (before w : ZW) (out : ZB) : X :=
 bif (decide (i < 16)) then
  bif ((decide (0 ≤ i)) && (decide (i < (w.length : Int)))) then
  bif ((decide (0 ≤ i)) && (decide (i < (before.length : Int)))) then
  bif (Jl6 (Qc6 (Jbf (List.getD w (i).toNat 0) (List.getD before (i).toNat 0))) 4) then
  bif (decide ((out ++ (Jia (Qc6 (Jbf (List.getD w (i).toNat (0 : UInt32)) (List.getD before (i).toNat (0 : UInt32)))) (4 : Int))).length ≤ big)) then
  next (Jag i (1 : Int)) before w (out ++ (Jia (Qc6 (Jbf (List.getD w (i).toNat (0 : UInt32)) (List.getD before (i).toNat (0 : UInt32)))) (4 : Int)))
  else fail
  else fail
  else fail
  else fail
 else
 ex0 i before w out
def Jlo {X : Type} (F : Nat) (fail : X) (ex0 : Int → ZW → ZW → ZB → X) : Nat → Int → ZW → ZW → ZB → X
 | 0, _, _, _, _ => fail
 | m + 1, i, before, w, out => Jyx F fail (Jlo F fail ex0 m) ex0 i before w out
def K4t {X : Type} (F : Nat) (key : ZB) (nonce counter : Int) (fail : X) (ret : ZB → Int → X) : X :=
 bif (!(Jib nonce)) then
  ret ([] : ZB) 2
 else
 bif (decide (counter < 0)) then
  ret ([] : ZB) 2
 else
 bif (decide (counter > 4294967295)) then
  ret ([] : ZB) 2
 else
 bif (Jtv key nonce counter) then
 bif (Jtv key nonce counter) then
 Jln F fail
  (fun i before w =>
   Jlo F fail
    (fun i1 before1 w1 out =>
     ret out 0)
    F 0 before w ([] : ZB))
  F 0 (J4r key nonce counter) (J4r key nonce counter)
 else fail
 else fail
def Jue {X : Type} (F : Nat) (fail : X) (next ex0 : Int → ZB → Int → ZB → ZB → ZB → X) (nonce : Int) (b : ZB) (i : Int) (key out block : ZB) : X :=
 bif (decide (i < (b.length : Int))) then
  bif ((Jb8 i (64 : Int)) == (0 : Int)) then
   bif (J4s key nonce (Jag 1 (Kkv i 64))) then
   bif ((decide (0 ≤ i)) && (decide (i < (b.length : Int)))) then
   bif ((decide (0 ≤ (Jb8 i 64))) && (decide ((Jb8 i 64) < (((Jic key nonce (Jag 1 (Kkv i 64))).length : Nat) : Int)))) then
   bif (decide ((out ++ ([(Jpj (List.getD b (i).toNat (0 : UInt8)) (List.getD (Jic key nonce (Jag (1 : Int) (Kkv i (64 : Int)))) ((Jb8 i (64 : Int))).toNat (0 : UInt8)))] : ZB)).length ≤ big)) then
   next nonce b (Jag i (1 : Int)) key (out ++ ([(Jpj (List.getD b (i).toNat (0 : UInt8)) (List.getD (Jic key nonce (Jag (1 : Int) (Kkv i (64 : Int)))) ((Jb8 i (64 : Int))).toNat (0 : UInt8)))] : ZB)) (Jic key nonce (Jag (1 : Int) (Kkv i (64 : Int))))
   else fail
   else fail
   else fail
   else fail
  else
  bif ((decide (0 ≤ i)) && (decide (i < (b.length : Int)))) then
  bif ((decide (0 ≤ (Jb8 i 64))) && (decide ((Jb8 i 64) < (block.length : Int)))) then
  bif (decide ((out ++ ([(Jpj (List.getD b (i).toNat (0 : UInt8)) (List.getD block ((Jb8 i (64 : Int))).toNat (0 : UInt8)))] : ZB)).length ≤ big)) then
  next nonce b (Jag i (1 : Int)) key (out ++ ([(Jpj (List.getD b (i).toNat (0 : UInt8)) (List.getD block ((Jb8 i (64 : Int))).toNat (0 : UInt8)))] : ZB)) block
  else fail
  else fail
  else fail
 else
 ex0 nonce b i key out block
def Ji9 {X : Type} (F : Nat) (fail : X) (ex0 : Int → ZB → Int → ZB → ZB → ZB → X) : Nat → Int → ZB → Int → ZB → ZB → ZB → X
 | 0, _, _, _, _, _, _ => fail
 | m + 1, nonce, b, i, key, out, block => Jue F fail (Ji9 F fail ex0 m) ex0 nonce b i key out block
def Krs {X : Type} (F : Nat) (key : ZB) (nonce : Int) (b : ZB) (fail : X) (ret : ZB → Int → X) : X :=
 bif (decide ((b.length : Int) > 65536)) then
  ret ([] : ZB) 5
 else
 bif (!(Jib nonce)) then
  ret ([] : ZB) 2
 else
 Ji9 F fail
  (fun nonce1 b1 i Jn2 out block =>
   ret out 0)
  F nonce b 0 key ([] : ZB) ([] : ZB)
end Go.AI
namespace Go.AI
open Go
set_option linter.unusedVariables false
def J02 {X : Type} (F : Nat) (fail : X) (next ex0 : UInt32 → Int → X) (register : UInt32) (s4 : Int) : X :=
 bif (decide (s4 < 8)) then
  bif (((((Jxc register 1)).toNat : Nat) : Int) == 1) then
   next (Jgg (Jqx register 1) 3988292384) (Jag s4 1)
  else
  next (Jqx register 1) (Jag s4 1)
 else
 ex0 register s4
def Jl9 {X : Type} (F : Nat) (fail : X) (ex0 : UInt32 → Int → X) : Nat → UInt32 → Int → X
 | 0, _, _ => fail
 | m + 1, register, s4 => J02 F fail (Jl9 F fail ex0 m) ex0 register s4
def Krt {X : Type} (F : Nat) (register : UInt32) (fail : X) (ret : UInt32 → X) : X :=
 Jl9 F fail
  (fun register1 s4 =>
   ret register1)
  F register 0
def J6x {X : Type} (F : Nat) (fail : X) (next ex0 : Int → ZW → ZW → X) (s3 : Int) (s0 out : ZW) : X :=
 bif (decide (s3 < 256)) then
  bif (Jyf (Kcl s3)) then
  bif ((decide (0 ≤ s3)) && (decide (s3 < (256 : Int)))) then
  next (Jag s3 1) s0 (List.set out (s3).toNat (Jjt (Kcl s3)))
  else fail
  else fail
 else
 ex0 s3 s0 out
def Jop {X : Type} (F : Nat) (fail : X) (ex0 : Int → ZW → ZW → X) : Nat → Int → ZW → ZW → X
 | 0, _, _, _ => fail
 | m + 1, s3, s0, out => J6x F fail (Jop F fail ex0 m) ex0 s3 s0 out
def K4u {X : Type} (F : Nat) (fail : X) (ret : ZW → X) : X :=
 Jop F fail
  (fun s3 s0 out =>
   ret out)
  F (0 : Int) (List.replicate 256 (0 : UInt32)) (List.replicate 256 (0 : UInt32))
def Kf7 {X : Type} (F : Nat) (fail : X) (next ex0 : ZB → Int → Int → UInt32 → UInt32 → UInt32 → ZW → ZB → X) (s5 : ZB) (s6 s7 : Int) (s4 s61 register : UInt32) (t : ZW) (bytes : ZB) : X :=
 bif (decide (s7 < s6)) then
  bif ((decide (0 ≤ s7)) && (decide (s7 < (s5.length : Int)))) then
  bif ((decide (0 ≤ ((((Jpj (J3k register) (List.getD s5 (s7).toNat 0))).toNat : Nat) : Int))) && (decide (((((Jpj (J3k register) (List.getD s5 (s7).toNat 0))).toNat : Nat) : Int) < (256 : Int)))) then
  next s5 s6 (Jag s7 1) s4 s61 (Jgg (Jqx register 8) (List.getD t ((Jpj (J3k register) (List.getD s5 (s7).toNat 0))).toNat 0)) t bytes
  else fail
  else fail
 else
 ex0 s5 s6 s7 s4 s61 register t bytes
def Juf {X : Type} (F : Nat) (fail : X) (ex0 : ZB → Int → Int → UInt32 → UInt32 → UInt32 → ZW → ZB → X) : Nat → ZB → Int → Int → UInt32 → UInt32 → UInt32 → ZW → ZB → X
 | 0, _, _, _, _, _, _, _, _ => fail
 | m + 1, s5, s6, s7, s4, s61, register, t, bytes => Kf7 F fail (Juf F fail ex0 m) ex0 s5 s6 s7 s4 s61 register t bytes
def cUpd {X : Type} (F : Nat) (sum : UInt32) (b : ZB) (fail : X) (ret : UInt32 → X) : X :=
 bif (J4t) then
 Juf F fail
  (fun s5 s6 s7 s4 s61 register t bytes =>
   ret (K34 register))
  F b (b.length : Int) 0 0 (K34 sum) (K34 sum) (Jko) b
 else fail
def cSum {X : Type} (F : Nat) (b : ZB) (fail : X) (ret : UInt32 → X) : X :=
 bif (Kk5 0 b) then
 ret (Kw1 0 b)
 else fail
def K4v {X : Type} (F : Nat) (length : Int) (fail : X) (ret : Int → X) : X :=
 ret (Kkv (Jby (Jag length 15) 1) 15)
def K4w {X : Type} (F : Nat) (length : Int) (fail : X) (ret : Int → X) : X :=
 bif (decide (length < 0)) then
  ret 0
 else
 bif (decide (length > 65536)) then
  ret 0
 else
 bif (Jkp length) then
 ret (Jag (Jkq length) 1)
 else fail
def K4x {X : Type} (F : Nat) (l : ZL) (fail : X) (ret : Int → X) : X :=
 bif (decide (l.2.2.1 < 2)) then
  ret 2
 else
 bif (decide (l.2.2.1 > 8192)) then
  bif (decide (l.2.2.1 > 8192)) then
   ret 2
  else
  bif (decide (l.2.1 < 0)) then
   ret 3
  else
  bif (decide (l.2.1 ≥ l.1)) then
   ret 3
  else
  ret 0
 else
 bif (decide (l.1 < 1)) then
  ret 2
 else
 bif (decide (l.1 > l.2.2.1)) then
  ret 2
 else
 bif (decide (l.2.1 < 0)) then
  ret 3
 else
 bif (decide (l.2.1 ≥ l.1)) then
  ret 3
 else
 ret 0
def Qh3 {X : Type} (F : Nat) (fail : X) (ret : ZB → X) : X :=
 ret ((([(3 : UInt8)] : ZB) ++ (List.take (min ([(99 : UInt8), (111 : UInt8), (109 : UInt8), (112 : UInt8), (97 : UInt8), (99 : UInt8), (116 : UInt8), (111 : UInt8), (114 : UInt8), (32 : UInt8), (108 : UInt8), (111 : UInt8), (103 : UInt8), (32 : UInt8), (49 : UInt8)] : ZB).length 15) ([(99 : UInt8), (111 : UInt8), (109 : UInt8), (112 : UInt8), (97 : UInt8), (99 : UInt8), (116 : UInt8), (111 : UInt8), (114 : UInt8), (32 : UInt8), (108 : UInt8), (111 : UInt8), (103 : UInt8), (32 : UInt8), (49 : UInt8)] : ZB))) ++ (List.drop (1 + (min ([(99 : UInt8), (111 : UInt8), (109 : UInt8), (112 : UInt8), (97 : UInt8), (99 : UInt8), (116 : UInt8), (111 : UInt8), (114 : UInt8), (32 : UInt8), (108 : UInt8), (111 : UInt8), (103 : UInt8), (32 : UInt8), (49 : UInt8)] : ZB).length 15)) ([(3 : UInt8), (0 : UInt8), (0 : UInt8), (0 : UInt8), (0 : UInt8), (0 : UInt8), (0 : UInt8), (0 : UInt8), (0 : UInt8), (0 : UInt8), (0 : UInt8), (0 : UInt8), (0 : UInt8), (0 : UInt8), (0 : UInt8), (0 : UInt8)] : ZB)))
def Jyy {X : Type} (F : Nat) (fail : X) (next ex0 : Int → ZB → Int → Int → X) (n : Int) (s6 : ZB) (s7 s8 : Int) : X :=
 bif (decide (s8 < s7)) then
  bif ((decide (0 ≤ s8)) && (decide (s8 < (s6.length : Int)))) then
  next (orI (Qey n 8) (Kkx (List.getD s6 (s8).toNat 0))) s6 s7 (Jag s8 1)
  else fail
 else
 ex0 n s6 s7 s8
def Jlp {X : Type} (F : Nat) (fail : X) (ex0 : Int → ZB → Int → Int → X) : Nat → Int → ZB → Int → Int → X
 | 0, _, _, _, _ => fail
 | m + 1, n, s6, s7, s8 => Jyy F fail (Jlp F fail ex0 m) ex0 n s6 s7 s8
def K4y {X : Type} (F : Nat) (from_ : ZB) (fail : X) (ret : Int → X) : X :=
 Jlp F fail
  (fun n s6 s7 s8 =>
   ret n)
  F 0 from_ (from_.length : Int) 0
def Kf8 {X : Type} (F : Nat) (fail : X) (next ex0 : Nat → Nat → Int → Int → Int → ZB → ZB → ZB → X) (to_i to_n : Nat) (n s6 s7 : Int) (payload to s4 : ZB) : X :=
 bif (decide (s7 < s6)) then
  bif (decide (0 ≤ (Jfe 8 s7))) then
  bif ((decide (0 ≤ (Jby (Jby ((to_n : Nat) : Int) 1) s7))) && (decide ((Jby (Jby ((to_n : Nat) : Int) 1) s7) < ((to_n : Nat) : Int)))) then
  next to_i to_n n s6 (Jag s7 1) payload (List.set to (to_i + ((Jby (Jby ((to_n : Nat) : Int) 1) s7)).toNat) (Kjg (Kkw n (Jfe 8 s7)))) s4
  else fail
  else fail
 else
 ex0 to_i to_n n s6 s7 payload to s4
def Jp6 {X : Type} (F : Nat) (fail : X) (ex0 : Nat → Nat → Int → Int → Int → ZB → ZB → ZB → X) : Nat → Nat → Nat → Int → Int → Int → ZB → ZB → ZB → X
 | 0, _, _, _, _, _, _, _, _ => fail
 | m + 1, to_i, to_n, n, s6, s7, payload, to, s4 => Kf8 F fail (Jp6 F fail ex0 m) ex0 to_i to_n n s6 s7 payload to s4
def Kf9 {X : Type} (F : Nat) (fail : X) (next ex0 : Nat → Nat → Int → Int → Int → ZB → Nat → Nat → ZB → ZB → X) (to_i to_n : Nat) (n s6 s7 : Int) (payload : ZB) (s10_i s10_n : Nat) (to s4 : ZB) : X :=
 bif (decide (s7 < s6)) then
  bif (decide (0 ≤ (Jfe 8 s7))) then
  bif ((decide (0 ≤ (Jby (Jby ((to_n : Nat) : Int) 1) s7))) && (decide ((Jby (Jby ((to_n : Nat) : Int) 1) s7) < ((to_n : Nat) : Int)))) then
  next to_i to_n n s6 (Jag s7 1) payload s10_i s10_n (List.set to (to_i + ((Jby (Jby ((to_n : Nat) : Int) 1) s7)).toNat) (Kjg (Kkw n (Jfe 8 s7)))) s4
  else fail
  else fail
 else
 ex0 to_i to_n n s6 s7 payload s10_i s10_n to s4
def Jnn {X : Type} (F : Nat) (fail : X) (ex0 : Nat → Nat → Int → Int → Int → ZB → Nat → Nat → ZB → ZB → X) : Nat → Nat → Nat → Int → Int → Int → ZB → Nat → Nat → ZB → ZB → X
 | 0, _, _, _, _, _, _, _, _, _, _ => fail
 | m + 1, to_i, to_n, n, s6, s7, payload, s10_i, s10_n, to, s4 => Kf9 F fail (Jnn F fail ex0 m) ex0 to_i to_n n s6 s7 payload s10_i s10_n to s4
def Kga {X : Type} (F : Nat) (fail : X) (next ex0 : Nat → Nat → Int → Int → Int → ZB → Nat → Nat → Nat → Nat → ZB → ZB → X) (to_i to_n : Nat) (n s6 s7 : Int) (payload : ZB) (s10_i s10_n s19_i s19_n : Nat) (to s4 : ZB) : X :=
 bif (decide (s7 < s6)) then
  bif (decide (0 ≤ (Jfe 8 s7))) then
  bif ((decide (0 ≤ (Jby (Jby ((to_n : Nat) : Int) 1) s7))) && (decide ((Jby (Jby ((to_n : Nat) : Int) 1) s7) < ((to_n : Nat) : Int)))) then
  next to_i to_n n s6 (Jag s7 1) payload s10_i s10_n s19_i s19_n (List.set to (to_i + ((Jby (Jby ((to_n : Nat) : Int) 1) s7)).toNat) (Kjg (Kkw n (Jfe 8 s7)))) s4
  else fail
  else fail
 else
 ex0 to_i to_n n s6 s7 payload s10_i s10_n s19_i s19_n to s4
def Jp7 {X : Type} (F : Nat) (fail : X) (ex0 : Nat → Nat → Int → Int → Int → ZB → Nat → Nat → Nat → Nat → ZB → ZB → X) : Nat → Nat → Nat → Int → Int → Int → ZB → Nat → Nat → Nat → Nat → ZB → ZB → X
 | 0, _, _, _, _, _, _, _, _, _, _, _, _ => fail
 | m + 1, to_i, to_n, n, s6, s7, payload, s10_i, s10_n, s19_i, s19_n, to, s4 => Kga F fail (Jp7 F fail ex0 m) ex0 to_i to_n n s6 s7 payload s10_i s10_n s19_i s19_n to s4
def lEnd {X : Type} (F : Nat) (payload : ZB) (commits : Int) (fail : X) (ret : ZB → X) : X :=
 Jp6 F fail
  (fun to_i to_n n s6 s7 payload1 to s4 =>
   bif (Jkp (payload1.length : Int)) then
   Jnn F fail
    (fun to_i1 to_n1 n1 s61 s71 payload2 s10_i s10_n to1 s41 =>
     Jnn F fail
      (fun to_i2 to_n2 n2 s62 s72 payload3 s10_i1 s10_n1 to2 s42 =>
       bif (Kcr payload3) then
       Jp7 F fail
        (fun to_i3 to_n3 n3 s63 s73 payload4 s10_i2 s10_n2 s19_i s19_n to3 s43 =>
         ret to3)
        F 12 4 (Qc6 (Kcs payload3)) 4 0 payload3 s10_i1 s10_n1 12 4 to2 s42
       else fail)
      F 8 4 (payload2.length : Int) 4 0 payload2 s10_i s10_n to1 s41)
    F 5 3 (Jkq (payload1.length : Int)) 3 0 payload1 5 3 to s4
   else fail)
  F 1 4 commits 4 0 payload ([2, 0, 0, 0, 0, 0, 0, 0, 0, 0, 0, 0, 0, 0, 0, 0] : ZB) z16
def Qde {X : Type} (F : Nat) (at_ : Int) (l : List ZB) (fail : X) (ret : (Int × (Int × ((List ZB) × Unit))) → X) : X :=
 ret (0, (at_, (l, ())))
def Qh4 {X : Type} (F : Nat) (fail : X) (ret : (Int × (Int × ((List ZB) × Unit))) → X) : X :=
 ret (1, (0, (([] : List ZB), ())))
def J4y {X : Type} (F : Nat) (fail : X) (next ex0 ex1 : ZB → Int → Int → Int → X) (s : ZB) (s4 s7 s8 : Int) : X :=
 bif (decide (s8 < s7)) then
  bif ((decide (0 ≤ s8)) && (decide (s8 < (s.length : Int)))) then
  bif (((((List.getD s (s8).toNat 0)).toNat : Nat) : Int) != 0) then
   ex0 s s8 s7 s8
  else
  next s s4 s7 (Jag s8 1)
  else fail
 else
 ex1 s s4 s7 s8
def Joq {X : Type} (F : Nat) (fail : X) (ex0 ex1 : ZB → Int → Int → Int → X) : Nat → ZB → Int → Int → Int → X
 | 0, _, _, _, _ => fail
 | m + 1, s, s4, s7, s8 => J4y F fail (Joq F fail ex0 ex1 m) ex0 ex1 s s4 s7 s8
def Qfg {X : Type} (F : Nat) (s : ZB) (fail : X) (ret : Bool → X) : X :=
 Joq F fail
  (fun s1 s4 s7 s8 =>
   ret (decide (s4 ≥ 0)))
  (fun s2 s41 s71 s81 =>
   ret false)
  F s 0 (s.length : Int) 0
def Kru {X : Type} (F : Nat) (size : Int) (fail : X) (ret : ZL → List (Int × (Int × ((List ZB) × Unit))) → Int → X) : X :=
 bif (decide (size < 2)) then
  ret (0, (0, (0, ()))) ([] : List (Int × (Int × ((List ZB) × Unit)))) 2
 else
 bif (decide (size > 8192)) then
  ret (0, (0, (0, ()))) ([] : List (Int × (Int × ((List ZB) × Unit)))) 2
 else
 bif (((decide (0 ≤ size)) && true) && (decide (size ≤ ((big : Nat) : Int)))) then
 bif (Jks (0 : Int) (List.replicate (size).toNat z16)) then
 bif (Jpp) then
 bif (J6p) then
 bif (Jks 0 ([(J0w)] : List ZB)) then
 bif (Jpp) then
 ret ((1 : Int), ((0 : Int), (size, ()))) ([(Jkt (0 : Int) (List.replicate (size).toNat z16)), (Jpq), (Jkt (0 : Int) ([(J0w)] : List ZB)), (Jpq)] : List (Int × (Int × ((List ZB) × Unit)))) (0 : Int)
 else fail
 else fail
 else fail
 else fail
 else fail
 else fail
def Jug {X : Type} (F : Nat) (fail : X) (next ex0 : Int → ZB → Int → Int → List ZB → ZB → Int → ZL → ZL → X) (i : Int) (payload : ZB) (s6 n : Int) (parts : List ZB) (s1 : ZB) (s2 : Int) (l s4 : ZL) : X :=
 bif (decide (i < (s1.length : Int))) then
  bif ((decide (0 ≤ i)) && (decide (i ≤ (s1.length : Int)))) then
  bif ((((decide (0 ≤ i)) && (decide (i ≤ (Jag i (Kfe s2 (((List.drop (i).toNat s1).length : Nat) : Int)))))) && (decide ((Jag i (Kfe s2 (((List.drop (i).toNat s1).length : Nat) : Int))) ≤ (s1.length : Int)))) && ((Jag i (Kfe s2 (((List.drop (i).toNat s1).length : Nat) : Int))) == (Jag i (Kfe s2 (((List.drop (i).toNat s1).length : Nat) : Int))))) then
  bif (decide ((parts ++ ([((([(1 : UInt8)] : ZB) ++ (List.take (min (List.drop (i).toNat (List.take ((Jag i (Kfe s2 (((List.drop (i).toNat s1).length : Nat) : Int)))).toNat s1)).length 15) (List.drop (i).toNat (List.take ((Jag i (Kfe s2 (((List.drop (i).toNat s1).length : Nat) : Int)))).toNat s1)))) ++ (List.drop (1 + (min (List.drop (i).toNat (List.take ((Jag i (Kfe s2 (((List.drop (i).toNat s1).length : Nat) : Int)))).toNat s1)).length 15)) ([(1 : UInt8), (0 : UInt8), (0 : UInt8), (0 : UInt8), (0 : UInt8), (0 : UInt8), (0 : UInt8), (0 : UInt8), (0 : UInt8), (0 : UInt8), (0 : UInt8), (0 : UInt8), (0 : UInt8), (0 : UInt8), (0 : UInt8), (0 : UInt8)] : ZB)))] : List ZB)).length ≤ big)) then
  next (Jag i s2) payload s6 n (parts ++ ([((([(1 : UInt8)] : ZB) ++ (List.take (min (List.drop (i).toNat (List.take ((Jag i (Kfe s2 (((List.drop (i).toNat s1).length : Nat) : Int)))).toNat s1)).length 15) (List.drop (i).toNat (List.take ((Jag i (Kfe s2 (((List.drop (i).toNat s1).length : Nat) : Int)))).toNat s1)))) ++ (List.drop (1 + (min (List.drop (i).toNat (List.take ((Jag i (Kfe s2 (((List.drop (i).toNat s1).length : Nat) : Int)))).toNat s1)).length 15)) ([(1 : UInt8), (0 : UInt8), (0 : UInt8), (0 : UInt8), (0 : UInt8), (0 : UInt8), (0 : UInt8), (0 : UInt8), (0 : UInt8), (0 : UInt8), (0 : UInt8), (0 : UInt8), (0 : UInt8), (0 : UInt8), (0 : UInt8), (0 : UInt8)] : ZB)))] : List ZB)) s1 s2 l s4
  else fail
  else fail
  else fail
 else
 ex0 i payload s6 n parts s1 s2 l s4
def Jja {X : Type} (F : Nat) (fail : X) (ex0 : Int → ZB → Int → Int → List ZB → ZB → Int → ZL → ZL → X) : Nat → Int → ZB → Int → Int → List ZB → ZB → Int → ZL → ZL → X
 | 0, _, _, _, _, _, _, _, _, _ => fail
 | m + 1, i, payload, s6, n, parts, s1, s2, l, s4 => Jug F fail (Jja F fail ex0 m) ex0 i payload s6 n parts s1 s2 l s4
def Krv {X : Type} (F : Nat) (l : ZL) (payload : ZB) (fail : X) (ret : ZL → List (Int × (Int × ((List ZB) × Unit))) → Int → X) : X :=
 bif ((Jkr l) != 0) then
  ret (0, (0, (0, ()))) ([] : List (Int × (Int × ((List ZB) × Unit)))) (Jkr l)
 else
 bif (J4u (payload.length : Int)) then
 bif (decide ((payload.length : Int) > 65536)) then
  ret (0, (0, (0, ()))) ([] : List (Int × (Int × ((List ZB) × Unit)))) 5
 else
 bif (decide ((Jji (payload.length : Int)) > (Jby l.2.2.1 l.1))) then
  ret (0, (0, (0, ()))) ([] : List (Int × (Int × ((List ZB) × Unit)))) 11
 else
 bif (decide ((Jji (payload.length : Int)) > 1)) then
  Jja F fail
   (fun i payload1 s6 n parts s1 s2 l1 s4 =>
    bif (Jks l1.1 parts) then
    bif (Jpp) then
    bif (J6q payload1 (Jag l1.2.1 1)) then
    bif (Jks (Jby (Jag l1.1 n) 1) ([(Jyg payload1 (Jag l1.2.1 1))] : List ZB)) then
    bif (Jpp) then
    ret ((Jag l1.1 n), ((Jag l1.2.1 1), (l1.2.2.1, ()))) ([(Jkt l1.1 parts), (Jpq), (Jkt (Jby (Jag l1.1 n) 1) ([(Jyg payload1 (Jag l1.2.1 1))] : List ZB)), (Jpq)] : List (Int × (Int × ((List ZB) × Unit)))) 0
    else fail
    else fail
    else fail
    else fail
    else fail)
   F 0 payload 0 (Jji (payload.length : Int)) ([] : List ZB) payload 15 l (0, (0, (0, ())))
 else
 bif (J6q payload (Jag l.2.1 1)) then
 bif (Jks (Jby (Jag l.1 (Jji (payload.length : Int))) 1) ([(Jyg payload (Jag l.2.1 1))] : List ZB)) then
 bif (Jpp) then
 ret ((Jag l.1 (Jji (payload.length : Int))), ((Jag l.2.1 1), (l.2.2.1, ()))) ([(Jkt (Jby (Jag l.1 (Jji (payload.length : Int))) 1) ([(Jyg payload (Jag l.2.1 1))] : List ZB)), (Jpq)] : List (Int × (Int × ((List ZB) × Unit)))) 0
 else fail
 else fail
 else fail
 else fail
def J4z {X : Type} (F : Nat) (fail : X) (next ex0 ex1 : Int → Int → List ZB → Int → Int → Int → ((List ZB) × Unit) → ZB → Bool → ZB → List ZB → X) (number count : Int) (l : List ZB) (first s5 left : Int) (r : ((List ZB) × Unit)) (payload : ZB) (ok : Bool) (p : ZB) (out : List ZB) : X :=
 bif (((((List.getD p 0 0)).toNat : Nat) : Int) == 1) then
  bif (decide ((payload ++ (List.take 15 (List.drop 1 p))).length ≤ big)) then
  bif (!(decide (((r.1.length : Nat) : Int) > 0))) then
   ex0 number (Jag count (1 : Int)) l first s5 left r (payload ++ (List.take 15 (List.drop 1 p))) ok p out
  else
  bif (decide (0 < ((r.1.length : Nat) : Int))) then
  bif (decide (1 ≤ ((r.1.length : Nat) : Int))) then
  next number (Jag count (1 : Int)) l first s5 left ((List.drop 1 r.1), r.2) (payload ++ (List.take 15 (List.drop 1 p))) ok (List.getD r.1 0 z16) out
  else fail
  else fail
  else fail
 else
 ex1 number count l first s5 left r payload ok p out
def Jor {X : Type} (F : Nat) (fail : X) (ex0 ex1 : Int → Int → List ZB → Int → Int → Int → ((List ZB) × Unit) → ZB → Bool → ZB → List ZB → X) : Nat → Int → Int → List ZB → Int → Int → Int → ((List ZB) × Unit) → ZB → Bool → ZB → List ZB → X
 | 0, _, _, _, _, _, _, _, _, _, _, _ => fail
 | m + 1, number, count, l, first, s5, left, r, payload, ok, p, out => J4z F fail (Jor F fail ex0 ex1 m) ex0 ex1 number count l first s5 left r payload ok p out
def J40 {X : Type} (F : Nat) (fail : X) (next ex0 : List ZB → Int → Int → List ZB → ((List ZB) × Unit) → X) (l : List ZB) (first s5 : Int) (out : List ZB) (r : ((List ZB) × Unit)) : X :=
 bif (!(decide (((r.1.length : Nat) : Int) > 0))) then
  ex0 l first (Jby (l.length : Int) ((r.1.length : Nat) : Int)) out r
 else
 bif (decide (0 < ((r.1.length : Nat) : Int))) then
 bif (decide (1 ≤ ((r.1.length : Nat) : Int))) then
 Jor F fail
  (fun number count l1 first1 s51 left r1 payload ok p out1 =>
   ex0 l1 first1 (Jby (l1.length : Int) left) out1 r1)
  (fun number1 count1 l2 first2 s52 left1 r2 payload1 ok1 p1 out2 =>
   bif (Jnd (List.take 4 (List.drop 8 p1))) then
   bif (((((List.getD p1 0 0)).toNat : Nat) : Int) == 2) then
    bif (Jnd (List.take 4 (List.drop 1 p1))) then
    bif ((Jb5 (List.take 4 (List.drop 1 p1))) == number1) then
     bif (Jnd (List.take 3 (List.drop 5 p1))) then
     bif ((Jb5 (List.take 3 (List.drop 5 p1))) == count1) then
      bif (decide ((Jb5 (List.take 4 (List.drop 8 p1))) ≤ 65536)) then
       bif (Jkp (Jb5 (List.take 4 (List.drop 8 p1)))) then
       bif (!((Jkq (Jb5 (List.take 4 (List.drop 8 p1)))) == count1)) then
        ex0 l2 first2 (Jby (l2.length : Int) left1) out2 r2
       else
       bif ((decide (0 ≤ (Jb5 (List.take 4 (List.drop 8 p1))))) && (decide ((Jb5 (List.take 4 (List.drop 8 p1))) ≤ (payload1.length : Int)))) then
       bif (((decide (0 ≤ (Jb5 (List.take 4 (List.drop 8 p1))))) && (decide ((Jb5 (List.take 4 (List.drop 8 p1))) ≤ (payload1.length : Int)))) && ((Jb5 (List.take 4 (List.drop 8 p1))) == (Jb5 (List.take 4 (List.drop 8 p1))))) then
       bif (Kzq (List.take (payload1.length - ((Jb5 (List.take 4 (List.drop 8 p1)))).toNat) (List.drop ((Jb5 (List.take 4 (List.drop 8 p1)))).toNat payload1)) 132) then
       bif (!(Kzr (List.take (payload1.length - ((Jb5 (List.take 4 (List.drop 8 p1)))).toNat) (List.drop ((Jb5 (List.take 4 (List.drop 8 p1)))).toNat payload1)) 132)) then
        bif (Jnd (List.take 4 (List.drop 12 p1))) then
        bif (Kcr (List.take ((Jb5 (List.take 4 (List.drop 8 p1)))).toNat payload1)) then
        bif (!((Jb5 (List.take 4 (List.drop 12 p1))) == (Qc6 (Kcs (List.take ((Jb5 (List.take 4 (List.drop 8 p1)))).toNat payload1))))) then
         ex0 l2 first2 (Jby (l2.length : Int) left1) out2 r2
        else
        bif (decide ((out2 ++ ([(List.take ((Jb5 (List.take 4 (List.drop 8 p1)))).toNat payload1)] : List ZB)).length ≤ big)) then
        next l2 first2 s52 (out2 ++ ([(List.take ((Jb5 (List.take 4 (List.drop 8 p1)))).toNat payload1)] : List ZB)) r2
        else fail
        else fail
        else fail
       else
       ex0 l2 first2 (Jby (l2.length : Int) left1) out2 r2
       else fail
       else fail
       else fail
       else fail
      else
      ex0 l2 first2 (Jby (l2.length : Int) left1) out2 r2
     else
     ex0 l2 first2 (Jby (l2.length : Int) left1) out2 r2
     else fail
    else
    ex0 l2 first2 (Jby (l2.length : Int) left1) out2 r2
    else fail
   else
   ex0 l2 first2 (Jby (l2.length : Int) left1) out2 r2
   else fail)
  F (Jag first (out.length : Int)) 0 l first s5 ((r.1.length : Nat) : Int) ((List.drop 1 r.1), r.2) ([] : ZB) false (List.getD r.1 0 z16) out
 else fail
 else fail
def Jos {X : Type} (F : Nat) (fail : X) (ex0 : List ZB → Int → Int → List ZB → ((List ZB) × Unit) → X) : Nat → List ZB → Int → Int → List ZB → ((List ZB) × Unit) → X
 | 0, _, _, _, _, _ => fail
 | m + 1, l, first, s5, out, r => J40 F fail (Jos F fail ex0 m) ex0 l first s5 out r
def Qfh {X : Type} (F : Nat) (l : List ZB) (first : Int) (fail : X) (ret : List ZB → Int → X) : X :=
 bif (decide (first < 1)) then
  ret ([] : List ZB) 0
 else
 bif (decide (first > 8192)) then
  ret ([] : List ZB) 0
 else
 Jos F fail
  (fun l1 first1 s5 s4 r =>
   ret s4 s5)
  F l first 0 ([] : List ZB) (l, ())
def Qfi {X : Type} (F : Nat) (d_ : ZD) (fail : X) (ret : ZL → List ZB → Int → X) : X :=
 bif (Kfj d_ 0 ((d_.1.length : Nat) : Int)) then
 bif ((Jtp d_ 0 ((d_.1.length : Nat) : Int)) != 0) then
  ret (0, (0, (0, ()))) ([] : List ZB) (Jtp d_ 0 ((d_.1.length : Nat) : Int))
 else
 bif (decide ((((Jdy d_ 0 ((d_.1.length : Nat) : Int)).length : Nat) : Int) < 2)) then
  ret (0, (0, (0, ()))) ([] : List ZB) 2
 else
 bif (decide (0 < (((Jdy d_ 0 ((d_.1.length : Nat) : Int)).length : Nat) : Int))) then
 bif (J6p) then
 bif (!(Jv0 (.arr 16 (.int .u8)) (List.getD (Jdy d_ 0 ((d_.1.length : Nat) : Int)) 0 z16) (J0w))) then
  ret (0, (0, (0, ()))) ([] : List ZB) 3
 else
 bif (decide (1 ≤ (((Jdy d_ 0 ((d_.1.length : Nat) : Int)).length : Nat) : Int))) then
 bif (J0y (List.take ((Jdy d_ 0 ((d_.1.length : Nat) : Int)).length - 1) (List.drop 1 (Jdy d_ 0 ((d_.1.length : Nat) : Int)))) 1) then
 ret ((Jag 1 (Jku (List.take ((Jdy d_ 0 ((d_.1.length : Nat) : Int)).length - 1) (List.drop 1 (Jdy d_ 0 ((d_.1.length : Nat) : Int)))) 1)), ((((Jyi (List.take ((Jdy d_ 0 ((d_.1.length : Nat) : Int)).length - 1) (List.drop 1 (Jdy d_ 0 ((d_.1.length : Nat) : Int)))) 1).length : Nat) : Int), ((((Jdy d_ 0 ((d_.1.length : Nat) : Int)).length : Nat) : Int), ()))) (Jyi (List.take ((Jdy d_ 0 ((d_.1.length : Nat) : Int)).length - 1) (List.drop 1 (Jdy d_ 0 ((d_.1.length : Nat) : Int)))) 1) 0
 else fail
 else fail
 else fail
 else fail
 else fail
end Go.AI
namespace Go.AI
open Go
set_option linter.unusedVariables false
def Jyz {X : Type} (F : Nat) (fail : X) (next ex0 ex1 : Int → List ZR → Int → Int → X) (s2 : Int) (s8 : List ZR) (s9 s10 : Int) : X :=
 bif (decide (s10 < s9)) then
  bif ((decide (0 ≤ s10)) && (decide (s10 < (s8.length : Int)))) then
  bif (decide ((List.getD s8 (s10).toNat (0, (([] : ZB), ()))).1 ≥ 1)) then
   bif (!(decide ((List.getD s8 (s10).toNat (0, (([] : ZB), ()))).1 ≤ 4))) then
    ex0 1 s8 s9 s10
   else
   bif (decide ((((List.getD s8 (s10).toNat (0, (([] : ZB), ()))).2.1.length : Nat) : Int) > 65536)) then
    ex0 5 s8 s9 s10
   else
   next s2 s8 s9 (Jag s10 1)
  else
  ex0 1 s8 s9 s10
  else fail
 else
 ex1 s2 s8 s9 s10
def Jlq {X : Type} (F : Nat) (fail : X) (ex0 ex1 : Int → List ZR → Int → Int → X) : Nat → Int → List ZR → Int → Int → X
 | 0, _, _, _, _ => fail
 | m + 1, s2, s8, s9, s10 => Jyz F fail (Jlq F fail ex0 ex1 m) ex0 ex1 s2 s8 s9 s10
def K4z {X : Type} (F : Nat) (l : List ZR) (fail : X) (ret : Int → X) : X :=
 bif (decide ((l.length : Int) > 1024)) then
  ret 6
 else
 Jlq F fail
  (fun s2 s8 s9 s10 =>
   ret s2)
  (fun s21 s81 s91 s101 =>
   ret 0)
  F 0 l (l.length : Int) 0
def Krw {X : Type} (F : Nat) (b : ZB) (x_ : Int) (fail : X) (ret : ZB → X) : X :=
 bif (Jf9 b x_) then
 ret (Jkm b x_)
 else fail
def Krx {X : Type} (F : Nat) (b x_ : ZB) (fail : X) (ret : ZB → X) : X :=
 bif (Jeg b x_) then
 ret (Jh8 b x_)
 else fail
def Juh {X : Type} (F : Nat) (fail : X) (next ex0 : List ZR → Int → Int → ZB → X) (s16 : List ZR) (s17 s18 : Int) (b : ZB) : X :=
 bif (decide (s18 < s17)) then
  bif ((decide (0 ≤ s18)) && (decide (s18 < (s16.length : Int)))) then
  bif (Jps b 51 (List.getD s16 (s18).toNat (0, (([] : ZB), ()))).1) then
  bif (Jwk (Jkb b 51 (List.getD s16 (s18).toNat (0, (([] : ZB), ()))).1) 53 (List.getD s16 (s18).toNat (0, (([] : ZB), ()))).2.1) then
  next s16 s17 (Jag s18 1) (Jr3 (Jkb b 51 (List.getD s16 (s18).toNat (0, (([] : ZB), ()))).1) 53 (List.getD s16 (s18).toNat (0, (([] : ZB), ()))).2.1)
  else fail
  else fail
  else fail
 else
 ex0 s16 s17 s18 b
def Jfo {X : Type} (F : Nat) (fail : X) (ex0 : List ZR → Int → Int → ZB → X) : Nat → List ZR → Int → Int → ZB → X
 | 0, _, _, _, _ => fail
 | m + 1, s16, s17, s18, b => Juh F fail (Jfo F fail ex0 m) ex0 s16 s17 s18 b
def Kry {X : Type} (F : Nat) (l : List ZR) (fail : X) (ret : ZB → Int → X) : X :=
 bif (Jne l) then
 bif ((Jjj l) != 0) then
  ret ([] : ZB) (Jjj l)
 else
 bif (Jps ([] : ZB) 51 (l.length : Int)) then
 Jfo F fail
  (fun s16 s17 s18 b =>
   bif (decide ((b.length : Int) > 65536)) then
    ret ([] : ZB) 5
   else
   ret b 0)
  F l (l.length : Int) 0 (Jkb ([] : ZB) 51 (l.length : Int))
 else fail
 else fail
def Jui {X : Type} (F : Nat) (fail : X) (next ex0 ex1 : Int → Int → Int → ZB → List ZR → X) (s3 s19 s20 : Int) (b : ZB) (out : List ZR) : X :=
 bif (decide (s20 < s19)) then
  bif (Jef b) then
  bif ((Jbb b) == 0) then
   bif ((Jbb b) != 0) then
    ex0 (Jbb b) s19 s20 (Jam b) out
   else
   bif (decide ((Jao b) ≥ 1)) then
    bif (!(decide ((Jao b) ≤ 4))) then
     ex0 1 s19 s20 (Jam b) out
    else
    bif (Jfl (Jam b)) then
    bif ((Jci (Jam b)) == 0) then
     bif ((Jci (Jam b)) != 0) then
      ex0 (Jci (Jam b)) s19 s20 (Jd1 (Jam b)) out
     else
     bif (decide ((out ++ ([((Jao b), ((Jd0 (Jam b)), ()))] : List ZR)).length ≤ big)) then
     next s3 s19 (Jag s20 (1 : Int)) (Jd1 (Jam b)) (out ++ ([((Jao b), ((Jd0 (Jam b)), ()))] : List ZR))
     else fail
    else
    bif ((Jci (Jam b)) != 0) then
     ex0 (Jci (Jam b)) s19 s20 (Jam b) out
    else
    bif (decide ((out ++ ([((Jao b), (([] : ZB), ()))] : List ZR)).length ≤ big)) then
    next s3 s19 (Jag s20 (1 : Int)) (Jam b) (out ++ ([((Jao b), (([] : ZB), ()))] : List ZR))
    else fail
    else fail
   else
   ex0 1 s19 s20 (Jam b) out
  else
  bif ((Jbb b) != 0) then
   ex0 (Jbb b) s19 s20 b out
  else
  ex0 1 s19 s20 b out
  else fail
 else
 ex1 s3 s19 s20 b out
def Jex {X : Type} (F : Nat) (fail : X) (ex0 ex1 : Int → Int → Int → ZB → List ZR → X) : Nat → Int → Int → Int → ZB → List ZR → X
 | 0, _, _, _, _, _ => fail
 | m + 1, s3, s19, s20, b, out => Jui F fail (Jex F fail ex0 ex1 m) ex0 ex1 s3 s19 s20 b out
def Krz {X : Type} (F : Nat) (b : ZB) (fail : X) (ret : List ZR → Int → X) : X :=
 bif (decide ((b.length : Int) > 65536)) then
  ret ([] : List ZR) 5
 else
 bif (Jef b) then
 bif ((Jbb b) == 0) then
  bif ((Jbb b) != 0) then
   ret ([] : List ZR) (Jbb b)
  else
  bif (decide ((Jao b) > 1024)) then
   ret ([] : List ZR) 6
  else
  Jex F fail
   (fun s3 s19 s20 b1 out =>
    ret ([] : List ZR) s3)
   (fun s31 s191 s201 b2 out1 =>
    bif (decide ((b2.length : Int) > 0)) then
     ret ([] : List ZR) 3
    else
    ret out1 0)
   F 0 (Jao b) 0 (Jam b) ([] : List ZR)
 else
 bif ((Jbb b) != 0) then
  ret ([] : List ZR) (Jbb b)
 else
 Jex F fail
  (fun s32 s192 s202 b3 out2 =>
   ret ([] : List ZR) s32)
  (fun s33 s193 s203 b4 out3 =>
   bif (decide ((b4.length : Int) > 0)) then
    ret ([] : List ZR) 3
   else
   ret out3 0)
  F 0 0 0 b ([] : List ZR)
 else fail
def Kgb {X : Type} (F : Nat) (fail : X) (next ex0 ex1 : List ZR → Bool → Int → X) (l : List ZR) (s2 : Bool) (i : Int) : X :=
 bif (decide (i < (l.length : Int))) then
  bif (decide (i < 60)) then
   bif ((decide (0 ≤ i)) && (decide (i < (l.length : Int)))) then
   bif (decide ((((List.getD l (i).toNat (0, (([] : ZB), ()))).2.1.length : Nat) : Int) > 300)) then
    ex0 l false i
   else
   next l s2 (Jag i 1)
   else fail
  else
  ex1 l s2 i
 else
 ex1 l s2 i
def Juj {X : Type} (F : Nat) (fail : X) (ex0 ex1 : List ZR → Bool → Int → X) : Nat → List ZR → Bool → Int → X
 | 0, _, _, _ => fail
 | m + 1, l, s2, i => Kgb F fail (Juj F fail ex0 ex1 m) ex0 ex1 l s2 i
def uFew {X : Type} (F : Nat) (l : List ZR) (fail : X) (ret : Bool → X) : X :=
 Juj F fail
  (fun l1 s2 i =>
   ret s2)
  (fun l2 s21 i1 =>
   ret (decide ((l2.length : Int) ≤ 60)))
  F l false 0
def J41 {X : Type} (F : Nat) (fail : X) (next ex0 ex1 : List ZR → List ZR → Bool → Int → X) (a b : List ZR) (s4 : Bool) (i : Int) : X :=
 bif (decide (i < (a.length : Int))) then
  bif ((decide (0 ≤ i)) && (decide (i < (a.length : Int)))) then
  bif ((decide (0 ≤ i)) && (decide (i < (b.length : Int)))) then
  bif ((List.getD a (i).toNat (0, (([] : ZB), ()))).1 != (List.getD b (i).toNat (0, (([] : ZB), ()))).1) then
   ex0 a b false i
  else
  bif ((decide (0 ≤ i)) && (decide (i < (a.length : Int)))) then
  bif ((decide (0 ≤ i)) && (decide (i < (b.length : Int)))) then
  bif (!((List.getD a (i).toNat (0, (([] : ZB), ()))).2.1 == (List.getD b (i).toNat (0, (([] : ZB), ()))).2.1)) then
   ex0 a b false i
  else
  next a b s4 (Jag i 1)
  else fail
  else fail
  else fail
  else fail
 else
 ex1 a b s4 i
def Jot {X : Type} (F : Nat) (fail : X) (ex0 ex1 : List ZR → List ZR → Bool → Int → X) : Nat → List ZR → List ZR → Bool → Int → X
 | 0, _, _, _, _ => fail
 | m + 1, a, b, s4, i => J41 F fail (Jot F fail ex0 ex1 m) ex0 ex1 a b s4 i
def Qfj {X : Type} (F : Nat) (a b : List ZR) (fail : X) (ret : Bool → X) : X :=
 bif ((a.length : Int) != (b.length : Int)) then
  ret false
 else
 Jot F fail
  (fun a1 b1 s4 i =>
   ret s4)
  (fun a2 b2 s41 i1 =>
   ret true)
  F a b false 0
def Jp8 {X : Type} (F : Nat) (fail : X) (next ex0 ex1 : List (List ZR) → List (List ZR) → Bool → Int → X) (a b : List (List ZR)) (s4 : Bool) (i : Int) : X :=
 bif (decide (i < (a.length : Int))) then
  bif ((decide (0 ≤ i)) && (decide (i < (a.length : Int)))) then
  bif ((decide (0 ≤ i)) && (decide (i < (b.length : Int)))) then
  bif (Kfq (List.getD a (i).toNat ([] : List ZR)) (List.getD b (i).toNat ([] : List ZR))) then
  bif (!(J6s (List.getD a (i).toNat ([] : List ZR)) (List.getD b (i).toNat ([] : List ZR)))) then
   ex0 a b false i
  else
  next a b s4 (Jag i 1)
  else fail
  else fail
  else fail
 else
 ex1 a b s4 i
def Jhy {X : Type} (F : Nat) (fail : X) (ex0 ex1 : List (List ZR) → List (List ZR) → Bool → Int → X) : Nat → List (List ZR) → List (List ZR) → Bool → Int → X
 | 0, _, _, _, _ => fail
 | m + 1, a, b, s4, i => Jp8 F fail (Jhy F fail ex0 ex1 m) ex0 ex1 a b s4 i
def Kgc {X : Type} (F : Nat) (a b : List (List ZR)) (fail : X) (ret : Bool → X) : X :=
 bif ((a.length : Int) != (b.length : Int)) then
  ret false
 else
 Jhy F fail
  (fun a1 b1 s4 i =>
   ret s4)
  (fun a2 b2 s41 i1 =>
   ret true)
  F a b false 0
end Go.AI
namespace Go.AI
open Go
set_option linter.unusedVariables false
def Kr0 {X : Type} (F : Nat) (l : ZL) (key : ZB) (records : List ZR) (fail : X) (ret : ZL → List (Int × (Int × ((List ZB) × Unit))) → Int → X) : X :=
 bif ((Jkr l) != 0) then
  ret (0, (0, (0, ()))) ([] : List (Int × (Int × ((List ZB) × Unit)))) (Jkr l)
 else
 bif (Jr4 records) then
 bif ((Ji2 records) != 0) then
  ret (0, (0, (0, ()))) ([] : List (Int × (Int × ((List ZB) × Unit)))) (Ji2 records)
 else
 bif (decide ((key.length : Int) > 0)) then
  bif (Kfo key (Jag l.2.1 1) (Jcm records)) then
  bif ((Jtu key (Jag l.2.1 1) (Jcm records)) != 0) then
   ret (0, (0, (0, ()))) ([] : List (Int × (Int × ((List ZB) × Unit)))) (Jtu key (Jag l.2.1 1) (Jcm records))
  else
  bif (Jyh l (Jpn key (Jag l.2.1 1) (Jcm records))) then
  ret (Jof l (Jpn key (Jag l.2.1 1) (Jcm records))) (Jog l (Jpn key (Jag l.2.1 1) (Jcm records))) (Joh l (Jpn key (Jag l.2.1 1) (Jcm records)))
  else fail
  else fail
 else
 bif (Jyh l (Jcm records)) then
 ret (Jof l (Jcm records)) (Jog l (Jcm records)) (Joh l (Jcm records))
 else fail
 else fail
def Jwn {X : Type} (F : Nat) (fail : X) (ret : Bool → X) : X :=
 bif (Jr4 ([(3, (([97, 98] : ZB), ())), (1, (([] : ZB), ()))] : List ZR)) then
 bif (Joi (1, (0, (9, ()))) ([] : ZB) ([(3, (([97, 98] : ZB), ())), (1, (([] : ZB), ()))] : List ZR)) then
 bif (Joi (1, (0, (9, ()))) ([107, 101, 121] : ZB) ([(3, (([97, 98] : ZB), ())), (1, (([] : ZB), ()))] : List ZR)) then
 bif ((Ji2 ([(3, (([97, 98] : ZB), ())), (1, (([] : ZB), ()))] : List ZR)) != 0) then
  ret false
 else
 bif ((Jlf (1, (0, (9, ()))) ([] : ZB) ([(3, (([97, 98] : ZB), ())), (1, (([] : ZB), ()))] : List ZR)) != 0) then
  ret false
 else
 bif ((Jlf (1, (0, (9, ()))) ([107, 101, 121] : ZB) ([(3, (([97, 98] : ZB), ())), (1, (([] : ZB), ()))] : List ZR)) != 0) then
  ret false
 else
 bif (!((Jcm ([(3, (([97, 98] : ZB), ())), (1, (([] : ZB), ()))] : List ZR)) == ([2, 3, 2, 97, 98, 1, 0] : ZB))) then
  ret false
 else
 bif ((((Jb2 (1, (0, (9, ()))) ([] : ZB) ([(3, (([97, 98] : ZB), ())), (1, (([] : ZB), ()))] : List ZR)).length : Nat) : Int) != 4) then
  ret false
 else
 bif ((((Jb2 (1, (0, (9, ()))) ([107, 101, 121] : ZB) ([(3, (([97, 98] : ZB), ())), (1, (([] : ZB), ()))] : List ZR)).length : Nat) : Int) != 4) then
  ret false
 else
 bif (Jv0 (.pair (.int .i64) (.pair (.int .i64) (.pair (.int .i64) .unit))) (Jhp (1, (0, (9, ()))) ([] : ZB) ([(3, (([97, 98] : ZB), ())), (1, (([] : ZB), ()))] : List ZR)) (3, (1, (9, ())))) then
  bif ((Jhp (1, (0, (9, ()))) ([107, 101, 121] : ZB) ([(3, (([97, 98] : ZB), ())), (1, (([] : ZB), ()))] : List ZR)).1 == 4) then
   bif (decide (0 < (((Jb2 (1, (0, (9, ()))) ([] : ZB) ([(3, (([97, 98] : ZB), ())), (1, (([] : ZB), ()))] : List ZR)).length : Nat) : Int))) then
   bif ((List.getD (Jb2 (1, (0, (9, ()))) ([] : ZB) ([(3, (([97, 98] : ZB), ())), (1, (([] : ZB), ()))] : List ZR)) 0 (0, (0, (([] : List ZB), ())))).2.1 == 1) then
    bif (decide (0 < (((Jb2 (1, (0, (9, ()))) ([] : ZB) ([(3, (([97, 98] : ZB), ())), (1, (([] : ZB), ()))] : List ZR)).length : Nat) : Int))) then
    bif ((((List.getD (Jb2 (1, (0, (9, ()))) ([] : ZB) ([(3, (([97, 98] : ZB), ())), (1, (([] : ZB), ()))] : List ZR)) 0 (0, (0, (([] : List ZB), ())))).2.2.1.length : Nat) : Int) == 1) then
     bif (decide (2 < (((Jb2 (1, (0, (9, ()))) ([] : ZB) ([(3, (([97, 98] : ZB), ())), (1, (([] : ZB), ()))] : List ZR)).length : Nat) : Int))) then
     bif ((List.getD (Jb2 (1, (0, (9, ()))) ([] : ZB) ([(3, (([97, 98] : ZB), ())), (1, (([] : ZB), ()))] : List ZR)) 2 (0, (0, (([] : List ZB), ())))).2.1 == 2) then
      bif (decide (0 < (((Jb2 (1, (0, (9, ()))) ([107, 101, 121] : ZB) ([(3, (([97, 98] : ZB), ())), (1, (([] : ZB), ()))] : List ZR)).length : Nat) : Int))) then
      ret ((((List.getD (Jb2 (1, (0, (9, ()))) ([107, 101, 121] : ZB) ([(3, (([97, 98] : ZB), ())), (1, (([] : ZB), ()))] : List ZR)) 0 (0, (0, (([] : List ZB), ())))).2.2.1.length : Nat) : Int) == 2)
      else fail
     else
     ret false
     else fail
    else
    ret false
    else fail
   else
   ret false
   else fail
  else
  ret false
 else
 ret false
 else fail
 else fail
 else fail
end Go.AI
namespace Go.AI
open Go
set_option linter.unusedVariables false
def Juk {X : Type} (F : Nat) (fail : X) (next ex0 ex1 : List ZB → Int → Int → ZB → ZL → Int → List (List ZR) → ZB → ZL → X) (s7 : List ZB) (s8 s9 : Int) (key : ZB) (s4 : ZL) (s6 : Int) (out : List (List ZR)) (s2 : ZB) (l : ZL) : X :=
 bif (decide (s9 < s8)) then
  bif ((decide (0 ≤ s9)) && (decide (s9 < (s7.length : Int)))) then
  bif (decide ((s2.length : Int) > 0)) then
   bif (J0u s2 (Jag s9 1) (List.getD s7 (s9).toNat ([] : ZB))) then
   bif ((Jkn s2 (Jag s9 1) (List.getD s7 (s9).toNat ([] : ZB))) == 0) then
    bif (Jjv (Jh9 s2 (Jag s9 1) (List.getD s7 (s9).toNat ([] : ZB)))) then
    bif ((Jej (Jh9 s2 (Jag s9 1) (List.getD s7 (s9).toNat ([] : ZB)))) != 0) then
     ex0 s7 s8 s9 key (0, (0, (0, ()))) (Jej (Jh9 s2 (Jag s9 1) (List.getD s7 (s9).toNat ([] : ZB)))) out s2 l
    else
    bif (decide ((out ++ ([(Jei (Jh9 s2 (Jag s9 (1 : Int)) (List.getD s7 (s9).toNat ([] : ZB))))] : List (List ZR))).length ≤ big)) then
    next s7 s8 (Jag s9 (1 : Int)) key s4 s6 (out ++ ([(Jei (Jh9 s2 (Jag s9 (1 : Int)) (List.getD s7 (s9).toNat ([] : ZB))))] : List (List ZR))) s2 l
    else fail
    else fail
   else
   bif ((Jkn s2 (Jag s9 1) (List.getD s7 (s9).toNat ([] : ZB))) != 0) then
    ex0 s7 s8 s9 key (0, (0, (0, ()))) (Jkn s2 (Jag s9 1) (List.getD s7 (s9).toNat ([] : ZB))) out s2 l
   else
   bif (decide ((out ++ ([([] : List ZR)] : List (List ZR))).length ≤ big)) then
   next s7 s8 (Jag s9 (1 : Int)) key s4 s6 (out ++ ([([] : List ZR)] : List (List ZR))) s2 l
   else fail
   else fail
  else
  bif (Jjv (List.getD s7 (s9).toNat ([] : ZB))) then
  bif ((Jej (List.getD s7 (s9).toNat ([] : ZB))) != 0) then
   ex0 s7 s8 s9 key (0, (0, (0, ()))) (Jej (List.getD s7 (s9).toNat ([] : ZB))) out s2 l
  else
  bif (decide ((out ++ ([(Jei (List.getD s7 (s9).toNat ([] : ZB)))] : List (List ZR))).length ≤ big)) then
  next s7 s8 (Jag s9 (1 : Int)) key s4 s6 (out ++ ([(Jei (List.getD s7 (s9).toNat ([] : ZB)))] : List (List ZR))) s2 l
  else fail
  else fail
  else fail
 else
 ex1 s7 s8 s9 key s4 s6 out s2 l
def Jgy {X : Type} (F : Nat) (fail : X) (ex0 ex1 : List ZB → Int → Int → ZB → ZL → Int → List (List ZR) → ZB → ZL → X) : Nat → List ZB → Int → Int → ZB → ZL → Int → List (List ZR) → ZB → ZL → X
 | 0, _, _, _, _, _, _, _, _, _ => fail
 | m + 1, s7, s8, s9, key, s4, s6, out, s2, l => Juk F fail (Jgy F fail ex0 ex1 m) ex0 ex1 s7 s8 s9 key s4 s6 out s2 l
def Kr1 {X : Type} (F : Nat) (d_ : ZD) (key : ZB) (fail : X) (ret : ZL → List (List ZR) → Int → X) : X :=
 bif (Ji1 d_) then
 bif ((Jkv d_) != 0) then
  ret (0, (0, (0, ()))) ([] : List (List ZR)) (Jkv d_)
 else
 bif (decide ((key.length : Int) > 64)) then
  ret (0, (0, (0, ()))) ([] : List (List ZR)) 1
 else
 Jgy F fail
  (fun s7 s8 s9 Jn2 s4 s6 out s2 l =>
   ret s4 ([] : List (List ZR)) s6)
  (fun s71 s81 s91 key2 s41 s61 out1 s21 l1 =>
   ret l1 out1 0)
  F (Jfc d_) (((Jfc d_).length : Nat) : Int) 0 key (0, (0, (0, ()))) 0 ([] : List (List ZR)) key (Jpr d_)
 else fail
end Go.AI
namespace Go.AI
open Go
set_option linter.unusedVariables false
def Kgd {X : Type} (F : Nat) (fail : X) (next ex0 : List (List ZR) → ZB → Bool → Int → Int → Int → X) (l : List (List ZR)) (key : ZB) (s4 : Bool) (n i k : Int) : X :=
 bif ((decide (0 ≤ i)) && (decide (i < (l.length : Int)))) then
 bif (decide (k < (((List.getD l (i).toNat ([] : List ZR)).length : Nat) : Int))) then
  bif ((decide (0 ≤ i)) && (decide (i < (l.length : Int)))) then
  bif ((decide (0 ≤ k)) && (decide (k < (((List.getD l (i).toNat ([] : List ZR)).length : Nat) : Int)))) then
  next l key s4 (Jag n (Jag 20 (((List.getD (List.getD l (i).toNat ([] : List ZR)) (k).toNat (0, (([] : ZB), ()))).2.1.length : Nat) : Int))) i (Jag k 1)
  else fail
  else fail
 else
 ex0 l key s4 n i k
 else fail
def Jp9 {X : Type} (F : Nat) (fail : X) (ex0 : List (List ZR) → ZB → Bool → Int → Int → Int → X) : Nat → List (List ZR) → ZB → Bool → Int → Int → Int → X
 | 0, _, _, _, _, _, _ => fail
 | m + 1, l, key, s4, n, i, k => Kgd F fail (Jp9 F fail ex0 m) ex0 l key s4 n i k
def Kge {X : Type} (F : Nat) (fail : X) (next ex0 ex1 : List (List ZR) → ZB → Bool → Int → Int → X) (l : List (List ZR)) (key : ZB) (s4 : Bool) (n i : Int) : X :=
 bif (decide (i < (l.length : Int))) then
  bif (decide (i < 12)) then
   bif ((decide (0 ≤ i)) && (decide (i < (l.length : Int)))) then
   bif (Kw3 (List.getD l (i).toNat ([] : List ZR))) then
   bif (!(Kcv (List.getD l (i).toNat ([] : List ZR)))) then
    ex0 l key false n i
   else
   bif ((decide (0 ≤ i)) && (decide (i < (l.length : Int)))) then
   bif (Jne (List.getD l (i).toNat ([] : List ZR))) then
   bif ((Jjj (List.getD l (i).toNat ([] : List ZR))) != 0) then
    ex0 l key false n i
   else
   Jp9 F fail
    (fun l1 Jn2 s41 n1 i1 k =>
     next l1 Jn2 s41 n1 (Jag i1 1))
    F l key s4 n i 0
   else fail
   else fail
   else fail
   else fail
  else
  ex1 l key s4 n i
 else
 ex1 l key s4 n i
def Jqa {X : Type} (F : Nat) (fail : X) (ex0 ex1 : List (List ZR) → ZB → Bool → Int → Int → X) : Nat → List (List ZR) → ZB → Bool → Int → Int → X
 | 0, _, _, _, _, _ => fail
 | m + 1, l, key, s4, n, i => Kge F fail (Jqa F fail ex0 ex1 m) ex0 ex1 l key s4 n i
def tfew {X : Type} (F : Nat) (l : List (List ZR)) (key : ZB) (fail : X) (ret : Bool → X) : X :=
 Jqa F fail
  (fun l1 Jn2 s4 n i =>
   ret s4)
  (fun l2 key2 s41 n1 i1 =>
   bif (decide ((l2.length : Int) ≤ 10)) then
    bif (decide (n1 ≤ 2000)) then
     ret (decide ((key2.length : Int) ≤ 64))
    else
    ret false
   else
   ret false)
  F l key false 0 0
def K40 {X : Type} (F : Nat) (fail : X) (ret : ZD → ZL → Bool → X) : X :=
 bif (J6r 400) then
 bif (K38 400) then
 bif (Kk0 (Jl3 400) (Jeh 400)) then
 bif ((Joe (400 : Int)) == (0 : Int)) then
  bif ((J6l (400 : Int)) == (0 : Int)) then
   ret (Jnw (Jl3 400) (Jeh 400)) (Ji0 400) ((Jwj (Jl3 400) (Jeh 400)) == 0)
  else
  ret (Jnw (Jl3 400) (Jeh 400)) (Ji0 400) false
 else
 ret (Jnw (Jl3 400) (Jeh 400)) (Ji0 400) false
 else fail
 else fail
 else fail
def Jk6 {X : Type} (F : Nat) (fail : X) (next ex0 : List (List ZR) → ZB → Bool → Int → ZD → ZL → ZD → ZL → X) (l : List (List ZR)) (key : ZB) (ok : Bool) (i : Int) (s4 : ZD) (s5 : ZL) (d_ : ZD) (x_ : ZL) : X :=
 bif (decide (i < (l.length : Int))) then
  bif ok then
   bif ((decide (0 ≤ i)) && (decide (i < (l.length : Int)))) then
   bif (Joi x_ key (List.getD l (i).toNat ([] : List ZR))) then
   bif (Kk0 d_ (Jb2 x_ key (List.getD l (i).toNat ([] : List ZR)))) then
   bif ((Jlf x_ key (List.getD l (i).toNat ([] : List ZR))) == 0) then
    next l key ((Jwj d_ (Jb2 x_ key (List.getD l (i).toNat ([] : List ZR)))) == 0) (Jag i 1) s4 s5 (Jnw d_ (Jb2 x_ key (List.getD l (i).toNat ([] : List ZR)))) (Jhp x_ key (List.getD l (i).toNat ([] : List ZR)))
   else
   next l key false (Jag i 1) s4 s5 (Jnw d_ (Jb2 x_ key (List.getD l (i).toNat ([] : List ZR)))) (Jhp x_ key (List.getD l (i).toNat ([] : List ZR)))
   else fail
   else fail
   else fail
  else
  ex0 l key ok i s4 s5 d_ x_
 else
 ex0 l key ok i s4 s5 d_ x_
def Je8 {X : Type} (F : Nat) (fail : X) (ex0 : List (List ZR) → ZB → Bool → Int → ZD → ZL → ZD → ZL → X) : Nat → List (List ZR) → ZB → Bool → Int → ZD → ZL → ZD → ZL → X
 | 0, _, _, _, _, _, _, _, _ => fail
 | m + 1, l, key, ok, i, s4, s5, d_, x_ => Jk6 F fail (Je8 F fail ex0 m) ex0 l key ok i s4 s5 d_ x_
def J03 {X : Type} (F : Nat) (l : List (List ZR)) (key : ZB) (fail : X) (ret : ZD → ZL → Bool → X) : X :=
 bif (J4v) then
 Je8 F fail
  (fun l1 Jn2 ok i s4 s5 d_ x_ =>
   ret d_ x_ ok)
  F l key (J6u) 0 (([] : List ZB), (([] : List ZR), ())) (0, (0, (0, ()))) (Jr5) (Jok)
 else fail
end Go.AI
namespace Go.AI
open Go
set_option linter.unusedVariables false
def TransactionRefuses {X : Type} (F : Nat) (l : List (List ZR)) (key other : ZB) (fail : X) (ret : Bool → X) : X :=
 bif (K4g l key) then
 bif (!(Kw5 l key)) then
  ret (Jcy)
 else
 bif ((l.length : Int) == 0) then
  ret (Jcy)
 else
 bif ((key.length : Int) == 0) then
  ret (Jcy)
 else
 bif ((other.length : Int) == 0) then
  ret (Jcy)
 else
 bif (decide ((other.length : Int) > 64)) then
  ret (Jcy)
 else
 bif (Jr6 l key) then
 bif (Ji1 (Ja3 l key)) then
 bif (!(Jpt l key)) then
  ret false
 else
 bif ((Jkv (Ja3 l key)) != 0) then
  ret false
 else
 bif ((((Jfc (Ja3 l key)).length : Nat) : Int) != (l.length : Int)) then
  ret false
 else
 bif (decide (0 < (((Jfc (Ja3 l key)).length : Nat) : Int))) then
 bif (Krf other 1 (List.getD (Jfc (Ja3 l key)) 0 ([] : ZB))) then
 bif (Jl8 (Ja3 l key) other) then
 bif ((Jye other 1 (List.getD (Jfc (Ja3 l key)) 0 ([] : ZB))) != 0) then
  bif ((Jty (Ja3 l key) other) != 25) then
   ret false
  else
  bif ((((Je6 (Ja3 l key) other).length : Nat) : Int) != 0) then
   ret false
  else
  bif (!(Jv0 (.pair (.int .i64) (.pair (.int .i64) (.pair (.int .i64) .unit))) (Joj (Ja3 l key) other) (0, (0, (0, ()))))) then
   ret false
  else
  bif (Jl8 (Ja3 l key) ([] : ZB)) then
  bif (Jcy) then
   bif (Jld (Je6 (Ja3 l key) ([] : ZB)) l) then
   ret (!(Jle (Je6 (Ja3 l key) ([] : ZB)) l))
   else fail
  else
  ret false
  else fail
 else
 bif (Jl8 (Ja3 l key) ([] : ZB)) then
 bif (Jcy) then
  bif (Jld (Je6 (Ja3 l key) ([] : ZB)) l) then
  ret (!(Jle (Je6 (Ja3 l key) ([] : ZB)) l))
  else fail
 else
 ret false
 else fail
 else fail
 else fail
 else fail
 else fail
 else fail
 else fail
end Go.AI
