/- Texts of the proof, joined: DiskG DigestG1 WireG WireG2 DigestG2 CipherG2 CipherG LogG TransG TransG2 TransG3 TransG5 TransG8. Names of our own are shortened by program; the long ones stand in wip/. -/
import Derived.Test.YtcdajbmgoafnkaaGreatQrS
set_option linter.unusedVariables false
namespace Go.AI
open Go
set_option linter.unusedVariables false
def Qbw {X : Type} (F : Nat) (s : List ZB) (fail : X) (J67 : X → X → X) (ret : List ZB → X) : X :=
 bif (List.isEmpty s) then
  J67 (
   ret ([] : List ZB)) (
   bif (decide (s.length ≤ big)) then
   ret s
   else fail)
 else
 bif (decide (s.length ≤ big)) then
 ret s
 else fail
def Qlz {X : Type} (F : Nat) (d_ : ZD) (at_ count : Int) (fail : X) (ret : Bool → X) : X :=
 bif (decide (at_ ≥ 0)) then
  bif (decide (count ≥ 0)) then
   bif (decide (at_ ≤ ((d_.1.length : Nat) : Int))) then
    ret (decide (count ≤ (Jby ((d_.1.length : Nat) : Int) at_)))
   else
   ret false
  else
  ret false
 else
 ret false
def J1u {X : Type} (F : Nat) (fail : X) (next ex0 ex1 : List ZR → Int → Int → Int → ZD → X) (s : List ZR) (s4 s7 s8 : Int) (f : ZD) : X :=
 bif (decide (s8 < s7)) then
  bif ((decide (0 ≤ s8)) && (decide (s8 < (s.length : Int)))) then
  bif (decide ((List.getD s (s8).toNat (0, (z16, ()))).1 < 0)) then
   ex0 s s8 s7 s8 f
  else
  bif (decide ((List.getD s (s8).toNat (0, (z16, ()))).1 ≥ ((f.1.length : Nat) : Int))) then
   ex0 s s8 s7 s8 f
  else
  next s s4 s7 (Jag s8 1) f
  else fail
 else
 ex1 s s4 s7 s8 f
def Jmr {X : Type} (F : Nat) (fail : X) (ex0 ex1 : List ZR → Int → Int → Int → ZD → X) : Nat → List ZR → Int → Int → Int → ZD → X
 | 0, _, _, _, _, _ => fail
 | m + 1, s, s4, s7, s8, f => J1u F fail (Jmr F fail ex0 ex1 m) ex0 ex1 s s4 s7 s8 f
def Qbx {X : Type} (F : Nat) (d_ : ZD) (fail : X) (ret : Int → X) : X :=
 bif (decide (((d_.1.length : Nat) : Int) < 1)) then
  ret 2
 else
 bif (decide (((d_.1.length : Nat) : Int) > 8192)) then
  ret 2
 else
 Jmr F fail
  (fun s s4 s7 s8 f =>
   bif (decide (s4 ≥ 0)) then
    ret 2
   else
   ret 0)
  (fun s1 s41 s71 s81 f1 =>
   ret 0)
  F d_.2.1 0 ((d_.2.1.length : Nat) : Int) 0 d_
def Jr2 {X : Type} (F : Nat) (fail : X) (next ex0 : List ZR → Int → Int → List ZB → X) (s10 : List ZR) (s11 s12 : Int) (out : List ZB) : X :=
 bif (decide (s12 < s11)) then
  bif ((decide (0 ≤ s12)) && (decide (s12 < (s10.length : Int)))) then
  bif ((decide (0 ≤ (List.getD s10 (s12).toNat (0, (z16, ()))).1)) && (decide ((List.getD s10 (s12).toNat (0, (z16, ()))).1 < (out.length : Int)))) then
  next s10 s11 (Jag s12 1) (List.set out ((List.getD s10 (s12).toNat (0, (z16, ()))).1).toNat (List.getD s10 (s12).toNat (0, (z16, ()))).2.1)
  else fail
  else fail
 else
 ex0 s10 s11 s12 out
def Ji6 {X : Type} (F : Nat) (fail : X) (ex0 : List ZR → Int → Int → List ZB → X) : Nat → List ZR → Int → Int → List ZB → X
 | 0, _, _, _, _ => fail
 | m + 1, s10, s11, s12, out => Jr2 F fail (Ji6 F fail ex0 m) ex0 s10 s11 s12 out
def Klw {X : Type} (F : Nat) (d_ : ZD) (fail : X) (ret : List ZB → X) : X :=
 bif (Jrq d_.1) then
 Ji6 F fail
  (fun s10 s11 s12 out =>
   ret out)
  F d_.2.1 ((d_.2.1.length : Nat) : Int) 0 (J08 d_.1)
 else fail
def Ql0 {X : Type} (F : Nat) (d_ : ZD) (at_ count : Int) (fail : X) (ret : List ZB → Int → X) : X :=
 bif (J8q d_) then
 bif ((Jwe d_) != 0) then
  ret ([] : List ZB) (Jwe d_)
 else
 bif (Klh d_ at_ count) then
 bif (!(Kav d_ at_ count)) then
  ret ([] : List ZB) 2
 else
 bif (Jmo d_) then
 bif (((decide (0 ≤ at_)) && (decide (at_ ≤ (Jag at_ count)))) && (decide ((Jag at_ count) ≤ (((Jmp d_).length : Nat) : Int)))) then
 bif (Jrq (List.take (((Jag at_ count)).toNat - (at_).toNat) (List.drop (at_).toNat (Jmp d_)))) then
 ret (J08 (List.take (((Jag at_ count)).toNat - (at_).toNat) (List.drop (at_).toNat (Jmp d_)))) 0
 else fail
 else fail
 else fail
 else fail
 else fail
def J1v {X : Type} (F : Nat) (fail : X) (next ex0 ex1 : Int → Int → ZD → X) (s2 i : Int) (d_ : ZD) : X :=
 bif (decide (i < ((d_.2.1.length : Nat) : Int))) then
  bif ((decide (0 ≤ i)) && (decide (i < ((d_.2.1.length : Nat) : Int)))) then
  bif (decide ((List.getD d_.2.1 (i).toNat (0, (z16, ()))).1 < 0)) then
   ex0 2 i d_
  else
  bif ((decide (0 ≤ i)) && (decide (i < ((d_.2.1.length : Nat) : Int)))) then
  bif (decide ((List.getD d_.2.1 (i).toNat (0, (z16, ()))).1 ≥ ((d_.1.length : Nat) : Int))) then
   ex0 2 i d_
  else
  next s2 (Jag i 1) d_
  else fail
  else fail
 else
 ex1 s2 i d_
def Jms {X : Type} (F : Nat) (fail : X) (ex0 ex1 : Int → Int → ZD → X) : Nat → Int → Int → ZD → X
 | 0, _, _, _ => fail
 | m + 1, s2, i, d_ => J1v F fail (Jms F fail ex0 ex1 m) ex0 ex1 s2 i d_
def Qby {X : Type} (F : Nat) (d_ : ZD) (fail : X) (ret : Int → X) : X :=
 bif (decide (((d_.1.length : Nat) : Int) < 1)) then
  ret 2
 else
 bif (decide (((d_.1.length : Nat) : Int) > 8192)) then
  ret 2
 else
 Jms F fail
  (fun s2 i d_1 =>
   ret s2)
  (fun s21 i1 d_2 =>
   ret 0)
  F 0 0 d_
def J81 {X : Type} (F : Nat) (fail : X) (next ex0 : Int → ZD → ZD → List ZB → List ZR → X) (i : Int) (d_ s2 : ZD) (h3 : List ZB) (h4 : List ZR) : X :=
 bif (decide (i < ((d_.2.1.length : Nat) : Int))) then
  bif ((decide (0 ≤ i)) && (decide (i < ((d_.2.1.length : Nat) : Int)))) then
  bif ((decide (0 ≤ i)) && (decide (i < ((d_.2.1.length : Nat) : Int)))) then
  bif ((decide (0 ≤ (List.getD d_.2.1 (i).toNat (0, (z16, ()))).1)) && (decide ((List.getD d_.2.1 (i).toNat (0, (z16, ()))).1 < (h3.length : Int)))) then
  next (Jag i 1) d_ s2 (List.set h3 ((List.getD d_.2.1 (i).toNat (0, (z16, ()))).1).toNat (List.getD d_.2.1 (i).toNat (0, (z16, ()))).2.1) h4
  else fail
  else fail
  else fail
 else
 ex0 i d_ s2 h3 h4
def Jqi {X : Type} (F : Nat) (fail : X) (ex0 : Int → ZD → ZD → List ZB → List ZR → X) : Nat → Int → ZD → ZD → List ZB → List ZR → X
 | 0, _, _, _, _, _ => fail
 | m + 1, i, d_, s2, h3, h4 => J81 F fail (Jqi F fail ex0 m) ex0 i d_ s2 h3 h4
def Ql1 {X : Type} (F : Nat) (d_ : ZD) (fail : X) (ret : ZD → X) : X :=
 bif (decide (d_.1.length ≤ big)) then
 bif (decide (d_.2.1.length ≤ big)) then
 Jqi F fail
  (fun i d_1 s2 h3 h4 =>
   ret (h3, (([] : List ZR), ())))
  F 0 d_ (([] : List ZB), (([] : List ZR), ())) d_.1 d_.2.1
 else fail
 else fail
def Ql2 {X : Type} (F : Nat) (d_ : ZD) (at_ count : Int) (fail : X) (ret : Bool → X) : X :=
 bif (decide (at_ ≥ 0)) then
  bif (decide (count ≥ 0)) then
   bif (decide (count ≤ ((d_.1.length : Nat) : Int))) then
    ret (decide (at_ ≤ (Jby ((d_.1.length : Nat) : Int) count)))
   else
   ret false
  else
  ret false
 else
 ret false
def Ql3 {X : Type} (F : Nat) (d_ : ZD) (at_ count : Int) (fail : X) (ret : List ZB → Int → X) : X :=
 bif (Jwg d_) then
 bif ((Joy d_) != 0) then
  ret ([] : List ZB) 2
 else
 bif (Klj d_ at_ count) then
 bif (!(Kaw d_ at_ count)) then
  ret ([] : List ZB) 2
 else
 bif (J36 d_) then
 bif (((decide (0 ≤ at_)) && (decide (at_ ≤ (Jag at_ count)))) && (decide ((Jag at_ count) ≤ (((J37 d_).1.length : Nat) : Int)))) then
 bif (decide ((List.drop (at_).toNat (List.take ((Jag at_ count)).toNat (J37 d_).1)).length ≤ big)) then
 ret (List.drop (at_).toNat (List.take ((Jag at_ count)).toNat (J37 d_).1)) 0
 else fail
 else fail
 else fail
 else fail
 else fail
def Jl9 {X : Type} (F : Nat) (fail : X) (next ex0 ex1 : List ZB → List ZB → Bool → Int → X) (a b : List ZB) (s4 : Bool) (i : Int) : X :=
 bif (decide (i < (a.length : Int))) then
  bif ((decide (0 ≤ i)) && (decide (i < (a.length : Int)))) then
  bif ((decide (0 ≤ i)) && (decide (i < (b.length : Int)))) then
  bif (!(Jtw (.arr 16 (.int .u8)) (List.getD a (i).toNat z16) (List.getD b (i).toNat z16))) then
   ex0 a b false i
  else
  next a b s4 (Jag i 1)
  else fail
  else fail
 else
 ex1 a b s4 i
def Jgf {X : Type} (F : Nat) (fail : X) (ex0 ex1 : List ZB → List ZB → Bool → Int → X) : Nat → List ZB → List ZB → Bool → Int → X
 | 0, _, _, _, _ => fail
 | m + 1, a, b, s4, i => Jl9 F fail (Jgf F fail ex0 ex1 m) ex0 ex1 a b s4 i
def J4d {X : Type} (F : Nat) (a b : List ZB) (fail : X) (ret : Bool → X) : X :=
 bif ((a.length : Int) != (b.length : Int)) then
  ret false
 else
 Jgf F fail
  (fun a1 b1 s4 i =>
   ret s4)
  (fun a2 b2 s41 i1 =>
   ret true)
  F a b false 0
def rFew {X : Type} (F : Nat) (d_ : ZD) (fail : X) (ret : Bool → X) : X :=
 bif (decide (((d_.1.length : Nat) : Int) ≤ 500)) then
  ret (decide (((d_.2.1.length : Nat) : Int) ≤ 200))
 else
 ret false
end Go.AI
namespace Go.AI
open Go
set_option linter.unusedVariables false
def rotr {X : Type} (F : Nat) (x_ : UInt32) (n : Int) (fail : X) (ret : UInt32 → X) : X :=
 bif (decide (0 ≤ n)) then
 bif (decide (0 ≤ (Jby 32 n))) then
 ret (orW (Jpy x_ n) (Jze x_ (Jby 32 n)))
 else fail
 else fail
def shr {X : Type} (F : Nat) (x_ : UInt32) (n : Int) (fail : X) (ret : UInt32 → X) : X :=
 bif (decide (0 ≤ n)) then
 ret (Jpy x_ n)
 else fail
def Kyd {X : Type} (F : Nat) (x_ : UInt32) (a b c : Int) (fail : X) (ret : UInt32 → X) : X :=
 bif (Jyb x_ a) then
 bif (Jyb x_ b) then
 bif (Jyb x_ c) then
 ret (Jgq (Jgq (Kax x_ a) (Kax x_ b)) (Kax x_ c))
 else fail
 else fail
 else fail
def Kye {X : Type} (F : Nat) (x_ : UInt32) (a b c : Int) (fail : X) (ret : UInt32 → X) : X :=
 bif (Jyb x_ a) then
 bif (Jyb x_ b) then
 bif (Qic x_ c) then
 ret (Jgq (Jgq (Kax x_ a) (Kax x_ b)) (Qlu x_ c))
 else fail
 else fail
 else fail
def Qkg {X : Type} (F : Nat) (fail : X) (ret : ZW → X) : X :=
 ret (List.set (List.set (List.set (List.set (List.set (List.set (List.set (List.set (List.set (List.set (List.set (List.set (List.set (List.set (List.set (List.set (List.set (List.set (List.set (List.set (List.set (List.set (List.set (List.set (List.set (List.set (List.set (List.set (List.set (List.set (List.set (List.set (List.set (List.set (List.set (List.set (List.set (List.set (List.set (List.set (List.set (List.set (List.set (List.set (List.set (List.set (List.set (List.set (List.set (List.set (List.set (List.set (List.set (List.set (List.set (List.set (List.set (List.set (List.set (List.set (List.set (List.set (List.set (List.set (List.replicate 64 (0 : UInt32)) 0 (1116352408 : UInt32)) 1 (1899447441 : UInt32)) 2 (3049323471 : UInt32)) 3 (3921009573 : UInt32)) 4 (961987163 : UInt32)) 5 (1508970993 : UInt32)) 6 (2453635748 : UInt32)) 7 (2870763221 : UInt32)) 8 (3624381080 : UInt32)) 9 (310598401 : UInt32)) 10 (607225278 : UInt32)) 11 (1426881987 : UInt32)) 12 (1925078388 : UInt32)) 13 (2162078206 : UInt32)) 14 (2614888103 : UInt32)) 15 (3248222580 : UInt32)) 16 (3835390401 : UInt32)) 17 (4022224774 : UInt32)) 18 (264347078 : UInt32)) 19 (604807628 : UInt32)) 20 (770255983 : UInt32)) 21 (1249150122 : UInt32)) 22 (1555081692 : UInt32)) 23 (1996064986 : UInt32)) 24 (2554220882 : UInt32)) 25 (2821834349 : UInt32)) 26 (2952996808 : UInt32)) 27 (3210313671 : UInt32)) 28 (3336571891 : UInt32)) 29 (3584528711 : UInt32)) 30 (113926993 : UInt32)) 31 (338241895 : UInt32)) 32 (666307205 : UInt32)) 33 (773529912 : UInt32)) 34 (1294757372 : UInt32)) 35 (1396182291 : UInt32)) 36 (1695183700 : UInt32)) 37 (1986661051 : UInt32)) 38 (2177026350 : UInt32)) 39 (2456956037 : UInt32)) 40 (2730485921 : UInt32)) 41 (2820302411 : UInt32)) 42 (3259730800 : UInt32)) 43 (3345764771 : UInt32)) 44 (3516065817 : UInt32)) 45 (3600352804 : UInt32)) 46 (4094571909 : UInt32)) 47 (275423344 : UInt32)) 48 (430227734 : UInt32)) 49 (506948616 : UInt32)) 50 (659060556 : UInt32)) 51 (883997877 : UInt32)) 52 (958139571 : UInt32)) 53 (1322822218 : UInt32)) 54 (1537002063 : UInt32)) 55 (1747873779 : UInt32)) 56 (1955562222 : UInt32)) 57 (2024104815 : UInt32)) 58 (2227730452 : UInt32)) 59 (2361852424 : UInt32)) 60 (2428436474 : UInt32)) 61 (2756734187 : UInt32)) 62 (3204031479 : UInt32)) 63 (3329325298 : UInt32))
def J1w {X : Type} (F : Nat) (fail : X) (next ex0 : Int → UInt32 → ZW → Int → ZB → Int → Int → ZW → ZB → ZW → ZW → ZW → X) (i : Int) (k : UInt32) (s10 : ZW) (s11 : Int) (s23 : ZB) (s24 s25 : Int) (x_ : ZW) (s1 : ZB) (w s s4 : ZW) : X :=
 bif (decide (s25 < s24)) then
  bif ((decide (0 ≤ s25)) && (decide (s25 < (s23.length : Int)))) then
  bif ((decide (0 ≤ i)) && (decide (i < (16 : Int)))) then
  bif ((decide (0 ≤ i)) && (decide (i < (16 : Int)))) then
  next i k s10 s11 s23 s24 (Jag s25 1) x_ s1 (List.set w (i).toNat (orW (Jze (List.getD w (i).toNat 0) 8) (Jow (List.getD s23 (s25).toNat 0)))) s s4
  else fail
  else fail
  else fail
 else
 ex0 i k s10 s11 s23 s24 s25 x_ s1 w s s4
def Ji7 {X : Type} (F : Nat) (fail : X) (ex0 : Int → UInt32 → ZW → Int → ZB → Int → Int → ZW → ZB → ZW → ZW → ZW → X) : Nat → Int → UInt32 → ZW → Int → ZB → Int → Int → ZW → ZB → ZW → ZW → ZW → X
 | 0, _, _, _, _, _, _, _, _, _, _, _, _ => fail
 | m + 1, i, k, s10, s11, s23, s24, s25, x_, s1, w, s, s4 => J1w F fail (Ji7 F fail ex0 m) ex0 i k s10 s11 s23 s24 s25 x_ s1 w s s4
def J1x {X : Type} (F : Nat) (fail : X) (next ex0 : ZW → Int → ZW → ZB → ZW → ZW → ZW → X) (s10 : ZW) (s11 : Int) (x_ : ZW) (s1 : ZB) (w s s4 : ZW) : X :=
 bif (decide (s11 < 64)) then
  bif ((decide (0 ≤ s11)) && (decide (s11 < (64 : Int)))) then
  bif (decide (s11 < 16)) then
   bif (((decide (0 ≤ (Je6 4 s11))) && (decide ((Je6 4 s11) ≤ (Jag (Je6 4 s11) 4)))) && (decide ((Jag (Je6 4 s11) 4) ≤ (s1.length : Int)))) then
   Ji7 F fail
    (fun i k s101 s111 s23 s24 s25 x_1 s12 w1 s2 s41 =>
     bif ((decide ((0 : Int) ≤ (Jcg i (16 : Int)))) && (decide ((Jcg i (16 : Int)) < ((16 : Nat) : Int)))) then
     bif (Jgs (List.getD x_1 4 0) 6 11 25 168) then
     bif (Jgs (List.getD x_1 0 0) 2 13 22 168) then
     next s101 (Jag s111 1) ([(Jbp (Jbp (Jbp (Jbp (List.getD x_1 7 0) (Je0 (List.getD x_1 4 0) 6 11 25 168)) (Jgq (List.getD x_1 6 0) (J0h (List.getD x_1 4 0) (Jgq (List.getD x_1 5 0) (List.getD x_1 6 0))))) (Jbp k (List.getD w1 ((Jcg i 16)).toNat 0))) (Jbp (Je0 (List.getD x_1 0 0) 2 13 22 168) (orW (J0h (List.getD x_1 0 0) (List.getD x_1 1 0)) (J0h (List.getD x_1 2 0) (orW (List.getD x_1 0 0) (List.getD x_1 1 0)))))), (List.getD x_1 0 0), (List.getD x_1 1 0), (List.getD x_1 2 0), (Jbp (List.getD x_1 3 0) (Jbp (Jbp (Jbp (List.getD x_1 7 0) (Je0 (List.getD x_1 4 0) 6 11 25 168)) (Jgq (List.getD x_1 6 0) (J0h (List.getD x_1 4 0) (Jgq (List.getD x_1 5 0) (List.getD x_1 6 0))))) (Jbp k (List.getD w1 ((Jcg i 16)).toNat 0)))), (List.getD x_1 4 0), (List.getD x_1 5 0), (List.getD x_1 6 0)] : ZW) s12 w1 s2 s41
     else fail
     else fail
     else fail)
    F s11 (List.getD s10 (s11).toNat 0) s10 s11 (List.drop ((Je6 4 s11)).toNat (List.take ((Jag (Je6 4 s11) 4)).toNat s1)) (((List.drop ((Je6 4 s11)).toNat (List.take ((Jag (Je6 4 s11) 4)).toNat s1)).length : Nat) : Int) 0 x_ s1 w s s4
   else fail
  else
  bif ((decide ((0 : Int) ≤ (Jcg (Jby s11 (15 : Int)) (16 : Int)))) && (decide ((Jcg (Jby s11 (15 : Int)) (16 : Int)) < ((16 : Nat) : Int)))) then
  bif (Jgs (List.getD w ((Jcg (Jby s11 15) 16)).toNat 0) 7 18 3 177) then
  bif ((decide ((0 : Int) ≤ (Jcg (Jby s11 (2 : Int)) (16 : Int)))) && (decide ((Jcg (Jby s11 (2 : Int)) (16 : Int)) < ((16 : Nat) : Int)))) then
  bif (Jgs (List.getD w ((Jcg (Jby s11 2) 16)).toNat 0) 17 19 10 177) then
  bif ((decide ((0 : Int) ≤ (Jcg s11 (16 : Int)))) && (decide ((Jcg s11 (16 : Int)) < ((16 : Nat) : Int)))) then
  bif ((decide ((0 : Int) ≤ (Jcg (Jby s11 (7 : Int)) (16 : Int)))) && (decide ((Jcg (Jby s11 (7 : Int)) (16 : Int)) < ((16 : Nat) : Int)))) then
  bif ((decide ((0 : Int) ≤ (Jcg s11 (16 : Int)))) && (decide ((Jcg s11 (16 : Int)) < ((16 : Nat) : Int)))) then
  bif ((decide ((0 : Int) ≤ (Jcg s11 (16 : Int)))) && (decide ((Jcg s11 (16 : Int)) < ((16 : Nat) : Int)))) then
  bif (Jgs (List.getD x_ 4 0) 6 11 25 168) then
  bif (Jgs (List.getD x_ 0 0) 2 13 22 168) then
  next s10 (Jag s11 1) ([(Jbp (Jbp (Jbp (Jbp (List.getD x_ 7 0) (Je0 (List.getD x_ 4 0) 6 11 25 168)) (Jgq (List.getD x_ 6 0) (J0h (List.getD x_ 4 0) (Jgq (List.getD x_ 5 0) (List.getD x_ 6 0))))) (Jbp (List.getD s10 (s11).toNat 0) (List.getD (List.set w ((Jcg s11 16)).toNat (Jbp (List.getD w ((Jcg s11 16)).toNat 0) (Jbp (Jbp (Je0 (List.getD w ((Jcg (Jby s11 15) 16)).toNat 0) 7 18 3 177) (List.getD w ((Jcg (Jby s11 7) 16)).toNat 0)) (Je0 (List.getD w ((Jcg (Jby s11 2) 16)).toNat 0) 17 19 10 177)))) ((Jcg s11 16)).toNat 0))) (Jbp (Je0 (List.getD x_ 0 0) 2 13 22 168) (orW (J0h (List.getD x_ 0 0) (List.getD x_ 1 0)) (J0h (List.getD x_ 2 0) (orW (List.getD x_ 0 0) (List.getD x_ 1 0)))))), (List.getD x_ 0 0), (List.getD x_ 1 0), (List.getD x_ 2 0), (Jbp (List.getD x_ 3 0) (Jbp (Jbp (Jbp (List.getD x_ 7 0) (Je0 (List.getD x_ 4 0) 6 11 25 168)) (Jgq (List.getD x_ 6 0) (J0h (List.getD x_ 4 0) (Jgq (List.getD x_ 5 0) (List.getD x_ 6 0))))) (Jbp (List.getD s10 (s11).toNat 0) (List.getD (List.set w ((Jcg s11 16)).toNat (Jbp (List.getD w ((Jcg s11 16)).toNat 0) (Jbp (Jbp (Je0 (List.getD w ((Jcg (Jby s11 15) 16)).toNat 0) 7 18 3 177) (List.getD w ((Jcg (Jby s11 7) 16)).toNat 0)) (Je0 (List.getD w ((Jcg (Jby s11 2) 16)).toNat 0) 17 19 10 177)))) ((Jcg s11 16)).toNat 0)))), (List.getD x_ 4 0), (List.getD x_ 5 0), (List.getD x_ 6 0)] : ZW) s1 (List.set w ((Jcg s11 16)).toNat (Jbp (List.getD w ((Jcg s11 16)).toNat 0) (Jbp (Jbp (Je0 (List.getD w ((Jcg (Jby s11 15) 16)).toNat 0) 7 18 3 177) (List.getD w ((Jcg (Jby s11 7) 16)).toNat 0)) (Je0 (List.getD w ((Jcg (Jby s11 2) 16)).toNat 0) 17 19 10 177)))) s s4
  else fail
  else fail
  else fail
  else fail
  else fail
  else fail
  else fail
  else fail
  else fail
  else fail
  else fail
 else
 ex0 s10 s11 x_ s1 w s s4
def Jmt {X : Type} (F : Nat) (fail : X) (ex0 : ZW → Int → ZW → ZB → ZW → ZW → ZW → X) : Nat → ZW → Int → ZW → ZB → ZW → ZW → ZW → X
 | 0, _, _, _, _, _, _, _ => fail
 | m + 1, s10, s11, x_, s1, w, s, s4 => J1x F fail (Jmt F fail ex0 m) ex0 s10 s11 x_ s1 w s s4
def Kra {X : Type} (F : Nat) (fail : X) (next ex0 : Int → ZW → ZW → ZW → X) (s71 : Int) (s s4 x_ : ZW) : X :=
 bif (decide (s71 < 8)) then
  bif ((decide (0 ≤ s71)) && (decide (s71 < (8 : Int)))) then
  bif ((decide (0 ≤ s71)) && (decide (s71 < (8 : Int)))) then
  bif ((decide (0 ≤ s71)) && (decide (s71 < (8 : Int)))) then
  next (Jag s71 1) s s4 (List.set x_ (s71).toNat (Jbp (List.getD x_ (s71).toNat 0) (List.getD s (s71).toNat 0)))
  else fail
  else fail
  else fail
 else
 ex0 s71 s s4 x_
def Jqj {X : Type} (F : Nat) (fail : X) (ex0 : Int → ZW → ZW → ZW → X) : Nat → Int → ZW → ZW → ZW → X
 | 0, _, _, _, _ => fail
 | m + 1, s71, s, s4, x_ => Kra F fail (Jqj F fail ex0 m) ex0 s71 s s4 x_
def Qbz {X : Type} (F : Nat) (s : ZW) (block : ZB) (fail : X) (ret : ZW → X) : X :=
 bif (J8r) then
 Jmt F fail
  (fun s10 s11 x_ s1 w s2 s4 =>
   Jqj F fail
    (fun s71 s3 s41 x_1 =>
     ret x_1)
    F 0 s2 s4 x_)
  F (Klm) 0 s block ([0, 0, 0, 0, 0, 0, 0, 0, 0, 0, 0, 0, 0, 0, 0, 0] : ZW) s ([0, 0, 0, 0, 0, 0, 0, 0] : ZW)
 else fail
def hNew {X : Type} (F : Nat) (fail : X) (ret : ZH → X) : X :=
 ret (([1779033703, 3144134277, 1013904242, 2773480762, 1359893119, 2600822924, 528734635, 1541459225] : ZW), (([] : ZB), (0, ())))
def Krb {X : Type} (F : Nat) (fail : X) (next ex0 : ZB → ZW → Int → ZH → ZH → ZW → X) (b : ZB) (s13 : ZW) (s14 : Int) (h s4 : ZH) (s : ZW) : X :=
 bif (decide (s14 < 8)) then
  bif ((decide (0 ≤ s14)) && (decide (s14 < (8 : Int)))) then
  bif ((decide (0 ≤ s14)) && (decide (s14 < (8 : Int)))) then
  next b s13 (Jag s14 1) h s4 (List.set s (s14).toNat (List.getD s13 (s14).toNat 0))
  else fail
  else fail
 else
 ex0 b s13 s14 h s4 s
def Jwv {X : Type} (F : Nat) (fail : X) (ex0 : ZB → ZW → Int → ZH → ZH → ZW → X) : Nat → ZB → ZW → Int → ZH → ZH → ZW → X
 | 0, _, _, _, _, _, _ => fail
 | m + 1, b, s13, s14, h, s4, s => Krb F fail (Jwv F fail ex0 m) ex0 b s13 s14 h s4 s
def J1y {X : Type} (F : Nat) (fail : X) (next ex0 : ZB → ZB → ZH → ZH → ZW → X) (b all : ZB) (h s4 : ZH) (s : ZW) : X :=
 bif (decide ((all.length : Int) ≥ 64)) then
  bif (J09 s all) then
  bif (decide (64 ≤ (all.length : Int))) then
  next b (List.drop 64 all) h s4 (Kln s all)
  else fail
  else fail
 else
 ex0 b all h s4 s
def Jmu {X : Type} (F : Nat) (fail : X) (ex0 : ZB → ZB → ZH → ZH → ZW → X) : Nat → ZB → ZB → ZH → ZH → ZW → X
 | 0, _, _, _, _, _ => fail
 | m + 1, b, all, h, s4, s => J1y F fail (Jmu F fail ex0 m) ex0 b all h s4 s
def Krc {X : Type} (F : Nat) (fail : X) (next ex0 : ZW → Int → ZH → ZW → (Int × Unit) → ZB → X) (s49 : ZW) (s50 : Int) (s4 : ZH) (out : ZW) (out1 : (Int × Unit)) (h2 : ZB) : X :=
 bif (decide (s50 < 8)) then
  bif ((decide (0 ≤ s50)) && (decide (s50 < (8 : Int)))) then
  bif ((decide (0 ≤ s50)) && (decide (s50 < (8 : Int)))) then
  next s49 (Jag s50 1) s4 (List.set out (s50).toNat (List.getD s49 (s50).toNat 0)) out1 h2
  else fail
  else fail
 else
 ex0 s49 s50 s4 out out1 h2
def Jww {X : Type} (F : Nat) (fail : X) (ex0 : ZW → Int → ZH → ZW → (Int × Unit) → ZB → X) : Nat → ZW → Int → ZH → ZW → (Int × Unit) → ZB → X
 | 0, _, _, _, _, _, _ => fail
 | m + 1, s49, s50, s4, out, out1, h2 => Krc F fail (Jww F fail ex0 m) ex0 s49 s50 s4 out out1 h2
def Qb0 {X : Type} (F : Nat) (h : ZH) (b : ZB) (fail : X) (ret : ZH → X) : X :=
 Jwv F fail
  (fun b1 s13 s14 h1 s4 s =>
   bif (((decide (0 ≤ ((h1.2.1.length : Nat) : Int))) && (decide (((h1.2.1.length : Nat) : Int) ≤ ((h1.2.1.length : Nat) : Int)))) && (((h1.2.1.length : Nat) : Int) == ((h1.2.1.length : Nat) : Int))) then
   bif (decide (((List.take h1.2.1.length h1.2.1) ++ b1).length ≤ big)) then
   Jmu F fail
    (fun b2 all h2 s41 s1 =>
     bif (decide (all.length ≤ big)) then
     Jww F fail
      (fun s49 s50 s42 out out1 h21 =>
       ret (out, (h21, out1)))
      F s1 0 s41 ([0, 0, 0, 0, 0, 0, 0, 0] : ZW) ((Jag h2.2.2.1 (b2.length : Int)), ()) all
     else fail)
    F b1 ((List.take h1.2.1.length h1.2.1) ++ b1) h1 s4 s
   else fail
   else fail)
  F b h.1 0 h (([0, 0, 0, 0, 0, 0, 0, 0] : ZW), (([] : ZB), (0, ()))) ([0, 0, 0, 0, 0, 0, 0, 0] : ZW)
def Jwx {X : Type} (F : Nat) (fail : X) (next ex0 : Int → ZH → ZB → ZB → X) (shift : Int) (h : ZH) (s2 pad : ZB) : X :=
 bif (decide (shift ≥ 0)) then
  bif (decide (0 ≤ shift)) then
  bif (decide ((pad ++ ([(Jt8 (Jls (Qbo (Kib h.2.2.1) (8 : Int)) shift))] : ZB)).length ≤ big)) then
  next (Jby shift (8 : Int)) h s2 (pad ++ ([(Jt8 (Jls (Qbo (Kib h.2.2.1) (8 : Int)) shift))] : ZB))
  else fail
  else fail
 else
 ex0 shift h s2 pad
def Jgy {X : Type} (F : Nat) (fail : X) (ex0 : Int → ZH → ZB → ZB → X) : Nat → Int → ZH → ZB → ZB → X
 | 0, _, _, _, _ => fail
 | m + 1, shift, h, s2, pad => Jwx F fail (Jgy F fail ex0 m) ex0 shift h s2 pad
def Kil {X : Type} (F : Nat) (fail : X) (next ex0 : Int → UInt32 → ZW → Int → Int → ZB → ZB → X) (i : Int) (x_ : UInt32) (s35 : ZW) (s36 s40 : Int) (s2 out : ZB) : X :=
 bif (decide (s40 < 4)) then
  bif (decide (0 ≤ (Jby 24 (Je6 8 s40)))) then
  bif ((decide (0 ≤ (Jag (Je6 4 i) s40))) && (decide ((Jag (Je6 4 i) s40) < (32 : Int)))) then
  next i x_ s35 s36 (Jag s40 1) s2 (List.set out ((Jag (Je6 4 i) s40)).toNat (J7d (Jpy x_ (Jby 24 (Je6 8 s40)))))
  else fail
  else fail
 else
 ex0 i x_ s35 s36 s40 s2 out
def Jzl {X : Type} (F : Nat) (fail : X) (ex0 : Int → UInt32 → ZW → Int → Int → ZB → ZB → X) : Nat → Int → UInt32 → ZW → Int → Int → ZB → ZB → X
 | 0, _, _, _, _, _, _, _ => fail
 | m + 1, i, x_, s35, s36, s40, s2, out => Kil F fail (Jzl F fail ex0 m) ex0 i x_ s35 s36 s40 s2 out
def Kim {X : Type} (F : Nat) (fail : X) (next ex0 : ZW → Int → ZB → ZB → X) (s35 : ZW) (s36 : Int) (s2 out : ZB) : X :=
 bif (decide (s36 < 8)) then
  bif ((decide (0 ≤ s36)) && (decide (s36 < (8 : Int)))) then
  Jzl F fail
   (fun i x_ s351 s361 s40 s21 out1 =>
    next s351 (Jag s361 1) s21 out1)
   F s36 (List.getD s35 (s36).toNat 0) s35 s36 0 s2 out
  else fail
 else
 ex0 s35 s36 s2 out
def Jr3 {X : Type} (F : Nat) (fail : X) (ex0 : ZW → Int → ZB → ZB → X) : Nat → ZW → Int → ZB → ZB → X
 | 0, _, _, _, _ => fail
 | m + 1, s35, s36, s2, out => Kim F fail (Jr3 F fail ex0 m) ex0 s35 s36 s2 out
def Kyf {X : Type} (F : Nat) (h : ZH) (fail : X) (ret : ZB → X) : X :=
 bif (((decide (0 ≤ (Jag 1 (Jcg (Jby 119 ((h.2.1.length : Nat) : Int)) 64)))) && (decide ((Jag 1 (Jcg (Jby 119 ((h.2.1.length : Nat) : Int)) 64)) ≤ 72))) && (decide (72 ≤ ((big : Nat) : Int)))) then
 bif (decide ((0 : Int) < (((List.replicate ((Jag (1 : Int) (Jcg (Jby (119 : Int) ((h.2.1.length : Nat) : Int)) (64 : Int)))).toNat (0 : UInt8)).length : Nat) : Int))) then
 Jgy F fail
  (fun shift h1 s2 pad =>
   bif (Jeq h1 pad) then
   Jr3 F fail
    (fun s35 s36 s21 out =>
     ret out)
    F (Jdb h1 pad).1 (0 : Int) s2 (List.replicate 32 (0 : UInt8))
   else fail)
  F (56 : Int) h (List.replicate 32 (0 : UInt8)) (List.set (List.replicate ((Jag (1 : Int) (Jcg (Jby (119 : Int) ((h.2.1.length : Nat) : Int)) (64 : Int)))).toNat (0 : UInt8)) 0 (128 : UInt8))
 else fail
 else fail
def dSum {X : Type} (F : Nat) (b : ZB) (fail : X) (ret : ZB → X) : X :=
 bif (J6a) then
 bif (Jeq (Jhv) b) then
 bif (Jh0 (Jdb (Jhv) b)) then
 ret (Jlb (Jdb (Jhv) b))
 else fail
 else fail
 else fail
def Qb1 {X : Type} (F : Nat) (fail : X) (ret : ZW → X) : X :=
 ret (List.set (List.set (List.set (List.set (List.set (List.set (List.set (List.set (List.set (List.set (List.set (List.set (List.set (List.set (List.set (List.set (List.set (List.set (List.set (List.set (List.set (List.set (List.set (List.set (List.set (List.set (List.set (List.set (List.set (List.set (List.set (List.set (List.set (List.set (List.set (List.set (List.set (List.set (List.set (List.set (List.set (List.set (List.set (List.set (List.set (List.set (List.set (List.set (List.set (List.set (List.set (List.set (List.set (List.set (List.set (List.set (List.set (List.set (List.set (List.set (List.set (List.set (List.set (List.set (List.replicate 64 (0 : UInt32)) 0 (1116352408 : UInt32)) 1 (1899447441 : UInt32)) 2 (3049323471 : UInt32)) 3 (3921009573 : UInt32)) 4 (961987163 : UInt32)) 5 (1508970993 : UInt32)) 6 (2453635748 : UInt32)) 7 (2870763221 : UInt32)) 8 (3624381080 : UInt32)) 9 (310598401 : UInt32)) 10 (607225278 : UInt32)) 11 (1426881987 : UInt32)) 12 (1925078388 : UInt32)) 13 (2162078206 : UInt32)) 14 (2614888103 : UInt32)) 15 (3248222580 : UInt32)) 16 (3835390401 : UInt32)) 17 (4022224774 : UInt32)) 18 (264347078 : UInt32)) 19 (604807628 : UInt32)) 20 (770255983 : UInt32)) 21 (1249150122 : UInt32)) 22 (1555081692 : UInt32)) 23 (1996064986 : UInt32)) 24 (2554220882 : UInt32)) 25 (2821834349 : UInt32)) 26 (2952996808 : UInt32)) 27 (3210313671 : UInt32)) 28 (3336571891 : UInt32)) 29 (3584528711 : UInt32)) 30 (113926993 : UInt32)) 31 (338241895 : UInt32)) 32 (666307205 : UInt32)) 33 (773529912 : UInt32)) 34 (1294757372 : UInt32)) 35 (1396182291 : UInt32)) 36 (1695183700 : UInt32)) 37 (1986661051 : UInt32)) 38 (2177026350 : UInt32)) 39 (2456956037 : UInt32)) 40 (2730485921 : UInt32)) 41 (2820302411 : UInt32)) 42 (3259730800 : UInt32)) 43 (3345764771 : UInt32)) 44 (3516065817 : UInt32)) 45 (3600352804 : UInt32)) 46 (4094571909 : UInt32)) 47 (275423344 : UInt32)) 48 (430227734 : UInt32)) 49 (506948616 : UInt32)) 50 (659060556 : UInt32)) 51 (883997877 : UInt32)) 52 (958139571 : UInt32)) 53 (1322822218 : UInt32)) 54 (1537002063 : UInt32)) 55 (1747873779 : UInt32)) 56 (1955562222 : UInt32)) 57 (2024104815 : UInt32)) 58 (2227730452 : UInt32)) 59 (2361852424 : UInt32)) 60 (2428436474 : UInt32)) 61 (2756734187 : UInt32)) 62 (3204031479 : UInt32)) 63 (3329325298 : UInt32))
def Ql4 {X : Type} (F : Nat) (x_ : UInt32) (n : Int) (fail : X) (ret : UInt32 → X) : X :=
 bif (decide (0 ≤ n)) then
 bif (decide (0 ≤ (Jby 32 n))) then
 ret (orW (Jpy x_ n) (Jze x_ (Jby 32 n)))
 else fail
 else fail
def J1z {X : Type} (F : Nat) (fail : X) (next ex0 : ZB → Int → Int → ZW → ZW → X) (block : ZB) (i k : Int) (s2 w : ZW) : X :=
 bif (decide (k < 4)) then
  bif ((decide (0 ≤ i)) && (decide (i < (64 : Int)))) then
  bif ((decide (0 ≤ (Jag (Je6 4 i) k))) && (decide ((Jag (Je6 4 i) k) < (block.length : Int)))) then
  bif ((decide (0 ≤ i)) && (decide (i < (64 : Int)))) then
  next block i (Jag k 1) s2 (List.set w (i).toNat (orW (Jze (List.getD w (i).toNat 0) 8) (Jow (List.getD block ((Jag (Je6 4 i) k)).toNat 0))))
  else fail
  else fail
  else fail
 else
 ex0 block i k s2 w
def Ji8 {X : Type} (F : Nat) (fail : X) (ex0 : ZB → Int → Int → ZW → ZW → X) : Nat → ZB → Int → Int → ZW → ZW → X
 | 0, _, _, _, _, _ => fail
 | m + 1, block, i, k, s2, w => J1z F fail (Ji8 F fail ex0 m) ex0 block i k s2 w
def J10 {X : Type} (F : Nat) (fail : X) (next ex0 : ZB → Int → ZW → ZW → X) (block : ZB) (i : Int) (s2 w : ZW) : X :=
 bif (decide (i < 16)) then
  Ji8 F fail
   (fun block1 i1 k s21 w1 =>
    next block1 (Jag i1 1) s21 w1)
   F block i 0 s2 w
 else
 ex0 block i s2 w
def Jmv {X : Type} (F : Nat) (fail : X) (ex0 : ZB → Int → ZW → ZW → X) : Nat → ZB → Int → ZW → ZW → X
 | 0, _, _, _, _ => fail
 | m + 1, block, i, s2, w => J10 F fail (Jmv F fail ex0 m) ex0 block i s2 w
def J11 {X : Type} (F : Nat) (fail : X) (next ex0 : Int → ZW → ZW → X) (i : Int) (s2 w : ZW) : X :=
 bif (decide (i < 64)) then
  bif ((decide ((0 : Int) ≤ (Jby i (15 : Int)))) && (decide ((Jby i (15 : Int)) < ((64 : Nat) : Int)))) then
  bif (Jea (List.getD w ((Jby i 15)).toNat 0) 7) then
  bif ((decide ((0 : Int) ≤ (Jby i (15 : Int)))) && (decide ((Jby i (15 : Int)) < ((64 : Nat) : Int)))) then
  bif (Jea (List.getD w ((Jby i 15)).toNat 0) 18) then
  bif ((decide ((0 : Int) ≤ (Jby i (15 : Int)))) && (decide ((Jby i (15 : Int)) < ((64 : Nat) : Int)))) then
  bif ((decide ((0 : Int) ≤ (Jby i (2 : Int)))) && (decide ((Jby i (2 : Int)) < ((64 : Nat) : Int)))) then
  bif (Jea (List.getD w ((Jby i 2)).toNat 0) 17) then
  bif ((decide ((0 : Int) ≤ (Jby i (2 : Int)))) && (decide ((Jby i (2 : Int)) < ((64 : Nat) : Int)))) then
  bif (Jea (List.getD w ((Jby i 2)).toNat 0) 19) then
  bif ((decide ((0 : Int) ≤ (Jby i (2 : Int)))) && (decide ((Jby i (2 : Int)) < ((64 : Nat) : Int)))) then
  bif ((decide ((0 : Int) ≤ (Jby i (16 : Int)))) && (decide ((Jby i (16 : Int)) < ((64 : Nat) : Int)))) then
  bif ((decide ((0 : Int) ≤ (Jby i (7 : Int)))) && (decide ((Jby i (7 : Int)) < ((64 : Nat) : Int)))) then
  bif ((decide (0 ≤ i)) && (decide (i < (64 : Int)))) then
  next (Jag i 1) s2 (List.set w (i).toNat (Jbp (Jbp (Jbp (List.getD w ((Jby i 16)).toNat 0) (Jgq (Jgq (Jhw (List.getD w ((Jby i 15)).toNat 0) 7) (Jhw (List.getD w ((Jby i 15)).toNat 0) 18)) (Jpy (List.getD w ((Jby i 15)).toNat 0) 3))) (List.getD w ((Jby i 7)).toNat 0)) (Jgq (Jgq (Jhw (List.getD w ((Jby i 2)).toNat 0) 17) (Jhw (List.getD w ((Jby i 2)).toNat 0) 19)) (Jpy (List.getD w ((Jby i 2)).toNat 0) 10))))
  else fail
  else fail
  else fail
  else fail
  else fail
  else fail
  else fail
  else fail
  else fail
  else fail
  else fail
  else fail
  else fail
 else
 ex0 i s2 w
def Jmw {X : Type} (F : Nat) (fail : X) (ex0 : Int → ZW → ZW → X) : Nat → Int → ZW → ZW → X
 | 0, _, _, _ => fail
 | m + 1, i, s2, w => J11 F fail (Jmw F fail ex0 m) ex0 i s2 w
def Qb2 {X : Type} (F : Nat) (block : ZB) (fail : X) (ret : ZW → X) : X :=
 Jmv F fail
  (fun block1 i s2 w =>
   Jmw F fail
    (fun i1 s21 w1 =>
     ret w1)
    F 16 s2 w)
  F block (0 : Int) (List.replicate 64 (0 : UInt32)) (List.replicate 64 (0 : UInt32))
def Jwy {X : Type} (F : Nat) (fail : X) (next ex0 : UInt32 → UInt32 → UInt32 → UInt32 → UInt32 → UInt32 → UInt32 → UInt32 → Int → ZW → ZW → ZW → ZW → X) (a b c d_ e_ f g h : UInt32) (i : Int) (state s4 w k : ZW) : X :=
 bif (decide (i < 64)) then
  bif (Jea e_ 6) then
  bif (Jea e_ 11) then
  bif (Jea e_ 25) then
  bif ((decide (0 ≤ i)) && (decide (i < (64 : Int)))) then
  bif ((decide (0 ≤ i)) && (decide (i < (64 : Int)))) then
  bif (Jea a 2) then
  bif (Jea a 13) then
  bif (Jea a 22) then
  next (Jbp (Jbp (Jbp (Jbp (Jbp h (Jgq (Jgq (Jhw e_ 6) (Jhw e_ 11)) (Jhw e_ 25))) (Jgq (J0h e_ f) (J0h (Kx3 e_) g))) (List.getD k (i).toNat 0)) (List.getD w (i).toNat 0)) (Jbp (Jgq (Jgq (Jhw a 2) (Jhw a 13)) (Jhw a 22)) (Jgq (Jgq (J0h a b) (J0h a c)) (J0h b c)))) a b c (Jbp d_ (Jbp (Jbp (Jbp (Jbp h (Jgq (Jgq (Jhw e_ 6) (Jhw e_ 11)) (Jhw e_ 25))) (Jgq (J0h e_ f) (J0h (Kx3 e_) g))) (List.getD k (i).toNat 0)) (List.getD w (i).toNat 0))) e_ f g (Jag i 1) state s4 w k
  else fail
  else fail
  else fail
  else fail
  else fail
  else fail
  else fail
  else fail
 else
 ex0 a b c d_ e_ f g h i state s4 w k
def Jkb {X : Type} (F : Nat) (fail : X) (ex0 : UInt32 → UInt32 → UInt32 → UInt32 → UInt32 → UInt32 → UInt32 → UInt32 → Int → ZW → ZW → ZW → ZW → X) : Nat → UInt32 → UInt32 → UInt32 → UInt32 → UInt32 → UInt32 → UInt32 → UInt32 → Int → ZW → ZW → ZW → ZW → X
 | 0, _, _, _, _, _, _, _, _, _, _, _, _, _ => fail
 | m + 1, a, b, c, d_, e_, f, g, h, i, state, s4, w, k => Jwy F fail (Jkb F fail ex0 m) ex0 a b c d_ e_ f g h i state s4 w k
def Kyg {X : Type} (F : Nat) (state : ZW) (block : ZB) (fail : X) (ret : ZW → X) : X :=
 bif (J1c block) then
 bif (J1a) then
 Jkb F fail
  (fun a b c d_ e_ f g h i state1 s4 w k =>
   ret ([(Jbp (List.getD state1 0 0) a), (Jbp (List.getD state1 1 0) b), (Jbp (List.getD state1 2 0) c), (Jbp (List.getD state1 3 0) d_), (Jbp (List.getD state1 4 0) e_), (Jbp (List.getD state1 5 0) f), (Jbp (List.getD state1 6 0) g), (Jbp (List.getD state1 7 0) h)] : ZW))
  F (List.getD state 0 0) (List.getD state 1 0) (List.getD state 2 0) (List.getD state 3 0) (List.getD state 4 0) (List.getD state 5 0) (List.getD state 6 0) (List.getD state 7 0) 0 state ([0, 0, 0, 0, 0, 0, 0, 0] : ZW) (J8s block) (J1b)
 else fail
 else fail
def sNew {X : Type} (F : Nat) (fail : X) (ret : ZH → X) : X :=
 ret (([1779033703, 3144134277, 1013904242, 2773480762, 1359893119, 2600822924, 528734635, 1541459225] : ZW), (([] : ZB), (0, ())))
def Qb3 {X : Type} (F : Nat) (h : ZH) (fail : X) (ret : Int → X) : X :=
 bif (decide (h.2.2.1 < 0)) then
  ret 3
 else
 bif (decide (h.2.2.1 > 9007199254740991)) then
  ret 3
 else
 bif (((h.2.1.length : Nat) : Int) != (Jcg h.2.2.1 64)) then
  ret 3
 else
 ret 0
def Jwz {X : Type} (F : Nat) (fail : X) (next ex0 : ZB → ZH → ZH → X) (all : ZB) (h s4 : ZH) : X :=
 bif (decide ((all.length : Int) ≥ 64)) then
  bif (decide (64 ≤ (all.length : Int))) then
  bif (Jub h.1 (List.take 64 all)) then
  bif (decide (64 ≤ (all.length : Int))) then
  next (List.drop 64 all) ((Jp4 h.1 (List.take 64 all)), h.2) s4
  else fail
  else fail
  else fail
 else
 ex0 all h s4
def Jkc {X : Type} (F : Nat) (fail : X) (ex0 : ZB → ZH → ZH → X) : Nat → ZB → ZH → ZH → X
 | 0, _, _, _ => fail
 | m + 1, all, h, s4 => Jwz F fail (Jkc F fail ex0 m) ex0 all h s4
def Kyh {X : Type} (F : Nat) (h : ZH) (b : ZB) (fail : X) (ret : ZH → X) : X :=
 bif (decide (h.2.1.length ≤ big)) then
 bif (decide ((h.2.1 ++ b).length ≤ big)) then
 Jkc F fail
  (fun all h1 s4 =>
   ret (h1.1, (all, h1.2.2)))
  F (h.2.1 ++ b) (h.1, (h.2.1, ((Jag h.2.2.1 ((b.length : Nat) : Int)), h.2.2.2))) (([(0 : UInt32), (0 : UInt32), (0 : UInt32), (0 : UInt32), (0 : UInt32), (0 : UInt32), (0 : UInt32), (0 : UInt32)] : ZW), (([] : ZB), ((0 : Int), ())))
 else fail
 else fail
def Jw0 {X : Type} (F : Nat) (fail : X) (next ex0 : Int → ZH → ZB → ZB → X) (bits : Int) (h : ZH) (s2 pad : ZB) : X :=
 bif ((Jcg (Jag ((h.2.1.length : Nat) : Int) ((pad.length : Nat) : Int)) (64 : Int)) != (56 : Int)) then
  bif (decide ((pad ++ ([(0 : UInt8)] : ZB)).length ≤ big)) then
  next bits h s2 (pad ++ ([(0 : UInt8)] : ZB))
  else fail
 else
 ex0 bits h s2 pad
def Jkd {X : Type} (F : Nat) (fail : X) (ex0 : Int → ZH → ZB → ZB → X) : Nat → Int → ZH → ZB → ZB → X
 | 0, _, _, _, _ => fail
 | m + 1, bits, h, s2, pad => Jw0 F fail (Jkd F fail ex0 m) ex0 bits h s2 pad
def Jw1 {X : Type} (F : Nat) (fail : X) (next ex0 : Int → Int → ZH → ZB → ZB → X) (bits i : Int) (h : ZH) (s2 pad : ZB) : X :=
 bif (decide (i ≥ 0)) then
  bif (decide (0 ≤ (Je6 8 i))) then
  bif (decide ((pad ++ ([(Jt8 (Jls bits (Je6 (8 : Int) i)))] : ZB)).length ≤ big)) then
  next bits (Jby i (1 : Int)) h s2 (pad ++ ([(Jt8 (Jls bits (Je6 (8 : Int) i)))] : ZB))
  else fail
  else fail
 else
 ex0 bits i h s2 pad
def Jgz {X : Type} (F : Nat) (fail : X) (ex0 : Int → Int → ZH → ZB → ZB → X) : Nat → Int → Int → ZH → ZB → ZB → X
 | 0, _, _, _, _, _ => fail
 | m + 1, bits, i, h, s2, pad => Jw1 F fail (Jgz F fail ex0 m) ex0 bits i h s2 pad
def Kin {X : Type} (F : Nat) (fail : X) (next ex0 : Int → ZH → ZB → ZB → X) (i : Int) (h : ZH) (s2 out : ZB) : X :=
 bif (decide (i < 32)) then
  bif ((decide ((0 : Int) ≤ (Jzd i (4 : Int)))) && (decide ((Jzd i (4 : Int)) < ((8 : Nat) : Int)))) then
  bif (decide (0 ≤ (Jby 24 (Je6 8 (Jcg i 4))))) then
  bif ((decide (0 ≤ i)) && (decide (i < (32 : Int)))) then
  next (Jag i 1) h s2 (List.set out (i).toNat (J7d (Jpy (List.getD h.1 ((Jzd i 4)).toNat 0) (Jby 24 (Je6 8 (Jcg i 4))))))
  else fail
  else fail
  else fail
 else
 ex0 i h s2 out
def Jr4 {X : Type} (F : Nat) (fail : X) (ex0 : Int → ZH → ZB → ZB → X) : Nat → Int → ZH → ZB → ZB → X
 | 0, _, _, _, _ => fail
 | m + 1, i, h, s2, out => Kin F fail (Jr4 F fail ex0 m) ex0 i h s2 out
def Kyi {X : Type} (F : Nat) (h : ZH) (fail : X) (ret : ZB → Int → X) : X :=
 bif ((J1d h) != 0) then
  ret (List.replicate 32 (0 : UInt8)) (3 : Int)
 else
 Jkd F fail
  (fun bits h1 s2 pad =>
   Jgz F fail
    (fun bits1 i h2 s21 pad1 =>
     bif (Jjl h2 pad1) then
     Jr4 F fail
      (fun i1 h3 s22 out =>
       ret out 0)
      F (0 : Int) (Jp5 h2 pad1) s21 (List.replicate 32 (0 : UInt8))
     else fail)
    F bits 7 h1 s2 pad)
  F (Qbo (Kib h.2.2.1) (8 : Int)) h (List.replicate 32 (0 : UInt8)) ([(128 : UInt8)] : ZB)
def rSum {X : Type} (F : Nat) (b : ZB) (fail : X) (ret : ZB → X) : X :=
 bif (K3z) then
 bif (Jjl (J6c) b) then
 bif (Juc (Jp5 (J6c) b)) then
 ret (Jwi (Jp5 (J6c) b))
 else fail
 else fail
 else fail
end Go.AI
namespace Go.AI
open Go
set_option linter.unusedVariables false
def Jb1  : ZB := [0, 1, 2, 2, 3, 3, 3, 3, 4, 4, 4, 4, 4, 4, 4, 4, 5, 5, 5, 5, 5, 5, 5, 5, 5, 5, 5, 5, 5, 5, 5, 5, 6, 6, 6, 6, 6, 6, 6, 6, 6, 6, 6, 6, 6, 6, 6, 6, 6, 6, 6, 6, 6, 6, 6, 6, 6, 6, 6, 6, 6, 6, 6, 6, 7, 7, 7, 7, 7, 7, 7, 7, 7, 7, 7, 7, 7, 7, 7, 7, 7, 7, 7, 7, 7, 7, 7, 7, 7, 7, 7, 7, 7, 7, 7, 7, 7, 7, 7, 7, 7, 7, 7, 7, 7, 7, 7, 7, 7, 7, 7, 7, 7, 7, 7, 7, 7, 7, 7, 7, 7, 7, 7, 7, 7, 7, 7, 7, 8, 8, 8, 8, 8, 8, 8, 8, 8, 8, 8, 8, 8, 8, 8, 8, 8, 8, 8, 8, 8, 8, 8, 8, 8, 8, 8, 8, 8, 8, 8, 8, 8, 8, 8, 8, 8, 8, 8, 8, 8, 8, 8, 8, 8, 8, 8, 8, 8, 8, 8, 8, 8, 8, 8, 8, 8, 8, 8, 8, 8, 8, 8, 8, 8, 8, 8, 8, 8, 8, 8, 8, 8, 8, 8, 8, 8, 8, 8, 8, 8, 8, 8, 8, 8, 8, 8, 8, 8, 8, 8, 8, 8, 8, 8, 8, 8, 8, 8, 8, 8, 8, 8, 8, 8, 8, 8, 8, 8, 8, 8, 8, 8, 8, 8, 8, 8, 8, 8, 8, 8, 8, 8, 8, 8, 8, 8, 8]
def J4e {X : Type} (F : Nat) (x_ : Int) (fail : X) (ret : Int → X) : X :=
 bif (decide (x_ ≥ 4294967296)) then
  bif (decide ((Jls x_ (32 : Int)) ≥ (65536 : Int))) then
   bif (decide ((Jls (Jls x_ (32 : Int)) (16 : Int)) ≥ (256 : Int))) then
    bif ((decide (0 ≤ ((((Jt8 (Jls (Jls (Jls x_ 32) 16) 8))).toNat : Nat) : Int))) && (decide (((((Jt8 (Jls (Jls (Jls x_ 32) 16) 8))).toNat : Nat) : Int) < (Jb1.length : Int)))) then
    ret (Jag 56 (Ke2 (List.getD Jb1 ((Jt8 (Jls (Jls (Jls x_ 32) 16) 8))).toNat 0)))
    else fail
   else
   bif ((decide (0 ≤ ((((Jt8 (Jls (Jls x_ 32) 16))).toNat : Nat) : Int))) && (decide (((((Jt8 (Jls (Jls x_ 32) 16))).toNat : Nat) : Int) < (Jb1.length : Int)))) then
   ret (Jag 48 (Ke2 (List.getD Jb1 ((Jt8 (Jls (Jls x_ 32) 16))).toNat 0)))
   else fail
  else
  bif (decide ((Jls x_ (32 : Int)) ≥ (256 : Int))) then
   bif ((decide (0 ≤ ((((Jt8 (Jls (Jls x_ 32) 8))).toNat : Nat) : Int))) && (decide (((((Jt8 (Jls (Jls x_ 32) 8))).toNat : Nat) : Int) < (Jb1.length : Int)))) then
   ret (Jag 40 (Ke2 (List.getD Jb1 ((Jt8 (Jls (Jls x_ 32) 8))).toNat 0)))
   else fail
  else
  bif ((decide (0 ≤ ((((Jt8 (Jls x_ 32))).toNat : Nat) : Int))) && (decide (((((Jt8 (Jls x_ 32))).toNat : Nat) : Int) < (Jb1.length : Int)))) then
  ret (Jag 32 (Ke2 (List.getD Jb1 ((Jt8 (Jls x_ 32))).toNat 0)))
  else fail
 else
 bif (decide (x_ ≥ 65536)) then
  bif (decide ((Jls x_ (16 : Int)) ≥ (256 : Int))) then
   bif ((decide (0 ≤ ((((Jt8 (Jls (Jls x_ 16) 8))).toNat : Nat) : Int))) && (decide (((((Jt8 (Jls (Jls x_ 16) 8))).toNat : Nat) : Int) < (Jb1.length : Int)))) then
   ret (Jag 24 (Ke2 (List.getD Jb1 ((Jt8 (Jls (Jls x_ 16) 8))).toNat 0)))
   else fail
  else
  bif ((decide (0 ≤ ((((Jt8 (Jls x_ 16))).toNat : Nat) : Int))) && (decide (((((Jt8 (Jls x_ 16))).toNat : Nat) : Int) < (Jb1.length : Int)))) then
  ret (Jag 16 (Ke2 (List.getD Jb1 ((Jt8 (Jls x_ 16))).toNat 0)))
  else fail
 else
 bif (decide (x_ ≥ 256)) then
  bif ((decide (0 ≤ ((((Jt8 (Jls x_ 8))).toNat : Nat) : Int))) && (decide (((((Jt8 (Jls x_ 8))).toNat : Nat) : Int) < (Jb1.length : Int)))) then
  ret (Jag 8 (Ke2 (List.getD Jb1 ((Jt8 (Jls x_ 8))).toNat 0)))
  else fail
 else
 bif ((decide (0 ≤ ((((Jt8 x_)).toNat : Nat) : Int))) && (decide (((((Jt8 x_)).toNat : Nat) : Int) < (Jb1.length : Int)))) then
 ret (Jag 0 (Ke2 (List.getD Jb1 ((Jt8 x_)).toNat 0)))
 else fail
def Ka6 {X : Type} (F : Nat) (x_ : UInt8) (fail : X) (ret : Int → X) : X :=
 bif ((decide (0 ≤ (((x_).toNat : Nat) : Int))) && (decide ((((x_).toNat : Nat) : Int) < (Jb1.length : Int)))) then
 ret (Ke2 (List.getD Jb1 (x_).toNat 0))
 else fail
def Klx {X : Type} (F : Nat) (x_ : Int) (fail : X) (ret : Int → X) : X :=
 bif (Joz x_) then
 ret (Jud x_)
 else fail
def Jju {X : Type} (F : Nat) (x_ : UInt8) (fail : X) (ret : Int → X) : X :=
 ret (Jby 8 (Jrr x_))
def Ka7 {X : Type} (F : Nat) (n : Int) (fail : X) (ret : Int → X) : X :=
 bif (decide (n < 0)) then
  ret 0
 else
 bif (decide (n > 9007199254740991)) then
  ret 0
 else
 ret n
def Juk {X : Type} (F : Nat) (n : Int) (fail : X) (ret : Int → X) : X :=
 bif (Jwj (Kib n)) then
 ret (Jzd (maxI 0 (Jby (Jwk (Kib n)) 1)) 7)
 else fail
def Kio {X : Type} (F : Nat) (s : ZB) (fail : X) (J67 : X → X → X) (ret : ZB → X) : X :=
 bif (List.isEmpty s) then
  J67 (
   ret ([] : ZB)) (
   bif (decide (s.length ≤ big)) then
   ret s
   else fail)
 else
 bif (decide (s.length ≤ big)) then
 ret s
 else fail
def Jr5 {X : Type} (F : Nat) (fail : X) (next ex0 : Int → Int → ZB → X) (n i : Int) (dst : ZB) : X :=
 bif (decide (i ≥ 0)) then
  bif (decide (0 ≤ (Je6 8 i))) then
  bif (decide ((dst ++ ([(Kfc (Kqz n (Je6 (8 : Int) i)))] : ZB)).length ≤ big)) then
  next n (Jby i (1 : Int)) (dst ++ ([(Kfc (Kqz n (Je6 (8 : Int) i)))] : ZB))
  else fail
  else fail
 else
 ex0 n i dst
def Ji9 {X : Type} (F : Nat) (fail : X) (ex0 : Int → Int → ZB → X) : Nat → Int → Int → ZB → X
 | 0, _, _, _ => fail
 | m + 1, n, i, dst => Jr5 F fail (Ji9 F fail ex0 m) ex0 n i dst
def Kly {X : Type} (F : Nat) (dst : ZB) (n : Int) (fail : X) (ret : ZB → X) : X :=
 bif (Jd5 (Jcb n)) then
 bif (decide (0 ≤ (Jby 8 (Jbo (Jcb n))))) then
 bif (decide (0 ≤ (Je6 8 (Jbo (Jcb n))))) then
 bif (decide ((dst ++ ([(orB (shlB (255 : UInt8) (Jby (8 : Int) (Jbo (Jcb n)))) (Kfc (Kqz (Jcb n) (Je6 (8 : Int) (Jbo (Jcb n))))))] : ZB)).length ≤ big)) then
 Ji9 F fail
  (fun n1 i dst1 =>
   ret dst1)
  F (Jcb n) (Jby (Jbo (Jcb n)) (1 : Int)) (dst ++ ([(orB (shlB (255 : UInt8) (Jby (8 : Int) (Jbo (Jcb n)))) (Kfc (Kqz (Jcb n) (Je6 (8 : Int) (Jbo (Jcb n))))))] : ZB))
 else fail
 else fail
 else fail
 else fail
def Jzm {X : Type} (F : Nat) (dst : ZB) (n : Int) (fail : X) (ret : ZB → X) : X :=
 bif (Jbq dst) then
 bif (Jmq (Jcj dst) n) then
 ret (Jp7 (Jcj dst) n)
 else fail
 else fail
def Jr6 {X : Type} (F : Nat) (fail : X) (next ex0 : ZB → Int → Int → ZB → Int → Int → X) (src : ZB) (k n : Int) (s33 : ZB) (s34 s35 : Int) : X :=
 bif (decide (s35 < s34)) then
  bif ((decide (0 ≤ s35)) && (decide (s35 < (s33.length : Int)))) then
  next src k (orI (Qln n 8) (Ke2 (List.getD s33 (s35).toNat 0))) s33 s34 (Jag s35 1)
  else fail
 else
 ex0 src k n s33 s34 s35
def Jja {X : Type} (F : Nat) (fail : X) (ex0 : ZB → Int → Int → ZB → Int → Int → X) : Nat → ZB → Int → Int → ZB → Int → Int → X
 | 0, _, _, _, _, _, _ => fail
 | m + 1, src, k, n, s33, s34, s35 => Jr6 F fail (Jja F fail ex0 m) ex0 src k n s33 s34 s35
def Klz {X : Type} (F : Nat) (src : ZB) (fail : X) (ret : Int → ZB → Int → X) : X :=
 bif ((src.length : Int) == 0) then
  ret 0 ([] : ZB) 9
 else
 bif (decide (0 < (src.length : Int))) then
 bif (decide ((Ja4 (Qg1 (List.getD src 0 0))) > 7)) then
  ret 0 ([] : ZB) 3
 else
 bif (decide ((src.length : Int) ≤ (Ja4 (Qg1 (List.getD src 0 0))))) then
  ret 0 ([] : ZB) 9
 else
 bif (decide (0 < (src.length : Int))) then
 bif (decide (0 ≤ (Ja4 (Qg1 (List.getD src 0 0))))) then
 bif ((decide (1 ≤ (Jag (Ja4 (Qg1 (List.getD src 0 0))) 1))) && (decide ((Jag (Ja4 (Qg1 (List.getD src 0 0))) 1) ≤ (src.length : Int)))) then
 Jja F fail
  (fun src1 k n s33 s34 s35 =>
   bif (decide (n > 9007199254740991)) then
    ret 0 ([] : ZB) 3
   else
   bif (Jd5 n) then
   bif ((Jbo n) != k) then
    ret 0 ([] : ZB) 3
   else
   bif ((decide (0 ≤ (Jag k 1))) && (decide ((Jag k 1) ≤ (src1.length : Int)))) then
   bif (Jbq (List.drop ((Jag k 1)).toNat src1)) then
   ret n (Jcj (List.drop ((Jag k 1)).toNat src1)) 0
   else fail
   else fail
   else fail)
  F src (Ja4 (Qg1 (List.getD src 0 0))) (Ke2 (andB (List.getD src 0 0) (shrB 127 (Ja4 (Qg1 (List.getD src 0 0)))))) (List.drop 1 (List.take ((Jag (Ja4 (Qg1 (List.getD src 0 0))) 1)).toNat src)) (((List.drop 1 (List.take ((Jag (Ja4 (Qg1 (List.getD src 0 0))) 1)).toNat src)).length : Nat) : Int) 0
 else fail
 else fail
 else fail
 else fail
def Jkw {X : Type} (F : Nat) (fail : X) (next ex0 : Int → Int → Int → X) (n p i : Int) : X :=
 bif (decide (i < n)) then
  next n (Je6 2 p) (Jag i 1)
 else
 ex0 n p i
def Jfm {X : Type} (F : Nat) (fail : X) (ex0 : Int → Int → Int → X) : Nat → Int → Int → Int → X
 | 0, _, _, _ => fail
 | m + 1, n, p, i => Jkw F fail (Jfm F fail ex0 m) ex0 n p i
def Ka8 {X : Type} (F : Nat) (n : Int) (fail : X) (ret : Int → X) : X :=
 Jfm F fail
  (fun n1 p i =>
   ret p)
  F n 1 0
def J6g {X : Type} (F : Nat) (n : Int) (fail : X) (ret : Int → X) : X :=
 bif (decide (n < 0)) then
  ret 0
 else
 bif (decide (n > 9007199254740991)) then
  ret 0
 else
 ret n
def Jr7 {X : Type} (F : Nat) (fail : X) (next ex0 : Int → Int → X) (n k : Int) : X :=
 bif (Jc1 (Je6 7 (Jag k 1))) then
 bif (decide ((Jpp n) ≥ (Jc2 (Je6 7 (Jag k 1))))) then
  next n (Jag k 1)
 else
 ex0 n k
 else fail
def Je1 {X : Type} (F : Nat) (fail : X) (ex0 : Int → Int → X) : Nat → Int → Int → X
 | 0, _, _ => fail
 | m + 1, n, k => Jr7 F fail (Je1 F fail ex0 m) ex0 n k
def J4f {X : Type} (F : Nat) (n : Int) (fail : X) (ret : Int → X) : X :=
 Je1 F fail
  (fun n1 k =>
   ret (Jag k 1))
  F n 0
def J4g {X : Type} (F : Nat) (b : ZB) (fail : X) (ret : ZB → X) : X :=
 bif (decide (b.length ≤ big)) then
 ret b
 else fail
def Jul {X : Type} (F : Nat) (fail : X) (next ex0 : ZB → Int → Int → X) (src : ZB) (first k : Int) : X :=
 bif (Jc1 (Jby 7 k)) then
 bif (decide (first ≥ (Jby 256 (Jc2 (Jby 7 k))))) then
  next src first (Jag k 1)
 else
 ex0 src first k
 else fail
def Jf3 {X : Type} (F : Nat) (fail : X) (ex0 : ZB → Int → Int → X) : Nat → ZB → Int → Int → X
 | 0, _, _, _ => fail
 | m + 1, src, first, k => Jul F fail (Jf3 F fail ex0 m) ex0 src first k
def Jo5 {X : Type} (F : Nat) (fail : X) (next ex0 : ZB → Int → Int → Int → X) (src : ZB) (k n i : Int) : X :=
 bif (decide (i ≤ k)) then
  bif ((decide (0 ≤ i)) && (decide (i < (src.length : Int)))) then
  next src k (Jag (Je6 256 n) (Ke2 (List.getD src (i).toNat 0))) (Jag i 1)
  else fail
 else
 ex0 src k n i
def Jhp {X : Type} (F : Nat) (fail : X) (ex0 : ZB → Int → Int → Int → X) : Nat → ZB → Int → Int → Int → X
 | 0, _, _, _, _ => fail
 | m + 1, src, k, n, i => Jo5 F fail (Jhp F fail ex0 m) ex0 src k n i
def Ka9 {X : Type} (F : Nat) (src : ZB) (fail : X) (ret : Int → ZB → Int → X) : X :=
 bif ((src.length : Int) == 0) then
  ret 0 ([] : ZB) 9
 else
 bif (decide (0 < (src.length : Int))) then
 bif ((Ke2 (List.getD src 0 0)) == 255) then
  ret 0 ([] : ZB) 3
 else
 Jf3 F fail
  (fun src1 first k =>
   bif (decide ((src1.length : Int) < (Jag k 1))) then
    ret 0 ([] : ZB) 9
   else
   bif (Jc1 (Jby 8 k)) then
   Jhp F fail
    (fun src2 k1 n i =>
     bif (decide (n > 9007199254740991)) then
      ret 0 ([] : ZB) 3
     else
     bif ((Jlc n) != (Jag k1 1)) then
      ret 0 ([] : ZB) 3
     else
     bif ((decide (0 ≤ (Jag k1 1))) && (decide ((Jag k1 1) ≤ (src2.length : Int)))) then
     bif (Jer (List.drop ((Jag k1 1)).toNat src2)) then
     ret n (Ji3 (List.drop ((Jag k1 1)).toNat src2)) 0
     else fail
     else fail)
    F src1 k (Jby first (Jby 256 (Jc2 (Jby 8 k)))) 1
   else fail)
  F src (Ke2 (List.getD src 0 0)) 0
 else fail
end Go.AI
namespace Go.AI
open Go
set_option linter.unusedVariables false
def Jh5 {X : Type} (F : Nat) (fail : X) (next ex0 : ZB → Int → Int → ZB → X) (s14 : ZB) (s15 s16 : Int) (dst : ZB) : X :=
 bif (decide (s16 < s15)) then
  bif ((decide (0 ≤ s16)) && (decide (s16 < (s14.length : Int)))) then
  bif (decide ((dst ++ ([(List.getD s14 (s16).toNat (0 : UInt8))] : ZB)).length ≤ big)) then
  next s14 s15 (Jag s16 (1 : Int)) (dst ++ ([(List.getD s14 (s16).toNat (0 : UInt8))] : ZB))
  else fail
  else fail
 else
 ex0 s14 s15 s16 dst
def Jd8 {X : Type} (F : Nat) (fail : X) (ex0 : ZB → Int → Int → ZB → X) : Nat → ZB → Int → Int → ZB → X
 | 0, _, _, _, _ => fail
 | m + 1, s14, s15, s16, dst => Jh5 F fail (Jd8 F fail ex0 m) ex0 s14 s15 s16 dst
def Jr8 {X : Type} (F : Nat) (dst b : ZB) (fail : X) (ret : ZB → X) : X :=
 bif (Jbq dst) then
 bif (Jmq (Jcj dst) (b.length : Int)) then
 Jd8 F fail
  (fun s14 s15 s16 dst1 =>
   ret dst1)
  F b (b.length : Int) 0 (Jp7 (Jcj dst) (b.length : Int))
 else fail
 else fail
def J4h {X : Type} (F : Nat) (src : ZB) (fail : X) (ret : ZB → ZB → Int → X) : X :=
 bif (Jfh src) then
 bif ((Jbk src) == 0) then
  bif (decide ((Jas src) > 65536)) then
   ret ([] : ZB) ([] : ZB) 5
  else
  bif ((Jbk src) != 0) then
   ret ([] : ZB) ([] : ZB) (Jbk src)
  else
  bif (decide ((((Jaq src).length : Nat) : Int) < (Jas src))) then
   ret ([] : ZB) ([] : ZB) 9
  else
  bif ((decide (0 ≤ (Jas src))) && (decide ((Jas src) ≤ (((Jaq src).length : Nat) : Int)))) then
  bif (Jbq (List.take ((Jas src)).toNat (Jaq src))) then
  bif ((decide (0 ≤ (Jas src))) && (decide ((Jas src) ≤ (((Jaq src).length : Nat) : Int)))) then
  bif (Jbq (List.drop ((Jas src)).toNat (Jaq src))) then
  ret (Jcj (List.take ((Jas src)).toNat (Jaq src))) (Jcj (List.drop ((Jas src)).toNat (Jaq src))) 0
  else fail
  else fail
  else fail
  else fail
 else
 bif ((Jbk src) != 0) then
  ret ([] : ZB) ([] : ZB) (Jbk src)
 else
 bif (decide ((((Jaq src).length : Nat) : Int) < (Jas src))) then
  ret ([] : ZB) ([] : ZB) 9
 else
 bif ((decide (0 ≤ (Jas src))) && (decide ((Jas src) ≤ (((Jaq src).length : Nat) : Int)))) then
 bif (Jbq (List.take ((Jas src)).toNat (Jaq src))) then
 bif ((decide (0 ≤ (Jas src))) && (decide ((Jas src) ≤ (((Jaq src).length : Nat) : Int)))) then
 bif (Jbq (List.drop ((Jas src)).toNat (Jaq src))) then
 ret (Jcj (List.take ((Jas src)).toNat (Jaq src))) (Jcj (List.drop ((Jas src)).toNat (Jaq src))) 0
 else fail
 else fail
 else fail
 else fail
 else fail
def Jum {X : Type} (F : Nat) (src : ZB) (fail : X) (ret : Int → ZB → Int → X) : X :=
 bif (Jec src) then
 bif ((Jbz src) == 0) then
  bif (decide ((Ja7 src) > 65536)) then
   ret 0 ([] : ZB) 5
  else
  ret (Ja7 src) (Jay src) (Jbz src)
 else
 ret (Ja7 src) (Jay src) (Jbz src)
 else fail
def Jzn {X : Type} (F : Nat) (src : ZB) (fail : X) (ret : ZB → ZB → Int → X) : X :=
 bif (Jku src) then
 bif ((Jfg src) != 0) then
  ret ([] : ZB) ([] : ZB) (Jfg src)
 else
 bif (decide ((((Jbt src).length : Nat) : Int) < (Jbj src))) then
  ret ([] : ZB) ([] : ZB) 9
 else
 bif ((decide (0 ≤ (Jbj src))) && (decide ((Jbj src) ≤ (((Jbt src).length : Nat) : Int)))) then
 bif (Jer (List.take ((Jbj src)).toNat (Jbt src))) then
 bif ((decide (0 ≤ (Jbj src))) && (decide ((Jbj src) ≤ (((Jbt src).length : Nat) : Int)))) then
 bif (Jer (List.take ((Jbt src).length - ((Jbj src)).toNat) (List.drop ((Jbj src)).toNat (Jbt src)))) then
 ret (Ji3 (List.take ((Jbj src)).toNat (Jbt src))) (Ji3 (List.take ((Jbt src).length - ((Jbj src)).toNat) (List.drop ((Jbj src)).toNat (Jbt src)))) 0
 else fail
 else fail
 else fail
 else fail
 else fail
end Go.AI
namespace Go.AI
open Go
set_option linter.unusedVariables false
def J12 {X : Type} (F : Nat) (fail : X) (next ex0 : UInt8 → Int → Int → ZB → X) (by_ : UInt8) (s19 s20 : Int) (out : ZB) : X :=
 bif (decide (s20 < s19)) then
  bif ((decide (0 ≤ s20)) && (decide (s20 < (out.length : Int)))) then
  bif ((decide (0 ≤ s20)) && (decide (s20 < (out.length : Int)))) then
  next by_ s19 (Jag s20 1) (List.set out (s20).toNat (Jtq (List.getD out (s20).toNat 0) by_))
  else fail
  else fail
 else
 ex0 by_ s19 s20 out
def Jke {X : Type} (F : Nat) (fail : X) (ex0 : UInt8 → Int → Int → ZB → X) : Nat → UInt8 → Int → Int → ZB → X
 | 0, _, _, _, _ => fail
 | m + 1, by_, s19, s20, out => J12 F fail (Jke F fail ex0 m) ex0 by_ s19 s20 out
def Qb4 {X : Type} (F : Nat) (key : ZB) (by_ : UInt8) (fail : X) (ret : ZB → X) : X :=
 bif (decide ((key.length : Int) > 64)) then
  bif (Kq5 key) then
  bif (decide (64 ≤ ((big : Nat) : Int))) then
  Jke F fail
   (fun by_1 s19 s20 out =>
    ret out)
   F by_ (((((List.take 0 (List.replicate 64 (0 : UInt8))) ++ (List.take (min (List.take 32 (Jyc key)).length (List.replicate 64 (0 : UInt8)).length) (List.take 32 (Jyc key)))) ++ (List.drop (0 + (min (List.take 32 (Jyc key)).length (List.replicate 64 (0 : UInt8)).length)) (List.replicate 64 (0 : UInt8)))).length : Nat) : Int) (0 : Int) (((List.take 0 (List.replicate 64 (0 : UInt8))) ++ (List.take (min (List.take 32 (Jyc key)).length (List.replicate 64 (0 : UInt8)).length) (List.take 32 (Jyc key)))) ++ (List.drop (0 + (min (List.take 32 (Jyc key)).length (List.replicate 64 (0 : UInt8)).length)) (List.replicate 64 (0 : UInt8))))
  else fail
  else fail
 else
 bif (decide (64 ≤ ((big : Nat) : Int))) then
 Jke F fail
  (fun by_2 s191 s201 out1 =>
   ret out1)
  F by_ (((((List.take 0 (List.replicate 64 (0 : UInt8))) ++ (List.take (min key.length (List.replicate 64 (0 : UInt8)).length) key)) ++ (List.drop (0 + (min key.length (List.replicate 64 (0 : UInt8)).length)) (List.replicate 64 (0 : UInt8)))).length : Nat) : Int) (0 : Int) (((List.take 0 (List.replicate 64 (0 : UInt8))) ++ (List.take (min key.length (List.replicate 64 (0 : UInt8)).length) key)) ++ (List.drop (0 + (min key.length (List.replicate 64 (0 : UInt8)).length)) (List.replicate 64 (0 : UInt8))))
 else fail
def dMac {X : Type} (F : Nat) (key b : ZB) (fail : X) (ret : ZB → X) : X :=
 bif (J6a) then
 bif (Jwh key 54) then
 bif (Jeq (Jhv) (Je7 key 54)) then
 bif (Jeq (Jdb (Jhv) (Je7 key 54)) b) then
 bif (Jh0 (Jdb (Jdb (Jhv) (Je7 key 54)) b)) then
 bif (J6a) then
 bif (Jwh key 92) then
 bif (Jeq (Jhv) (Je7 key 92)) then
 bif (Jeq (Jdb (Jhv) (Je7 key 92)) (List.take 32 (Jlb (Jdb (Jdb (Jhv) (Je7 key 54)) b)))) then
 bif (Jh0 (Jdb (Jdb (Jhv) (Je7 key 92)) (List.take 32 (Jlb (Jdb (Jdb (Jhv) (Je7 key 54)) b))))) then
 ret (Jlb (Jdb (Jdb (Jhv) (Je7 key 92)) (List.take 32 (Jlb (Jdb (Jdb (Jhv) (Je7 key 54)) b)))))
 else fail
 else fail
 else fail
 else fail
 else fail
 else fail
 else fail
 else fail
 else fail
 else fail
def Kl0 {X : Type} (F : Nat) (fail : X) (next ex0 : ZB → Int → ZB → ZB → ZB → ZB → X) (b : ZB) (i : Int) (s4 k inner outer : ZB) : X :=
 bif (decide (i < 64)) then
  bif ((decide (0 ≤ i)) && (decide (i < (64 : Int)))) then
  bif (decide ((inner ++ ([(Jtq (List.getD k (i).toNat (0 : UInt8)) (54 : UInt8))] : ZB)).length ≤ big)) then
  bif ((decide (0 ≤ i)) && (decide (i < (64 : Int)))) then
  bif (decide ((outer ++ ([(Jtq (List.getD k (i).toNat (0 : UInt8)) (92 : UInt8))] : ZB)).length ≤ big)) then
  next b (Jag i (1 : Int)) s4 k (inner ++ ([(Jtq (List.getD k (i).toNat (0 : UInt8)) (54 : UInt8))] : ZB)) (outer ++ ([(Jtq (List.getD k (i).toNat (0 : UInt8)) (92 : UInt8))] : ZB))
  else fail
  else fail
  else fail
  else fail
 else
 ex0 b i s4 k inner outer
def Jr9 {X : Type} (F : Nat) (fail : X) (ex0 : ZB → Int → ZB → ZB → ZB → ZB → X) : Nat → ZB → Int → ZB → ZB → ZB → ZB → X
 | 0, _, _, _, _, _, _ => fail
 | m + 1, b, i, s4, k, inner, outer => Kl0 F fail (Jr9 F fail ex0 m) ex0 b i s4 k inner outer
def rMac {X : Type} (F : Nat) (key b : ZB) (fail : X) (ret : ZB → X) : X :=
 bif (decide ((key.length : Int) > 64)) then
  bif (Jp6 key) then
  Jr9 F fail
   (fun b1 i s4 k inner outer =>
    bif (decide ((inner ++ b1).length ≤ big)) then
    bif (Jp6 (inner ++ b1)) then
    bif (decide ((outer ++ (List.take 32 (Jh1 (inner ++ b1)))).length ≤ big)) then
    bif (Jp6 (outer ++ (List.take 32 (Jh1 (inner ++ b1))))) then
    ret (Jh1 (outer ++ (List.take 32 (Jh1 (inner ++ b1)))))
    else fail
    else fail
    else fail
    else fail)
   F b (0 : Int) (List.replicate 32 (0 : UInt8)) (((List.take 0 (List.replicate 64 (0 : UInt8))) ++ (List.take (min (List.take 32 (Jh1 key)).length 64) (List.take 32 (Jh1 key)))) ++ (List.drop (0 + (min (List.take 32 (Jh1 key)).length 64)) (List.replicate 64 (0 : UInt8)))) ([] : ZB) ([] : ZB)
  else fail
 else
 Jr9 F fail
  (fun b2 i1 s41 k1 inner1 outer1 =>
   bif (decide ((inner1 ++ b2).length ≤ big)) then
   bif (Jp6 (inner1 ++ b2)) then
   bif (decide ((outer1 ++ (List.take 32 (Jh1 (inner1 ++ b2)))).length ≤ big)) then
   bif (Jp6 (outer1 ++ (List.take 32 (Jh1 (inner1 ++ b2))))) then
   ret (Jh1 (outer1 ++ (List.take 32 (Jh1 (inner1 ++ b2)))))
   else fail
   else fail
   else fail
   else fail)
  F b (0 : Int) (List.replicate 32 (0 : UInt8)) (((List.take 0 (List.replicate 64 (0 : UInt8))) ++ (List.take (min key.length 64) key)) ++ (List.drop (0 + (min key.length 64)) (List.replicate 64 (0 : UInt8)))) ([] : ZB) ([] : ZB)
end Go.AI
namespace Go.AI
open Go
set_option linter.unusedVariables false
def Ql5 {X : Type} (F : Nat) (key : ZB) (fail : X) (ret : ZB → ZB → X) : X :=
 bif (Jua key ([101, 110, 99, 114, 121, 112, 116] : ZB)) then
 bif (Jua key ([97, 117, 116, 104, 101, 110, 116, 105, 99, 97, 116, 101] : ZB)) then
 ret (J6b key ([101, 110, 99, 114, 121, 112, 116] : ZB)) (J6b key ([97, 117, 116, 104, 101, 110, 116, 105, 99, 97, 116, 101] : ZB))
 else fail
 else fail
def Kl1 {X : Type} (F : Nat) (fail : X) (next ex0 : Int → ZB → Int → ZB → ZB → X) (nonce : Int) (b : ZB) (s10 : Int) (key l : ZB) : X :=
 bif (decide (s10 < 8)) then
  bif (decide (0 ≤ (Je6 8 s10))) then
  bif (decide ((l ++ ([(Kfc (Kqz nonce (Je6 (8 : Int) s10)))] : ZB)).length ≤ big)) then
  next nonce b (Jag s10 (1 : Int)) key (l ++ ([(Kfc (Kqz nonce (Je6 (8 : Int) s10)))] : ZB))
  else fail
  else fail
 else
 ex0 nonce b s10 key l
def Jw2 {X : Type} (F : Nat) (fail : X) (ex0 : Int → ZB → Int → ZB → ZB → X) : Nat → Int → ZB → Int → ZB → ZB → X
 | 0, _, _, _, _, _ => fail
 | m + 1, nonce, b, s10, key, l => Kl1 F fail (Jw2 F fail ex0 m) ex0 nonce b s10 key l
def cTag {X : Type} (F : Nat) (key : ZB) (nonce : Int) (b : ZB) (fail : X) (ret : ZB → X) : X :=
 Jw2 F fail
  (fun nonce1 b1 s10 Jtr l =>
   bif (decide ((l ++ b1).length ≤ big)) then
   bif (Jua (List.take 32 Jtr) (l ++ b1)) then
   ret (List.take 16 (J6b (List.take 32 Jtr) (l ++ b1)))
   else fail
   else fail)
  F nonce b 0 key ([] : ZB)
def Kyj {X : Type} (F : Nat) (key : ZB) (fail : X) (ret : Bool → X) : X :=
 bif (decide ((key.length : Int) ≥ 1)) then
  ret (decide ((key.length : Int) ≤ 64))
 else
 ret false
def J82 {X : Type} (F : Nat) (fail : X) (next ex0 : Int → Int → ZB → Int → ZB → ZB → ZB → ZB → ZB → X) (nonce s10 : Int) (key : ZB) (nonce1 : Int) (b b1 Jtr l authenticate : ZB) : X :=
 bif (decide (s10 < 8)) then
  bif (decide (0 ≤ (Je6 8 s10))) then
  bif (decide ((l ++ ([(Kfc (Kqz nonce (Je6 (8 : Int) s10)))] : ZB)).length ≤ big)) then
  next nonce (Jag s10 (1 : Int)) key nonce1 b b1 Jtr (l ++ ([(Kfc (Kqz nonce (Je6 (8 : Int) s10)))] : ZB)) authenticate
  else fail
  else fail
 else
 ex0 nonce s10 key nonce1 b b1 Jtr l authenticate
def Jqk {X : Type} (F : Nat) (fail : X) (ex0 : Int → Int → ZB → Int → ZB → ZB → ZB → ZB → ZB → X) : Nat → Int → Int → ZB → Int → ZB → ZB → ZB → ZB → ZB → X
 | 0, _, _, _, _, _, _, _, _, _ => fail
 | m + 1, nonce, s10, key, nonce1, b, b1, Jtr, l, authenticate => J82 F fail (Jqk F fail ex0 m) ex0 nonce s10 key nonce1 b b1 Jtr l authenticate
def Ql6 {X : Type} (F : Nat) (key : ZB) (nonce : Int) (b : ZB) (fail : X) (ret : ZB → Int → X) : X :=
 bif (!(Jni key)) then
  ret ([] : ZB) 1
 else
 bif (decide ((b.length : Int) > 65520)) then
  ret ([] : ZB) 5
 else
 bif (Jrt key) then
 bif (Jnh (Jgj key) nonce b) then
 bif ((Jhn (Jgj key) nonce b) != 0) then
  ret ([] : ZB) (Jhn (Jgj key) nonce b)
 else
 Jqk F fail
  (fun nonce1 s10 Jtr nonce2 b1 b2 key2 l authenticate =>
   bif (decide ((l ++ b2).length ≤ big)) then
   bif (Jua (List.take 32 key2) (l ++ b2)) then
   bif (decide ((b2 ++ (List.take 16 (J6b (List.take 32 key2) (l ++ b2)))).length ≤ big)) then
   ret (b2 ++ (List.take 16 (J6b (List.take 32 key2) (l ++ b2)))) (0 : Int)
   else fail
   else fail
   else fail)
  F nonce 0 key nonce b (Jj7 (Jgj key) nonce b) (Jh3 key) ([] : ZB) (Jh3 key)
 else fail
 else fail
def Ql7 {X : Type} (F : Nat) (key : ZB) (nonce : Int) (b : ZB) (fail : X) (ret : ZB → Int → X) : X :=
 bif (!(Jni key)) then
  ret ([] : ZB) 1
 else
 bif (decide ((b.length : Int) > 65536)) then
  ret ([] : ZB) 5
 else
 bif (!(Jrs nonce)) then
  ret ([] : ZB) 2
 else
 bif (decide ((Jby ((b.length : Nat) : Int) (16 : Int)) < (0 : Int))) then
  ret ([] : ZB) 9
 else
 bif (Jrt key) then
 bif ((decide (0 ≤ (Jby (b.length : Int) 16))) && (decide ((Jby (b.length : Int) 16) ≤ (b.length : Int)))) then
 bif (J6d (Jh3 key) nonce (List.take ((Jby (b.length : Int) 16)).toNat b)) then
 bif ((decide (0 ≤ (Jby (b.length : Int) 16))) && (decide ((Jby (b.length : Int) 16) ≤ (b.length : Int)))) then
 bif (Ji4 (J6e (Jh3 key) nonce (List.take ((Jby (b.length : Int) 16)).toNat b)) (List.drop ((Jby (b.length : Int) 16)).toNat b)) then
 bif (!(Ji5 (J6e (Jh3 key) nonce (List.take ((Jby (b.length : Int) 16)).toNat b)) (List.drop ((Jby (b.length : Int) 16)).toNat b))) then
  ret ([] : ZB) 25
 else
 bif ((decide (0 ≤ (Jby (b.length : Int) 16))) && (decide ((Jby (b.length : Int) 16) ≤ (b.length : Int)))) then
 bif (Jnh (Jgj key) nonce (List.take ((Jby (b.length : Int) 16)).toNat b)) then
 ret (Jj7 (Jgj key) nonce (List.take ((Jby (b.length : Int) 16)).toNat b)) (Jhn (Jgj key) nonce (List.take ((Jby (b.length : Int) 16)).toNat b))
 else fail
 else fail
 else fail
 else fail
 else fail
 else fail
 else fail
def Jma {X : Type} (F : Nat) (fail : X) (next ex0 ex1 : ZB → ZB → Bool → Int → Int → X) (s1 s2 : ZB) (s4 : Bool) (s12 s13 : Int) : X :=
 bif (decide (s13 < s12)) then
  bif ((decide (0 ≤ s13)) && (decide (s13 < (s1.length : Int)))) then
  bif ((decide (0 ≤ s13)) && (decide (s13 < (s2.length : Int)))) then
  bif (((((List.getD s1 (s13).toNat 0)).toNat : Nat) : Int) != ((((List.getD s2 (s13).toNat 0)).toNat : Nat) : Int)) then
   ex0 s1 s2 false s12 s13
  else
  next s1 s2 s4 s12 (Jag s13 1)
  else fail
  else fail
 else
 ex1 s1 s2 s4 s12 s13
def Jgg {X : Type} (F : Nat) (fail : X) (ex0 ex1 : ZB → ZB → Bool → Int → Int → X) : Nat → ZB → ZB → Bool → Int → Int → X
 | 0, _, _, _, _, _ => fail
 | m + 1, s1, s2, s4, s12, s13 => Jma F fail (Jgg F fail ex0 ex1 m) ex0 ex1 s1 s2 s4 s12 s13
def J4i {X : Type} (F : Nat) (s1 s2 : ZB) (fail : X) (ret : Bool → X) : X :=
 bif ((s1.length : Int) != (s2.length : Int)) then
  ret false
 else
 Jgg F fail
  (fun s11 s21 s4 s12 s13 =>
   ret s4)
  (fun s14 s22 s41 s121 s131 =>
   ret true)
  F s1 s2 false (s1.length : Int) 0
def Ql8 {X : Type} (F : Nat) (key : ZB) (fail : X) (ret : ZB → ZB → X) : X :=
 bif (J1e key ([101, 110, 99, 114, 121, 112, 116] : ZB)) then
 bif (J1e key ([97, 117, 116, 104, 101, 110, 116, 105, 99, 97, 116, 101] : ZB)) then
 ret (Kid key ([101, 110, 99, 114, 121, 112, 116] : ZB)) (Kid key ([97, 117, 116, 104, 101, 110, 116, 105, 99, 97, 116, 101] : ZB))
 else fail
 else fail
def Kl2 {X : Type} (F : Nat) (fail : X) (next ex0 : Int → ZB → Int → ZB → ZB → X) (nonce : Int) (b : ZB) (i : Int) (key k : ZB) : X :=
 bif (decide (i < 32)) then
  bif ((decide (0 ≤ i)) && (decide (i < (32 : Int)))) then
  bif (decide ((k ++ ([(List.getD key (i).toNat (0 : UInt8))] : ZB)).length ≤ big)) then
  next nonce b (Jag i (1 : Int)) key (k ++ ([(List.getD key (i).toNat (0 : UInt8))] : ZB))
  else fail
  else fail
 else
 ex0 nonce b i key k
def Jw3 {X : Type} (F : Nat) (fail : X) (ex0 : Int → ZB → Int → ZB → ZB → X) : Nat → Int → ZB → Int → ZB → ZB → X
 | 0, _, _, _, _, _ => fail
 | m + 1, nonce, b, i, key, k => Kl2 F fail (Jw3 F fail ex0 m) ex0 nonce b i key k
def Kl3 {X : Type} (F : Nat) (fail : X) (next ex0 : Int → ZB → ZB → X) (i : Int) (d_ out : ZB) : X :=
 bif (decide (i < 16)) then
  bif ((decide (0 ≤ i)) && (decide (i < (32 : Int)))) then
  bif (decide ((out ++ ([(List.getD d_ (i).toNat (0 : UInt8))] : ZB)).length ≤ big)) then
  next (Jag i (1 : Int)) d_ (out ++ ([(List.getD d_ (i).toNat (0 : UInt8))] : ZB))
  else fail
  else fail
 else
 ex0 i d_ out
def Jw4 {X : Type} (F : Nat) (fail : X) (ex0 : Int → ZB → ZB → X) : Nat → Int → ZB → ZB → X
 | 0, _, _, _ => fail
 | m + 1, i, d_, out => Kl3 F fail (Jw4 F fail ex0 m) ex0 i d_ out
def rTag {X : Type} (F : Nat) (key : ZB) (nonce : Int) (b : ZB) (fail : X) (ret : ZB → X) : X :=
 Jw3 F fail
  (fun nonce1 b1 i Jtr k =>
   bif (Jnj nonce1 8) then
   bif (decide (((Jjo nonce1 (8 : Int)) ++ b1).length ≤ big)) then
   bif (J1e k ((Jjo nonce1 (8 : Int)) ++ b1)) then
   Jw4 F fail
    (fun i1 d_ out =>
     ret out)
    F (0 : Int) (Kid k ((Jjo nonce1 (8 : Int)) ++ b1)) ([] : ZB)
   else fail
   else fail
   else fail)
  F nonce b 0 key ([] : ZB)
def Ql9 {X : Type} (F : Nat) (key : ZB) (nonce : Int) (b : ZB) (fail : X) (ret : ZB → Int → X) : X :=
 bif (decide ((key.length : Int) < 1)) then
  ret ([] : ZB) 1
 else
 bif (decide ((key.length : Int) > 64)) then
  ret ([] : ZB) 1
 else
 bif (decide ((b.length : Int) > 65536)) then
  ret ([] : ZB) 5
 else
 bif (!(Jjp nonce)) then
  ret ([] : ZB) 2
 else
 bif (decide ((b.length : Int) < 16)) then
  ret ([] : ZB) 9
 else
 bif (J4b key) then
 bif ((decide (0 ≤ (Jby (b.length : Int) 16))) && (decide ((Jby (b.length : Int) 16) ≤ (b.length : Int)))) then
 bif (J6f (Jwn key) nonce (List.take ((Jby (b.length : Int) 16)).toNat b)) then
 bif ((decide (0 ≤ (Jby (b.length : Int) 16))) && (decide ((Jby (b.length : Int) 16) ≤ (b.length : Int)))) then
 bif (!((Kq6 (Jwn key) nonce (List.take ((Jby (b.length : Int) 16)).toNat b)) == (List.drop ((Jby (b.length : Int) 16)).toNat b))) then
  ret ([] : ZB) 25
 else
 bif ((decide (0 ≤ (Jby (b.length : Int) 16))) && (decide ((Jby (b.length : Int) 16) ≤ (b.length : Int)))) then
 bif (J1f (Jrv key) nonce (List.take ((Jby (b.length : Int) 16)).toNat b)) then
 ret (Jp8 (Jrv key) nonce (List.take ((Jby (b.length : Int) 16)).toNat b)) (Jp9 (Jrv key) nonce (List.take ((Jby (b.length : Int) 16)).toNat b))
 else fail
 else fail
 else fail
 else fail
 else fail
 else fail
end Go.AI
namespace Go.AI
open Go
set_option linter.unusedVariables false
def Qma {X : Type} (F : Nat) (x_ : UInt32) (k : Int) (fail : X) (ret : UInt32 → X) : X :=
 ret (orW (Jze x_ (Qon (Kib k) 31)) (Jpy x_ (subU 32 (Qon (Kib k) 31))))
def J13 {X : Type} (F : Nat) (fail : X) (next ex0 : Int → Int → Int → Int → Int → ZB → ZW → ZW → X) (nonce counter i s11 s14 : Int) (key : ZB) (s6 w : ZW) : X :=
 bif (decide (s14 < 4)) then
  bif ((decide (0 ≤ (Jag 4 i))) && (decide ((Jag 4 i) < (16 : Int)))) then
  bif ((decide (0 ≤ (Jag (Je6 4 i) s14))) && (decide ((Jag (Je6 4 i) s14) < (32 : Int)))) then
  bif (decide (0 ≤ (Je6 8 s14))) then
  bif ((decide (0 ≤ (Jag 4 i))) && (decide ((Jag 4 i) < (16 : Int)))) then
  next nonce counter i s11 (Jag s14 1) key s6 (List.set w ((Jag 4 i)).toNat (orW (List.getD w ((Jag 4 i)).toNat 0) (Jze (Jow (List.getD key ((Jag (Je6 4 i) s14)).toNat 0)) (Je6 8 s14))))
  else fail
  else fail
  else fail
  else fail
 else
 ex0 nonce counter i s11 s14 key s6 w
def Jjb {X : Type} (F : Nat) (fail : X) (ex0 : Int → Int → Int → Int → Int → ZB → ZW → ZW → X) : Nat → Int → Int → Int → Int → Int → ZB → ZW → ZW → X
 | 0, _, _, _, _, _, _, _, _ => fail
 | m + 1, nonce, counter, i, s11, s14, key, s6, w => J13 F fail (Jjb F fail ex0 m) ex0 nonce counter i s11 s14 key s6 w
def J14 {X : Type} (F : Nat) (fail : X) (next ex0 : Int → Int → Int → ZB → ZW → ZW → X) (nonce counter s11 : Int) (key : ZB) (s6 w : ZW) : X :=
 bif (decide (s11 < 8)) then
  Jjb F fail
   (fun nonce1 counter1 i s111 s14 Jtr s61 w1 =>
    next nonce1 counter1 (Jag s111 1) Jtr s61 w1)
   F nonce counter s11 s11 0 key s6 w
 else
 ex0 nonce counter s11 key s6 w
def Jmx {X : Type} (F : Nat) (fail : X) (ex0 : Int → Int → Int → ZB → ZW → ZW → X) : Nat → Int → Int → Int → ZB → ZW → ZW → X
 | 0, _, _, _, _, _, _ => fail
 | m + 1, nonce, counter, s11, key, s6, w => J14 F fail (Jmx F fail ex0 m) ex0 nonce counter s11 key s6 w
def Qb5 {X : Type} (F : Nat) (key : ZB) (nonce counter : Int) (fail : X) (ret : ZW → X) : X :=
 Jmx F fail
  (fun nonce1 counter1 s11 Jtr s6 w =>
   ret (List.set (List.set (List.set w 12 (Kia counter1)) 14 (Kia nonce1)) 15 (Kia (Kqz nonce1 32))))
  F nonce counter 0 key ([0, 0, 0, 0, 0, 0, 0, 0, 0, 0, 0, 0, 0, 0, 0, 0] : ZW) ([1634760805, 857760878, 2036477234, 1797285236, 0, 0, 0, 0, 0, 0, 0, 0, 0, 0, 0, 0] : ZW)
def Kl4 {X : Type} (F : Nat) (fail : X) (next ex0 : List (Int × ZL) → Int → Int → Int → ZW → ZW → X) (s30 : List (Int × ZL)) (s31 s7 s9 : Int) (w w1 : ZW) : X :=
 bif (decide (s31 < 4)) then
  bif ((decide (0 ≤ s31)) && (decide (s31 < (4 : Int)))) then
  bif ((decide (0 ≤ (List.getD s30 (s31).toNat (0, (0, (0, (0, ()))))).1)) && (decide ((List.getD s30 (s31).toNat (0, (0, (0, (0, ()))))).1 < (16 : Int)))) then
  bif ((decide (0 ≤ (List.getD s30 (s31).toNat (0, (0, (0, (0, ()))))).2.1)) && (decide ((List.getD s30 (s31).toNat (0, (0, (0, (0, ()))))).2.1 < (16 : Int)))) then
  bif ((decide (0 ≤ (List.getD s30 (s31).toNat (0, (0, (0, (0, ()))))).1)) && (decide ((List.getD s30 (s31).toNat (0, (0, (0, (0, ()))))).1 < (16 : Int)))) then
  bif ((decide (0 ≤ (List.getD s30 (s31).toNat (0, (0, (0, (0, ()))))).2.2.1)) && (decide ((List.getD s30 (s31).toNat (0, (0, (0, (0, ()))))).2.2.1 < (16 : Int)))) then
  bif ((decide (0 ≤ (List.getD s30 (s31).toNat (0, (0, (0, (0, ()))))).1)) && (decide ((List.getD s30 (s31).toNat (0, (0, (0, (0, ()))))).1 < (16 : Int)))) then
  bif (J39 (Jgq (List.getD (List.set w ((List.getD s30 (s31).toNat (0, (0, (0, (0, ()))))).1).toNat (Jbp (List.getD w ((List.getD s30 (s31).toNat (0, (0, (0, (0, ()))))).1).toNat 0) (List.getD w ((List.getD s30 (s31).toNat (0, (0, (0, (0, ()))))).2.1).toNat 0))) ((List.getD s30 (s31).toNat (0, (0, (0, (0, ()))))).2.2.1).toNat 0) (List.getD (List.set w ((List.getD s30 (s31).toNat (0, (0, (0, (0, ()))))).1).toNat (Jbp (List.getD w ((List.getD s30 (s31).toNat (0, (0, (0, (0, ()))))).1).toNat 0) (List.getD w ((List.getD s30 (s31).toNat (0, (0, (0, (0, ()))))).2.1).toNat 0))) ((List.getD s30 (s31).toNat (0, (0, (0, (0, ()))))).1).toNat 0)) (List.getD s30 (s31).toNat (0, (0, (0, (0, ()))))).2.2.2.1) then
  bif ((decide (0 ≤ (List.getD s30 (s31).toNat (0, (0, (0, (0, ()))))).2.2.1)) && (decide ((List.getD s30 (s31).toNat (0, (0, (0, (0, ()))))).2.2.1 < (16 : Int)))) then
  next s30 (Jag s31 1) s7 s9 (List.set (List.set w ((List.getD s30 (s31).toNat (0, (0, (0, (0, ()))))).1).toNat (Jbp (List.getD w ((List.getD s30 (s31).toNat (0, (0, (0, (0, ()))))).1).toNat 0) (List.getD w ((List.getD s30 (s31).toNat (0, (0, (0, (0, ()))))).2.1).toNat 0))) ((List.getD s30 (s31).toNat (0, (0, (0, (0, ()))))).2.2.1).toNat (Kay (Jgq (List.getD (List.set w ((List.getD s30 (s31).toNat (0, (0, (0, (0, ()))))).1).toNat (Jbp (List.getD w ((List.getD s30 (s31).toNat (0, (0, (0, (0, ()))))).1).toNat 0) (List.getD w ((List.getD s30 (s31).toNat (0, (0, (0, (0, ()))))).2.1).toNat 0))) ((List.getD s30 (s31).toNat (0, (0, (0, (0, ()))))).2.2.1).toNat 0) (List.getD (List.set w ((List.getD s30 (s31).toNat (0, (0, (0, (0, ()))))).1).toNat (Jbp (List.getD w ((List.getD s30 (s31).toNat (0, (0, (0, (0, ()))))).1).toNat 0) (List.getD w ((List.getD s30 (s31).toNat (0, (0, (0, (0, ()))))).2.1).toNat 0))) ((List.getD s30 (s31).toNat (0, (0, (0, (0, ()))))).1).toNat 0)) (List.getD s30 (s31).toNat (0, (0, (0, (0, ()))))).2.2.2.1)) w1
  else fail
  else fail
  else fail
  else fail
  else fail
  else fail
  else fail
  else fail
 else
 ex0 s30 s31 s7 s9 w w1
def Jmb {X : Type} (F : Nat) (fail : X) (ex0 : List (Int × ZL) → Int → Int → Int → ZW → ZW → X) : Nat → List (Int × ZL) → Int → Int → Int → ZW → ZW → X
 | 0, _, _, _, _, _, _ => fail
 | m + 1, s30, s31, s7, s9, w, w1 => Kl4 F fail (Jmb F fail ex0 m) ex0 s30 s31 s7 s9 w w1
def Kl5 {X : Type} (F : Nat) (fail : X) (next ex0 : Int → Int → ZW → ZW → X) (s7 s9 : Int) (change w : ZW) : X :=
 bif (decide (s9 < 4)) then
  Jmb F fail
   (fun s30 s31 s71 s91 w1 w2 =>
    next s71 (Jag s91 1) w1 w2)
   F ([(s9, ((Jag 4 s9), ((Jag 12 s9), (16, ())))), ((Jag 8 s9), ((Jag 12 s9), ((Jag 4 s9), (12, ())))), (s9, ((Jag 4 s9), ((Jag 12 s9), (8, ())))), ((Jag 8 s9), ((Jag 12 s9), ((Jag 4 s9), (7, ()))))] : List (Int × ZL)) 0 s7 s9 change w
 else
 ex0 s7 s9 change w
def Jsa {X : Type} (F : Nat) (fail : X) (ex0 : Int → Int → ZW → ZW → X) : Nat → Int → Int → ZW → ZW → X
 | 0, _, _, _, _ => fail
 | m + 1, s7, s9, change, w => Kl5 F fail (Jsa F fail ex0 m) ex0 s7 s9 change w
def Kl6 {X : Type} (F : Nat) (fail : X) (next ex0 : List (Int × ZL) → Int → Int → Int → ZW → ZW → X) (s30 : List (Int × ZL)) (s31 s7 s22 : Int) (w w1 : ZW) : X :=
 bif (decide (s31 < 4)) then
  bif ((decide (0 ≤ s31)) && (decide (s31 < (4 : Int)))) then
  bif ((decide (0 ≤ (List.getD s30 (s31).toNat (0, (0, (0, (0, ()))))).1)) && (decide ((List.getD s30 (s31).toNat (0, (0, (0, (0, ()))))).1 < (16 : Int)))) then
  bif ((decide (0 ≤ (List.getD s30 (s31).toNat (0, (0, (0, (0, ()))))).2.1)) && (decide ((List.getD s30 (s31).toNat (0, (0, (0, (0, ()))))).2.1 < (16 : Int)))) then
  bif ((decide (0 ≤ (List.getD s30 (s31).toNat (0, (0, (0, (0, ()))))).1)) && (decide ((List.getD s30 (s31).toNat (0, (0, (0, (0, ()))))).1 < (16 : Int)))) then
  bif ((decide (0 ≤ (List.getD s30 (s31).toNat (0, (0, (0, (0, ()))))).2.2.1)) && (decide ((List.getD s30 (s31).toNat (0, (0, (0, (0, ()))))).2.2.1 < (16 : Int)))) then
  bif ((decide (0 ≤ (List.getD s30 (s31).toNat (0, (0, (0, (0, ()))))).1)) && (decide ((List.getD s30 (s31).toNat (0, (0, (0, (0, ()))))).1 < (16 : Int)))) then
  bif (J39 (Jgq (List.getD (List.set w ((List.getD s30 (s31).toNat (0, (0, (0, (0, ()))))).1).toNat (Jbp (List.getD w ((List.getD s30 (s31).toNat (0, (0, (0, (0, ()))))).1).toNat 0) (List.getD w ((List.getD s30 (s31).toNat (0, (0, (0, (0, ()))))).2.1).toNat 0))) ((List.getD s30 (s31).toNat (0, (0, (0, (0, ()))))).2.2.1).toNat 0) (List.getD (List.set w ((List.getD s30 (s31).toNat (0, (0, (0, (0, ()))))).1).toNat (Jbp (List.getD w ((List.getD s30 (s31).toNat (0, (0, (0, (0, ()))))).1).toNat 0) (List.getD w ((List.getD s30 (s31).toNat (0, (0, (0, (0, ()))))).2.1).toNat 0))) ((List.getD s30 (s31).toNat (0, (0, (0, (0, ()))))).1).toNat 0)) (List.getD s30 (s31).toNat (0, (0, (0, (0, ()))))).2.2.2.1) then
  bif ((decide (0 ≤ (List.getD s30 (s31).toNat (0, (0, (0, (0, ()))))).2.2.1)) && (decide ((List.getD s30 (s31).toNat (0, (0, (0, (0, ()))))).2.2.1 < (16 : Int)))) then
  next s30 (Jag s31 1) s7 s22 (List.set (List.set w ((List.getD s30 (s31).toNat (0, (0, (0, (0, ()))))).1).toNat (Jbp (List.getD w ((List.getD s30 (s31).toNat (0, (0, (0, (0, ()))))).1).toNat 0) (List.getD w ((List.getD s30 (s31).toNat (0, (0, (0, (0, ()))))).2.1).toNat 0))) ((List.getD s30 (s31).toNat (0, (0, (0, (0, ()))))).2.2.1).toNat (Kay (Jgq (List.getD (List.set w ((List.getD s30 (s31).toNat (0, (0, (0, (0, ()))))).1).toNat (Jbp (List.getD w ((List.getD s30 (s31).toNat (0, (0, (0, (0, ()))))).1).toNat 0) (List.getD w ((List.getD s30 (s31).toNat (0, (0, (0, (0, ()))))).2.1).toNat 0))) ((List.getD s30 (s31).toNat (0, (0, (0, (0, ()))))).2.2.1).toNat 0) (List.getD (List.set w ((List.getD s30 (s31).toNat (0, (0, (0, (0, ()))))).1).toNat (Jbp (List.getD w ((List.getD s30 (s31).toNat (0, (0, (0, (0, ()))))).1).toNat 0) (List.getD w ((List.getD s30 (s31).toNat (0, (0, (0, (0, ()))))).2.1).toNat 0))) ((List.getD s30 (s31).toNat (0, (0, (0, (0, ()))))).1).toNat 0)) (List.getD s30 (s31).toNat (0, (0, (0, (0, ()))))).2.2.2.1)) w1
  else fail
  else fail
  else fail
  else fail
  else fail
  else fail
  else fail
  else fail
 else
 ex0 s30 s31 s7 s22 w w1
def Jmc {X : Type} (F : Nat) (fail : X) (ex0 : List (Int × ZL) → Int → Int → Int → ZW → ZW → X) : Nat → List (Int × ZL) → Int → Int → Int → ZW → ZW → X
 | 0, _, _, _, _, _, _ => fail
 | m + 1, s30, s31, s7, s22, w, w1 => Kl6 F fail (Jmc F fail ex0 m) ex0 s30 s31 s7 s22 w w1
def Kl7 {X : Type} (F : Nat) (fail : X) (next ex0 : Int → Int → ZW → ZW → X) (s7 s22 : Int) (change w : ZW) : X :=
 bif (decide (s22 < 4)) then
  Jmc F fail
   (fun s30 s31 s71 s221 w1 w2 =>
    next s71 (Jag s221 1) w1 w2)
   F ([(s22, ((Jag 4 (Jcg (Jag s22 1) 4)), ((Jag 12 (Jcg (Jag s22 3) 4)), (16, ())))), ((Jag 8 (Jcg (Jag s22 2) 4)), ((Jag 12 (Jcg (Jag s22 3) 4)), ((Jag 4 (Jcg (Jag s22 1) 4)), (12, ())))), (s22, ((Jag 4 (Jcg (Jag s22 1) 4)), ((Jag 12 (Jcg (Jag s22 3) 4)), (8, ())))), ((Jag 8 (Jcg (Jag s22 2) 4)), ((Jag 12 (Jcg (Jag s22 3) 4)), ((Jag 4 (Jcg (Jag s22 1) 4)), (7, ()))))] : List (Int × ZL)) 0 s7 s22 change w
 else
 ex0 s7 s22 change w
def Jsb {X : Type} (F : Nat) (fail : X) (ex0 : Int → Int → ZW → ZW → X) : Nat → Int → Int → ZW → ZW → X
 | 0, _, _, _, _ => fail
 | m + 1, s7, s22, change, w => Kl7 F fail (Jsb F fail ex0 m) ex0 s7 s22 change w
def Kl8 {X : Type} (F : Nat) (fail : X) (next ex0 : Int → ZW → ZW → X) (s7 : Int) (change w : ZW) : X :=
 bif (decide (s7 < 10)) then
  Jsa F fail
   (fun s71 s9 change1 w1 =>
    Jsb F fail
     (fun s72 s22 change2 w2 =>
      next (Jag s72 1) change2 w2)
     F s71 0 change1 w1)
   F s7 0 change w
 else
 ex0 s7 change w
def Jw5 {X : Type} (F : Nat) (fail : X) (ex0 : Int → ZW → ZW → X) : Nat → Int → ZW → ZW → X
 | 0, _, _, _ => fail
 | m + 1, s7, change, w => Kl8 F fail (Jw5 F fail ex0 m) ex0 s7 change w
def Kl9 {X : Type} (F : Nat) (fail : X) (next ex0 : ZW → Int → ZW → ZB → X) (s18 : ZW) (s19 : Int) (w : ZW) (out : ZB) : X :=
 bif (decide (s19 < 16)) then
  bif ((decide (0 ≤ s19)) && (decide (s19 < (16 : Int)))) then
  bif ((decide (0 ≤ s19)) && (decide (s19 < (16 : Int)))) then
  bif (decide ((out ++ ([(J7d (Jbp (List.getD s18 (s19).toNat (0 : UInt32)) (List.getD w (s19).toNat (0 : UInt32)))), (J7d (Jpy (Jbp (List.getD s18 (s19).toNat (0 : UInt32)) (List.getD w (s19).toNat (0 : UInt32))) (8 : Int))), (J7d (Jpy (Jbp (List.getD s18 (s19).toNat (0 : UInt32)) (List.getD w (s19).toNat (0 : UInt32))) (16 : Int))), (J7d (Jpy (Jbp (List.getD s18 (s19).toNat (0 : UInt32)) (List.getD w (s19).toNat (0 : UInt32))) (24 : Int)))] : ZB)).length ≤ big)) then
  next s18 (Jag s19 (1 : Int)) w (out ++ ([(J7d (Jbp (List.getD s18 (s19).toNat (0 : UInt32)) (List.getD w (s19).toNat (0 : UInt32)))), (J7d (Jpy (Jbp (List.getD s18 (s19).toNat (0 : UInt32)) (List.getD w (s19).toNat (0 : UInt32))) (8 : Int))), (J7d (Jpy (Jbp (List.getD s18 (s19).toNat (0 : UInt32)) (List.getD w (s19).toNat (0 : UInt32))) (16 : Int))), (J7d (Jpy (Jbp (List.getD s18 (s19).toNat (0 : UInt32)) (List.getD w (s19).toNat (0 : UInt32))) (24 : Int)))] : ZB))
  else fail
  else fail
  else fail
 else
 ex0 s18 s19 w out
def Jw6 {X : Type} (F : Nat) (fail : X) (ex0 : ZW → Int → ZW → ZB → X) : Nat → ZW → Int → ZW → ZB → X
 | 0, _, _, _, _ => fail
 | m + 1, s18, s19, w, out => Kl9 F fail (Jw6 F fail ex0 m) ex0 s18 s19 w out
def cBlk {X : Type} (F : Nat) (key : ZB) (nonce counter : Int) (fail : X) (ret : ZB → X) : X :=
 bif (J8t key nonce counter) then
 Jw5 F fail
  (fun s7 change w =>
   Jw6 F fail
    (fun s18 s19 w1 out =>
     ret out)
    F change 0 w ([] : ZB))
  F 0 (J8u key nonce counter) (J8u key nonce counter)
 else fail
def Qb6 {X : Type} (F : Nat) (nonce : Int) (fail : X) (ret : Bool → X) : X :=
 bif (decide (nonce ≥ 0)) then
  ret (decide (nonce ≤ 9007199254740991))
 else
 ret false
def Jw7 {X : Type} (F : Nat) (fail : X) (next ex0 : Nat → Nat → Int → Int → Int → ZB → Int → Int → ZB → ZB → ZB → Int → Int → X) (part_i part_n : Nat) (s31 s32 i : Int) (b : ZB) (s7 counter : Int) (part s key : ZB) (nonce s2 : Int) : X :=
 bif (decide (s32 < s31)) then
  bif ((decide (0 ≤ s32)) && (decide (s32 < ((part_n : Nat) : Int)))) then
  bif ((decide (0 ≤ s32)) && (decide (s32 < (s.length : Int)))) then
  bif ((decide (0 ≤ s32)) && (decide (s32 < ((part_n : Nat) : Int)))) then
  next part_i part_n s31 (Jag s32 1) i b s7 counter (List.set part (part_i + (s32).toNat) (Jtq (List.getD part (part_i + (s32).toNat) 0) (List.getD s (s32).toNat 0))) s key nonce s2
  else fail
  else fail
  else fail
 else
 ex0 part_i part_n s31 s32 i b s7 counter part s key nonce s2
def Jkf {X : Type} (F : Nat) (fail : X) (ex0 : Nat → Nat → Int → Int → Int → ZB → Int → Int → ZB → ZB → ZB → Int → Int → X) : Nat → Nat → Nat → Int → Int → Int → ZB → Int → Int → ZB → ZB → ZB → Int → Int → X
 | 0, _, _, _, _, _, _, _, _, _, _, _, _, _ => fail
 | m + 1, part_i, part_n, s31, s32, i, b, s7, counter, part, s, key, nonce, s2 => Jw7 F fail (Jkf F fail ex0 m) ex0 part_i part_n s31 s32 i b s7 counter part s key nonce s2
def Jql {X : Type} (F : Nat) (fail : X) (next ex0 : Int → ZB → Int → ZB → Int → Int → ZB → Int → X) (i : Int) (b : ZB) (s7 : Int) (key : ZB) (nonce counter : Int) (out : ZB) (s2 : Int) : X :=
 bif (decide (i < (out.length : Int))) then
  bif ((decide (0 ≤ i)) && (decide (i ≤ (out.length : Int)))) then
  bif ((((decide (0 ≤ i)) && (decide (i ≤ (Jag i (Kle s2 (((out.length - (i).toNat) : Nat) : Int)))))) && (decide ((Jag i (Kle s2 (((out.length - (i).toNat) : Nat) : Int))) ≤ (out.length : Int)))) && ((Jag i (Kle s2 (((out.length - (i).toNat) : Nat) : Int))) == (Jag i (Kle s2 (((out.length - (i).toNat) : Nat) : Int))))) then
  bif (K32 key nonce counter) then
  Jkf F fail
   (fun part_i part_n s31 s32 i1 b1 s71 counter1 part s Jtr nonce1 s21 =>
    next (Jag i1 s21) b1 s71 Jtr nonce1 (Jag counter1 1) part s21)
   F (i).toNat (((Jag i (Kle s2 (((out.length - (i).toNat) : Nat) : Int)))).toNat - (i).toNat) (((((Jag i (Kle s2 (((out.length - (i).toNat) : Nat) : Int)))).toNat - (i).toNat) : Nat) : Int) 0 i b s7 counter out (K33 key nonce counter) key nonce s2
  else fail
  else fail
  else fail
 else
 ex0 i b s7 key nonce counter out s2
def Jid {X : Type} (F : Nat) (fail : X) (ex0 : Int → ZB → Int → ZB → Int → Int → ZB → Int → X) : Nat → Int → ZB → Int → ZB → Int → Int → ZB → Int → X
 | 0, _, _, _, _, _, _, _, _ => fail
 | m + 1, i, b, s7, key, nonce, counter, out, s2 => Jql F fail (Jid F fail ex0 m) ex0 i b s7 key nonce counter out s2
def Kyk {X : Type} (F : Nat) (key : ZB) (nonce : Int) (b : ZB) (fail : X) (ret : ZB → Int → X) : X :=
 bif (decide ((b.length : Int) > 65536)) then
  ret ([] : ZB) 5
 else
 bif (!(Jrs nonce)) then
  ret ([] : ZB) 2
 else
 bif (Jbq b) then
 Jid F fail
  (fun i b1 s7 Jtr nonce1 counter out s2 =>
   ret out 0)
  F 0 b 0 key nonce 1 (Jcj b) 64
 else fail
def J83 {X : Type} (F : Nat) (fail : X) (next ex0 : UInt32 → Int → Int → X) (x_ : UInt32) (n i : Int) : X :=
 bif (decide (i < n)) then
  next (Jbp (K9l 2 x_) (quoW x_ 2147483648)) n (Jag i 1)
 else
 ex0 x_ n i
def Jqm {X : Type} (F : Nat) (fail : X) (ex0 : UInt32 → Int → Int → X) : Nat → UInt32 → Int → Int → X
 | 0, _, _, _ => fail
 | m + 1, x_, n, i => J83 F fail (Jqm F fail ex0 m) ex0 x_ n i
def Qmb {X : Type} (F : Nat) (x_ : UInt32) (n : Int) (fail : X) (ret : UInt32 → X) : X :=
 Jqm F fail
  (fun x_1 n1 i =>
   ret x_1)
  F x_ n 0
def J15 {X : Type} (F : Nat) (fail : X) (next ex0 : Int → Int → Int → ZB → ZW → X) (nonce counter i : Int) (key : ZB) (w : ZW) : X :=
 bif (decide (i < 8)) then
  bif ((decide (0 ≤ (Je6 4 i))) && (decide ((Je6 4 i) < (32 : Int)))) then
  bif ((decide ((0 : Int) ≤ (Jag (Je6 (4 : Int) i) (1 : Int)))) && (decide ((Jag (Je6 (4 : Int) i) (1 : Int)) < ((32 : Nat) : Int)))) then
  bif ((decide ((0 : Int) ≤ (Jag (Je6 (4 : Int) i) (2 : Int)))) && (decide ((Jag (Je6 (4 : Int) i) (2 : Int)) < ((32 : Nat) : Int)))) then
  bif ((decide ((0 : Int) ≤ (Jag (Je6 (4 : Int) i) (3 : Int)))) && (decide ((Jag (Je6 (4 : Int) i) (3 : Int)) < ((32 : Nat) : Int)))) then
  bif (decide ((w ++ ([(Jbp (Jbp (Jbp (Jow (List.getD key ((Je6 (4 : Int) i)).toNat (0 : UInt8))) (K9l (256 : UInt32) (Jow (List.getD key ((Jag (Je6 (4 : Int) i) (1 : Int))).toNat (0 : UInt8))))) (K9l (65536 : UInt32) (Jow (List.getD key ((Jag (Je6 (4 : Int) i) (2 : Int))).toNat (0 : UInt8))))) (K9l (16777216 : UInt32) (Jow (List.getD key ((Jag (Je6 (4 : Int) i) (3 : Int))).toNat (0 : UInt8)))))] : ZW)).length ≤ big)) then
  next nonce counter (Jag i (1 : Int)) key (w ++ ([(Jbp (Jbp (Jbp (Jow (List.getD key ((Je6 (4 : Int) i)).toNat (0 : UInt8))) (K9l (256 : UInt32) (Jow (List.getD key ((Jag (Je6 (4 : Int) i) (1 : Int))).toNat (0 : UInt8))))) (K9l (65536 : UInt32) (Jow (List.getD key ((Jag (Je6 (4 : Int) i) (2 : Int))).toNat (0 : UInt8))))) (K9l (16777216 : UInt32) (Jow (List.getD key ((Jag (Je6 (4 : Int) i) (3 : Int))).toNat (0 : UInt8)))))] : ZW))
  else fail
  else fail
  else fail
  else fail
  else fail
 else
 ex0 nonce counter i key w
def Jmy {X : Type} (F : Nat) (fail : X) (ex0 : Int → Int → Int → ZB → ZW → X) : Nat → Int → Int → Int → ZB → ZW → X
 | 0, _, _, _, _, _ => fail
 | m + 1, nonce, counter, i, key, w => J15 F fail (Jmy F fail ex0 m) ex0 nonce counter i key w
def Qb7 {X : Type} (F : Nat) (key : ZB) (nonce counter : Int) (fail : X) (ret : ZW → X) : X :=
 Jmy F fail
  (fun nonce1 counter1 i Jtr w =>
   bif (decide ((w ++ ([(Kia counter1), (0 : UInt32), (Kia (Jcg nonce1 (4294967296 : Int))), (Kia (Jzd nonce1 (4294967296 : Int)))] : ZW)).length ≤ big)) then
   ret (w ++ ([(Kia counter1), (0 : UInt32), (Kia (Jcg nonce1 (4294967296 : Int))), (Kia (Jzd nonce1 (4294967296 : Int)))] : ZW))
   else fail)
  F nonce counter 0 key ([1634760805, 857760878, 2036477234, 1797285236] : ZW)
def Jw8 {X : Type} (F : Nat) (fail : X) (next ex0 : Int → Int → Int → ZB → X) (n bytes i : Int) (out : ZB) : X :=
 bif (decide (i < bytes)) then
  bif (decide ((out ++ ([(Kfc (Jcg n (256 : Int)))] : ZB)).length ≤ big)) then
  next (Jzd n (256 : Int)) bytes (Jag i (1 : Int)) (out ++ ([(Kfc (Jcg n (256 : Int)))] : ZB))
  else fail
 else
 ex0 n bytes i out
def Jkg {X : Type} (F : Nat) (fail : X) (ex0 : Int → Int → Int → ZB → X) : Nat → Int → Int → Int → ZB → X
 | 0, _, _, _, _ => fail
 | m + 1, n, bytes, i, out => Jw8 F fail (Jkg F fail ex0 m) ex0 n bytes i out
def Kyl {X : Type} (F : Nat) (n bytes : Int) (fail : X) (ret : ZB → X) : X :=
 Jkg F fail
  (fun n1 bytes1 i out =>
   ret out)
  F n bytes 0 ([] : ZB)
def Kym {X : Type} (F : Nat) (n : Int) (fail : X) (ret : Bool → X) : X :=
 bif (decide (n ≥ 0)) then
  ret (decide (n ≤ 9007199254740991))
 else
 ret false
def Jfo (k : Int) (w : ZW) := (List.set (List.set w (k).toNat (Jbp (List.getD w (k).toNat 0) (List.getD w ((Jag 4 k)).toNat 0))) ((Jag 12 k)).toNat (Jj8 (Jgq (List.getD (List.set w (k).toNat (Jbp (List.getD w (k).toNat 0) (List.getD w ((Jag 4 k)).toNat 0))) ((Jag 12 k)).toNat 0) (List.getD (List.set w (k).toNat (Jbp (List.getD w (k).toNat 0) (List.getD w ((Jag 4 k)).toNat 0))) (k).toNat 0)) 16))
def Jo6 (k : Int) (w : ZW) := ((decide (0 ≤ (Jag 8 k))) && (decide ((Jag 8 k) < (((Jfo k w).length : Nat) : Int))))
def Jfp (k : Int) (w : ZW) := (List.set (Jfo k w) ((Jag 8 k)).toNat (Jbp (List.getD (Jfo k w) ((Jag 8 k)).toNat 0) (List.getD (Jfo k w) ((Jag 12 k)).toNat 0)))
def Jo7 (k : Int) (w : ZW) := ((decide (0 ≤ (Jag 4 k))) && (decide ((Jag 4 k) < (((Jfp k w).length : Nat) : Int))))
def Jun (k : Int) (w : ZW) := (Jgq (List.getD (Jfp k w) ((Jag 4 k)).toNat 0) (List.getD (Jfp k w) ((Jag 8 k)).toNat 0))
def Jfq (k : Int) (w : ZW) := (List.set (Jfp k w) ((Jag 4 k)).toNat (Jj8 (Jun k w) 12))
def Jo8 (k : Int) (w : ZW) := ((decide (0 ≤ k)) && (decide (k < (((Jfq k w).length : Nat) : Int))))
def Jfr (k : Int) (w : ZW) := (List.set (Jfq k w) (k).toNat (Jbp (List.getD (Jfq k w) (k).toNat 0) (List.getD (Jfq k w) ((Jag 4 k)).toNat 0)))
def Jo9 (k : Int) (w : ZW) := ((decide (0 ≤ (Jag 12 k))) && (decide ((Jag 12 k) < (((Jfr k w).length : Nat) : Int))))
def Jsc (k : Int) (w : ZW) := (Jgq (List.getD (Jfr k w) ((Jag 12 k)).toNat 0) (List.getD (Jfr k w) (k).toNat 0))
def Jev (k : Int) (w : ZW) := (List.set (Jfr k w) ((Jag 12 k)).toNat (Jj8 (Jsc k w) 8))
def Jmd (k : Int) (w : ZW) := ((decide (0 ≤ (Jag 8 k))) && (decide ((Jag 8 k) < (((Jev k w).length : Nat) : Int))))
def Jd2 (k : Int) (w : ZW) := (List.set (Jev k w) ((Jag 8 k)).toNat (Jbp (List.getD (Jev k w) ((Jag 8 k)).toNat 0) (List.getD (Jev k w) ((Jag 12 k)).toNat 0)))
def Jme (k : Int) (w : ZW) := ((decide (0 ≤ (Jag 4 k))) && (decide ((Jag 4 k) < (((Jd2 k w).length : Nat) : Int))))
def Jmf (k : Int) (w : ZW) := (Jgq (List.getD (Jd2 k w) ((Jag 4 k)).toNat 0) (List.getD (Jd2 k w) ((Jag 8 k)).toNat 0))
def J16 {X : Type} (F : Nat) (fail : X) (next ex0 : Int → Int → ZW → ZW → X) (i k : Int) (before w : ZW) : X :=
 bif (decide (k < 4)) then
  bif ((decide (0 ≤ k)) && (decide (k < (w.length : Int)))) then
  bif ((decide (0 ≤ (Jag 4 k))) && (decide ((Jag 4 k) < (w.length : Int)))) then
  bif ((decide (0 ≤ k)) && (decide (k < (w.length : Int)))) then
  bif ((decide (0 ≤ (Jag 12 k))) && (decide ((Jag 12 k) < (((List.set w (k).toNat (Jbp (List.getD w (k).toNat 0) (List.getD w ((Jag 4 k)).toNat 0))).length : Nat) : Int)))) then
  bif ((decide (0 ≤ k)) && (decide (k < (((List.set w (k).toNat (Jbp (List.getD w (k).toNat 0) (List.getD w ((Jag 4 k)).toNat 0))).length : Nat) : Int)))) then
  bif (Jib (Jgq (List.getD (List.set w (k).toNat (Jbp (List.getD w (k).toNat 0) (List.getD w ((Jag 4 k)).toNat 0))) ((Jag 12 k)).toNat 0) (List.getD (List.set w (k).toNat (Jbp (List.getD w (k).toNat 0) (List.getD w ((Jag 4 k)).toNat 0))) (k).toNat 0)) 16) then
  bif ((decide (0 ≤ (Jag 12 k))) && (decide ((Jag 12 k) < (((List.set w (k).toNat (Jbp (List.getD w (k).toNat 0) (List.getD w ((Jag 4 k)).toNat 0))).length : Nat) : Int)))) then
  bif (Jo6 k w) then
  bif ((decide (0 ≤ (Jag 12 k))) && (decide ((Jag 12 k) < (((Jfo k w).length : Nat) : Int)))) then
  bif (Jo6 k w) then
  bif (Jo7 k w) then
  bif ((decide (0 ≤ (Jag 8 k))) && (decide ((Jag 8 k) < (((Jfp k w).length : Nat) : Int)))) then
  bif (Jib (Jun k w) 12) then
  bif (Jo7 k w) then
  bif (Jo8 k w) then
  bif ((decide (0 ≤ (Jag 4 k))) && (decide ((Jag 4 k) < (((Jfq k w).length : Nat) : Int)))) then
  bif (Jo8 k w) then
  bif (Jo9 k w) then
  bif ((decide (0 ≤ k)) && (decide (k < (((Jfr k w).length : Nat) : Int)))) then
  bif (Jib (Jsc k w) 8) then
  bif (Jo9 k w) then
  bif (Jmd k w) then
  bif ((decide (0 ≤ (Jag 12 k))) && (decide ((Jag 12 k) < (((Jev k w).length : Nat) : Int)))) then
  bif (Jmd k w) then
  bif (Jme k w) then
  bif ((decide (0 ≤ (Jag 8 k))) && (decide ((Jag 8 k) < (((Jd2 k w).length : Nat) : Int)))) then
  bif (Jib (Jmf k w) 7) then
  bif (Jme k w) then
  next i (Jag k 1) before (List.set (Jd2 k w) ((Jag 4 k)).toNat (Jj8 (Jmf k w) 7))
  else fail
  else fail
  else fail
  else fail
  else fail
  else fail
  else fail
  else fail
  else fail
  else fail
  else fail
  else fail
  else fail
  else fail
  else fail
  else fail
  else fail
  else fail
  else fail
  else fail
  else fail
  else fail
  else fail
  else fail
  else fail
  else fail
  else fail
  else fail
 else
 ex0 i k before w
def Jjc {X : Type} (F : Nat) (fail : X) (ex0 : Int → Int → ZW → ZW → X) : Nat → Int → Int → ZW → ZW → X
 | 0, _, _, _, _ => fail
 | m + 1, i, k, before, w => J16 F fail (Jjc F fail ex0 m) ex0 i k before w
def Jfs (k : Int) (w : ZW) := (List.set (List.set w (k).toNat (Jbp (List.getD w (k).toNat 0) (List.getD w ((Jag 4 (Jcg (Jag k 1) 4))).toNat 0))) ((Jag 12 (Jcg (Jag k 3) 4))).toNat (Jj8 (Jgq (List.getD (List.set w (k).toNat (Jbp (List.getD w (k).toNat 0) (List.getD w ((Jag 4 (Jcg (Jag k 1) 4))).toNat 0))) ((Jag 12 (Jcg (Jag k 3) 4))).toNat 0) (List.getD (List.set w (k).toNat (Jbp (List.getD w (k).toNat 0) (List.getD w ((Jag 4 (Jcg (Jag k 1) 4))).toNat 0))) (k).toNat 0)) 16))
def Jpa (k : Int) (w : ZW) := ((decide (0 ≤ (Jag 8 (Jcg (Jag k 2) 4)))) && (decide ((Jag 8 (Jcg (Jag k 2) 4)) < (((Jfs k w).length : Nat) : Int))))
def Jft (k : Int) (w : ZW) := (List.set (Jfs k w) ((Jag 8 (Jcg (Jag k 2) 4))).toNat (Jbp (List.getD (Jfs k w) ((Jag 8 (Jcg (Jag k 2) 4))).toNat 0) (List.getD (Jfs k w) ((Jag 12 (Jcg (Jag k 3) 4))).toNat 0)))
def Jpb (k : Int) (w : ZW) := ((decide (0 ≤ (Jag 4 (Jcg (Jag k 1) 4)))) && (decide ((Jag 4 (Jcg (Jag k 1) 4)) < (((Jft k w).length : Nat) : Int))))
def Juo (k : Int) (w : ZW) := (Jgq (List.getD (Jft k w) ((Jag 4 (Jcg (Jag k 1) 4))).toNat 0) (List.getD (Jft k w) ((Jag 8 (Jcg (Jag k 2) 4))).toNat 0))
def Jfu (k : Int) (w : ZW) := (List.set (Jft k w) ((Jag 4 (Jcg (Jag k 1) 4))).toNat (Jj8 (Juo k w) 12))
def Jpc (k : Int) (w : ZW) := ((decide (0 ≤ k)) && (decide (k < (((Jfu k w).length : Nat) : Int))))
def Jfv (k : Int) (w : ZW) := (List.set (Jfu k w) (k).toNat (Jbp (List.getD (Jfu k w) (k).toNat 0) (List.getD (Jfu k w) ((Jag 4 (Jcg (Jag k 1) 4))).toNat 0)))
def Jpd (k : Int) (w : ZW) := ((decide (0 ≤ (Jag 12 (Jcg (Jag k 3) 4)))) && (decide ((Jag 12 (Jcg (Jag k 3) 4)) < (((Jfv k w).length : Nat) : Int))))
def Jsd (k : Int) (w : ZW) := (Jgq (List.getD (Jfv k w) ((Jag 12 (Jcg (Jag k 3) 4))).toNat 0) (List.getD (Jfv k w) (k).toNat 0))
def Jew (k : Int) (w : ZW) := (List.set (Jfv k w) ((Jag 12 (Jcg (Jag k 3) 4))).toNat (Jj8 (Jsd k w) 8))
def Jmg (k : Int) (w : ZW) := ((decide (0 ≤ (Jag 8 (Jcg (Jag k 2) 4)))) && (decide ((Jag 8 (Jcg (Jag k 2) 4)) < (((Jew k w).length : Nat) : Int))))
def Jd3 (k : Int) (w : ZW) := (List.set (Jew k w) ((Jag 8 (Jcg (Jag k 2) 4))).toNat (Jbp (List.getD (Jew k w) ((Jag 8 (Jcg (Jag k 2) 4))).toNat 0) (List.getD (Jew k w) ((Jag 12 (Jcg (Jag k 3) 4))).toNat 0)))
def Jmh (k : Int) (w : ZW) := ((decide (0 ≤ (Jag 4 (Jcg (Jag k 1) 4)))) && (decide ((Jag 4 (Jcg (Jag k 1) 4)) < (((Jd3 k w).length : Nat) : Int))))
def Jmi (k : Int) (w : ZW) := (Jgq (List.getD (Jd3 k w) ((Jag 4 (Jcg (Jag k 1) 4))).toNat 0) (List.getD (Jd3 k w) ((Jag 8 (Jcg (Jag k 2) 4))).toNat 0))
def J17 {X : Type} (F : Nat) (fail : X) (next ex0 : Int → Int → ZW → ZW → X) (i k : Int) (before w : ZW) : X :=
 bif (decide (k < 4)) then
  bif ((decide (0 ≤ k)) && (decide (k < (w.length : Int)))) then
  bif ((decide (0 ≤ (Jag 4 (Jcg (Jag k 1) 4)))) && (decide ((Jag 4 (Jcg (Jag k 1) 4)) < (w.length : Int)))) then
  bif ((decide (0 ≤ k)) && (decide (k < (w.length : Int)))) then
  bif ((decide (0 ≤ (Jag 12 (Jcg (Jag k 3) 4)))) && (decide ((Jag 12 (Jcg (Jag k 3) 4)) < (((List.set w (k).toNat (Jbp (List.getD w (k).toNat 0) (List.getD w ((Jag 4 (Jcg (Jag k 1) 4))).toNat 0))).length : Nat) : Int)))) then
  bif ((decide (0 ≤ k)) && (decide (k < (((List.set w (k).toNat (Jbp (List.getD w (k).toNat 0) (List.getD w ((Jag 4 (Jcg (Jag k 1) 4))).toNat 0))).length : Nat) : Int)))) then
  bif (Jib (Jgq (List.getD (List.set w (k).toNat (Jbp (List.getD w (k).toNat 0) (List.getD w ((Jag 4 (Jcg (Jag k 1) 4))).toNat 0))) ((Jag 12 (Jcg (Jag k 3) 4))).toNat 0) (List.getD (List.set w (k).toNat (Jbp (List.getD w (k).toNat 0) (List.getD w ((Jag 4 (Jcg (Jag k 1) 4))).toNat 0))) (k).toNat 0)) 16) then
  bif ((decide (0 ≤ (Jag 12 (Jcg (Jag k 3) 4)))) && (decide ((Jag 12 (Jcg (Jag k 3) 4)) < (((List.set w (k).toNat (Jbp (List.getD w (k).toNat 0) (List.getD w ((Jag 4 (Jcg (Jag k 1) 4))).toNat 0))).length : Nat) : Int)))) then
  bif (Jpa k w) then
  bif ((decide (0 ≤ (Jag 12 (Jcg (Jag k 3) 4)))) && (decide ((Jag 12 (Jcg (Jag k 3) 4)) < (((Jfs k w).length : Nat) : Int)))) then
  bif (Jpa k w) then
  bif (Jpb k w) then
  bif ((decide (0 ≤ (Jag 8 (Jcg (Jag k 2) 4)))) && (decide ((Jag 8 (Jcg (Jag k 2) 4)) < (((Jft k w).length : Nat) : Int)))) then
  bif (Jib (Juo k w) 12) then
  bif (Jpb k w) then
  bif (Jpc k w) then
  bif ((decide (0 ≤ (Jag 4 (Jcg (Jag k 1) 4)))) && (decide ((Jag 4 (Jcg (Jag k 1) 4)) < (((Jfu k w).length : Nat) : Int)))) then
  bif (Jpc k w) then
  bif (Jpd k w) then
  bif ((decide (0 ≤ k)) && (decide (k < (((Jfv k w).length : Nat) : Int)))) then
  bif (Jib (Jsd k w) 8) then
  bif (Jpd k w) then
  bif (Jmg k w) then
  bif ((decide (0 ≤ (Jag 12 (Jcg (Jag k 3) 4)))) && (decide ((Jag 12 (Jcg (Jag k 3) 4)) < (((Jew k w).length : Nat) : Int)))) then
  bif (Jmg k w) then
  bif (Jmh k w) then
  bif ((decide (0 ≤ (Jag 8 (Jcg (Jag k 2) 4)))) && (decide ((Jag 8 (Jcg (Jag k 2) 4)) < (((Jd3 k w).length : Nat) : Int)))) then
  bif (Jib (Jmi k w) 7) then
  bif (Jmh k w) then
  next i (Jag k 1) before (List.set (Jd3 k w) ((Jag 4 (Jcg (Jag k 1) 4))).toNat (Jj8 (Jmi k w) 7))
  else fail
  else fail
  else fail
  else fail
  else fail
  else fail
  else fail
  else fail
  else fail
  else fail
  else fail
  else fail
  else fail
  else fail
  else fail
  else fail
  else fail
  else fail
  else fail
  else fail
  else fail
  else fail
  else fail
  else fail
  else fail
  else fail
  else fail
  else fail
 else
 ex0 i k before w
def Jjd {X : Type} (F : Nat) (fail : X) (ex0 : Int → Int → ZW → ZW → X) : Nat → Int → Int → ZW → ZW → X
 | 0, _, _, _, _ => fail
 | m + 1, i, k, before, w => J17 F fail (Jjd F fail ex0 m) ex0 i k before w
def J18 {X : Type} (F : Nat) (fail : X) (next ex0 : Int → ZW → ZW → X) (i : Int) (before w : ZW) : X :=
 bif (decide (i < 10)) then
  Jjc F fail
   (fun i1 k before1 w1 =>
    Jjd F fail
     (fun i2 k1 before2 w2 =>
      next (Jag i2 1) before2 w2)
     F i1 0 before1 w1)
   F i 0 before w
 else
 ex0 i before w
def Jmz {X : Type} (F : Nat) (fail : X) (ex0 : Int → ZW → ZW → X) : Nat → Int → ZW → ZW → X
 | 0, _, _, _ => fail
 | m + 1, i, before, w => J18 F fail (Jmz F fail ex0 m) ex0 i before w
def J19 {X : Type} (F : Nat) (fail : X) (next ex0 : Int → ZW → ZW → ZB → X) (i : Int) (before w : ZW) (out : ZB) : X :=
 bif (decide (i < 16)) then
  bif ((decide (0 ≤ i)) && (decide (i < (w.length : Int)))) then
  bif ((decide (0 ≤ i)) && (decide (i < (before.length : Int)))) then
  bif (Jnj (Qbp (Jbp (List.getD w (i).toNat 0) (List.getD before (i).toNat 0))) 4) then
  bif (decide ((out ++ (Jjo (Qbp (Jbp (List.getD w (i).toNat (0 : UInt32)) (List.getD before (i).toNat (0 : UInt32)))) (4 : Int))).length ≤ big)) then
  next (Jag i (1 : Int)) before w (out ++ (Jjo (Qbp (Jbp (List.getD w (i).toNat (0 : UInt32)) (List.getD before (i).toNat (0 : UInt32)))) (4 : Int)))
  else fail
  else fail
  else fail
  else fail
 else
 ex0 i before w out
def Jm0 {X : Type} (F : Nat) (fail : X) (ex0 : Int → ZW → ZW → ZB → X) : Nat → Int → ZW → ZW → ZB → X
 | 0, _, _, _, _ => fail
 | m + 1, i, before, w, out => J19 F fail (Jm0 F fail ex0 m) ex0 i before w out
def Qb8 {X : Type} (F : Nat) (key : ZB) (nonce counter : Int) (fail : X) (ret : ZB → Int → X) : X :=
 bif (!(Jjp nonce)) then
  ret ([] : ZB) 2
 else
 bif (decide (counter < 0)) then
  ret ([] : ZB) 2
 else
 bif (decide (counter > 4294967295)) then
  ret ([] : ZB) 2
 else
 bif (Jwm key nonce counter) then
 bif (Jwm key nonce counter) then
 Jmz F fail
  (fun i before w =>
   Jm0 F fail
    (fun i1 before1 w1 out =>
     ret out 0)
    F 0 before w ([] : ZB))
  F 0 (J8v key nonce counter) (J8v key nonce counter)
 else fail
 else fail
def Jw9 {X : Type} (F : Nat) (fail : X) (next ex0 : Int → ZB → Int → ZB → ZB → ZB → X) (nonce : Int) (b : ZB) (i : Int) (key out block : ZB) : X :=
 bif (decide (i < (b.length : Int))) then
  bif ((Jcg i (64 : Int)) == (0 : Int)) then
   bif (J8w key nonce (Jag 1 (Jzd i 64))) then
   bif ((decide (0 ≤ i)) && (decide (i < (b.length : Int)))) then
   bif ((decide (0 ≤ (Jcg i 64))) && (decide ((Jcg i 64) < (((Jjq key nonce (Jag 1 (Jzd i 64))).length : Nat) : Int)))) then
   bif (decide ((out ++ ([(Jtq (List.getD b (i).toNat (0 : UInt8)) (List.getD (Jjq key nonce (Jag (1 : Int) (Jzd i (64 : Int)))) ((Jcg i (64 : Int))).toNat (0 : UInt8)))] : ZB)).length ≤ big)) then
   next nonce b (Jag i (1 : Int)) key (out ++ ([(Jtq (List.getD b (i).toNat (0 : UInt8)) (List.getD (Jjq key nonce (Jag (1 : Int) (Jzd i (64 : Int)))) ((Jcg i (64 : Int))).toNat (0 : UInt8)))] : ZB)) (Jjq key nonce (Jag (1 : Int) (Jzd i (64 : Int))))
   else fail
   else fail
   else fail
   else fail
  else
  bif ((decide (0 ≤ i)) && (decide (i < (b.length : Int)))) then
  bif ((decide (0 ≤ (Jcg i 64))) && (decide ((Jcg i 64) < (block.length : Int)))) then
  bif (decide ((out ++ ([(Jtq (List.getD b (i).toNat (0 : UInt8)) (List.getD block ((Jcg i (64 : Int))).toNat (0 : UInt8)))] : ZB)).length ≤ big)) then
  next nonce b (Jag i (1 : Int)) key (out ++ ([(Jtq (List.getD b (i).toNat (0 : UInt8)) (List.getD block ((Jcg i (64 : Int))).toNat (0 : UInt8)))] : ZB)) block
  else fail
  else fail
  else fail
 else
 ex0 nonce b i key out block
def Jkh {X : Type} (F : Nat) (fail : X) (ex0 : Int → ZB → Int → ZB → ZB → ZB → X) : Nat → Int → ZB → Int → ZB → ZB → ZB → X
 | 0, _, _, _, _, _, _ => fail
 | m + 1, nonce, b, i, key, out, block => Jw9 F fail (Jkh F fail ex0 m) ex0 nonce b i key out block
def Kyn {X : Type} (F : Nat) (key : ZB) (nonce : Int) (b : ZB) (fail : X) (ret : ZB → Int → X) : X :=
 bif (decide ((b.length : Int) > 65536)) then
  ret ([] : ZB) 5
 else
 bif (!(Jjp nonce)) then
  ret ([] : ZB) 2
 else
 Jkh F fail
  (fun nonce1 b1 i Jtr out block =>
   ret out 0)
  F nonce b 0 key ([] : ZB) ([] : ZB)
end Go.AI
namespace Go.AI
open Go
set_option linter.unusedVariables false
def J4j {X : Type} (F : Nat) (fail : X) (next ex0 : UInt32 → Int → X) (register : UInt32) (s4 : Int) : X :=
 bif (decide (s4 < 8)) then
  bif (((((J0h register 1)).toNat : Nat) : Int) == 1) then
   next (Jgq (Jpy register 1) 3988292384) (Jag s4 1)
  else
  next (Jpy register 1) (Jag s4 1)
 else
 ex0 register s4
def Jnn {X : Type} (F : Nat) (fail : X) (ex0 : UInt32 → Int → X) : Nat → UInt32 → Int → X
 | 0, _, _ => fail
 | m + 1, register, s4 => J4j F fail (Jnn F fail ex0 m) ex0 register s4
def Kyo {X : Type} (F : Nat) (register : UInt32) (fail : X) (ret : UInt32 → X) : X :=
 Jnn F fail
  (fun register1 s4 =>
   ret register1)
  F register 0
def Kba {X : Type} (F : Nat) (fail : X) (next ex0 : Int → ZW → ZW → X) (s3 : Int) (s0 out : ZW) : X :=
 bif (decide (s3 < 256)) then
  bif (J1g (Kia s3)) then
  bif ((decide (0 ≤ s3)) && (decide (s3 < (256 : Int)))) then
  next (Jag s3 1) s0 (List.set out (s3).toNat (Jld (Kia s3)))
  else fail
  else fail
 else
 ex0 s3 s0 out
def Jqn {X : Type} (F : Nat) (fail : X) (ex0 : Int → ZW → ZW → X) : Nat → Int → ZW → ZW → X
 | 0, _, _, _ => fail
 | m + 1, s3, s0, out => Kba F fail (Jqn F fail ex0 m) ex0 s3 s0 out
def Qb9 {X : Type} (F : Nat) (fail : X) (ret : ZW → X) : X :=
 Jqn F fail
  (fun s3 s0 out =>
   ret out)
  F (0 : Int) (List.replicate 256 (0 : UInt32)) (List.replicate 256 (0 : UInt32))
def Kma {X : Type} (F : Nat) (fail : X) (next ex0 : ZB → Int → Int → UInt32 → UInt32 → UInt32 → ZW → ZB → X) (s5 : ZB) (s6 s7 : Int) (s4 s61 register : UInt32) (t : ZW) (bytes : ZB) : X :=
 bif (decide (s7 < s6)) then
  bif ((decide (0 ≤ s7)) && (decide (s7 < (s5.length : Int)))) then
  bif ((decide (0 ≤ ((((Jtq (J7d register) (List.getD s5 (s7).toNat 0))).toNat : Nat) : Int))) && (decide (((((Jtq (J7d register) (List.getD s5 (s7).toNat 0))).toNat : Nat) : Int) < (256 : Int)))) then
  next s5 s6 (Jag s7 1) s4 s61 (Jgq (Jpy register 8) (List.getD t ((Jtq (J7d register) (List.getD s5 (s7).toNat 0))).toNat 0)) t bytes
  else fail
  else fail
 else
 ex0 s5 s6 s7 s4 s61 register t bytes
def Jxa {X : Type} (F : Nat) (fail : X) (ex0 : ZB → Int → Int → UInt32 → UInt32 → UInt32 → ZW → ZB → X) : Nat → ZB → Int → Int → UInt32 → UInt32 → UInt32 → ZW → ZB → X
 | 0, _, _, _, _, _, _, _, _ => fail
 | m + 1, s5, s6, s7, s4, s61, register, t, bytes => Kma F fail (Jxa F fail ex0 m) ex0 s5 s6 s7 s4 s61 register t bytes
def cUpd {X : Type} (F : Nat) (sum : UInt32) (b : ZB) (fail : X) (ret : UInt32 → X) : X :=
 bif (J8x) then
 Jxa F fail
  (fun s5 s6 s7 s4 s61 register t bytes =>
   ret (Kx3 register))
  F b (b.length : Int) 0 0 (Kx3 sum) (Kx3 sum) (Jl6) b
 else fail
def cSum {X : Type} (F : Nat) (b : ZB) (fail : X) (ret : UInt32 → X) : X :=
 bif (Kq7 0 b) then
 ret (Kig 0 b)
 else fail
def Kyp {X : Type} (F : Nat) (fail : X) (next ex0 : UInt32 → Int → X) (r : UInt32) (i : Int) : X :=
 bif (decide (i < 8)) then
  bif (((((remW r 2)).toNat : Nat) : Int) == 1) then
   next (Jgq (Jpy r 1) 3988292384) (Jag i 1)
  else
  next (Jpy r 1) (Jag i 1)
 else
 ex0 r i
def J2a {X : Type} (F : Nat) (fail : X) (ex0 : UInt32 → Int → X) : Nat → UInt32 → Int → X
 | 0, _, _ => fail
 | m + 1, r, i => Kyp F fail (J2a F fail ex0 m) ex0 r i
def kReg {X : Type} (F : Nat) (r : UInt32) (b : UInt8) (fail : X) (ret : UInt32 → X) : X :=
 J2a F fail
  (fun r1 i =>
   ret r1)
  F (Jgq r (Jow b)) 0
def Kmb {X : Type} (F : Nat) (fail : X) (next ex0 : ZB → UInt32 → Int → X) (b : ZB) (r : UInt32) (i : Int) : X :=
 bif (decide (i < (b.length : Int))) then
  bif ((decide (0 ≤ i)) && (decide (i < (b.length : Int)))) then
  bif (K34 r (List.getD b (i).toNat 0)) then
  next b (Kii r (List.getD b (i).toNat 0)) (Jag i 1)
  else fail
  else fail
 else
 ex0 b r i
def Jxb {X : Type} (F : Nat) (fail : X) (ex0 : ZB → UInt32 → Int → X) : Nat → ZB → UInt32 → Int → X
 | 0, _, _, _ => fail
 | m + 1, b, r, i => Kmb F fail (Jxb F fail ex0 m) ex0 b r i
def kUpd {X : Type} (F : Nat) (sum : UInt32) (b : ZB) (fail : X) (ret : UInt32 → X) : X :=
 Jxb F fail
  (fun b1 r i =>
   ret (Kx3 r))
  F b (Kx3 sum) 0
def kSum {X : Type} (F : Nat) (b : ZB) (fail : X) (ret : UInt32 → X) : X :=
 bif (Kq8 0 b) then
 ret (K35 0 b)
 else fail
def Qca {X : Type} (F : Nat) (length : Int) (fail : X) (ret : Int → X) : X :=
 ret (Jzd (Jby (Jag length 15) 1) 15)
def Qcb {X : Type} (F : Nat) (length : Int) (fail : X) (ret : Int → X) : X :=
 bif (decide (length < 0)) then
  ret 0
 else
 bif (decide (length > 65536)) then
  ret 0
 else
 bif (Jjs length) then
 ret (Jag (Jh4 length) 1)
 else fail
def Qcc {X : Type} (F : Nat) (l : ZL) (fail : X) (ret : Int → X) : X :=
 bif (decide (l.2.2.1 < 2)) then
  ret 2
 else
 bif (decide (l.2.2.1 > 8192)) then
  bif (decide (l.2.2.1 > 8192)) then
   ret 2
  else
  bif (decide (l.2.1 < 0)) then
   ret 3
  else
  bif (decide (l.2.1 ≥ l.1)) then
   ret 3
  else
  ret 0
 else
 bif (decide (l.1 < 1)) then
  ret 2
 else
 bif (decide (l.1 > l.2.2.1)) then
  ret 2
 else
 bif (decide (l.2.1 < 0)) then
  ret 3
 else
 bif (decide (l.2.1 ≥ l.1)) then
  ret 3
 else
 ret 0
def Qou {X : Type} (F : Nat) (fail : X) (ret : ZB → X) : X :=
 ret ((([(3 : UInt8)] : ZB) ++ (List.take (min ([(99 : UInt8), (111 : UInt8), (109 : UInt8), (112 : UInt8), (97 : UInt8), (99 : UInt8), (116 : UInt8), (111 : UInt8), (114 : UInt8), (32 : UInt8), (108 : UInt8), (111 : UInt8), (103 : UInt8), (32 : UInt8), (49 : UInt8)] : ZB).length 15) ([(99 : UInt8), (111 : UInt8), (109 : UInt8), (112 : UInt8), (97 : UInt8), (99 : UInt8), (116 : UInt8), (111 : UInt8), (114 : UInt8), (32 : UInt8), (108 : UInt8), (111 : UInt8), (103 : UInt8), (32 : UInt8), (49 : UInt8)] : ZB))) ++ (List.drop (1 + (min ([(99 : UInt8), (111 : UInt8), (109 : UInt8), (112 : UInt8), (97 : UInt8), (99 : UInt8), (116 : UInt8), (111 : UInt8), (114 : UInt8), (32 : UInt8), (108 : UInt8), (111 : UInt8), (103 : UInt8), (32 : UInt8), (49 : UInt8)] : ZB).length 15)) ([(3 : UInt8), (0 : UInt8), (0 : UInt8), (0 : UInt8), (0 : UInt8), (0 : UInt8), (0 : UInt8), (0 : UInt8), (0 : UInt8), (0 : UInt8), (0 : UInt8), (0 : UInt8), (0 : UInt8), (0 : UInt8), (0 : UInt8), (0 : UInt8)] : ZB)))
def J2b {X : Type} (F : Nat) (fail : X) (next ex0 : Int → ZB → Int → Int → X) (n : Int) (s6 : ZB) (s7 s8 : Int) : X :=
 bif (decide (s8 < s7)) then
  bif ((decide (0 ≤ s8)) && (decide (s8 < (s6.length : Int)))) then
  next (orI (Qln n 8) (Ke2 (List.getD s6 (s8).toNat 0))) s6 s7 (Jag s8 1)
  else fail
 else
 ex0 n s6 s7 s8
def Jm1 {X : Type} (F : Nat) (fail : X) (ex0 : Int → ZB → Int → Int → X) : Nat → Int → ZB → Int → Int → X
 | 0, _, _, _, _ => fail
 | m + 1, n, s6, s7, s8 => J2b F fail (Jm1 F fail ex0 m) ex0 n s6 s7 s8
def Qcd {X : Type} (F : Nat) (from_ : ZB) (fail : X) (ret : Int → X) : X :=
 Jm1 F fail
  (fun n s6 s7 s8 =>
   ret n)
  F 0 from_ (from_.length : Int) 0
def Kmc {X : Type} (F : Nat) (fail : X) (next ex0 : Nat → Nat → Int → Int → Int → ZB → ZB → ZB → X) (to_i to_n : Nat) (n s6 s7 : Int) (payload to s4 : ZB) : X :=
 bif (decide (s7 < s6)) then
  bif (decide (0 ≤ (Je6 8 s7))) then
  bif ((decide (0 ≤ (Jby (Jby ((to_n : Nat) : Int) 1) s7))) && (decide ((Jby (Jby ((to_n : Nat) : Int) 1) s7) < ((to_n : Nat) : Int)))) then
  next to_i to_n n s6 (Jag s7 1) payload (List.set to (to_i + ((Jby (Jby ((to_n : Nat) : Int) 1) s7)).toNat) (Kfc (Kqz n (Je6 8 s7)))) s4
  else fail
  else fail
 else
 ex0 to_i to_n n s6 s7 payload to s4
def Jse {X : Type} (F : Nat) (fail : X) (ex0 : Nat → Nat → Int → Int → Int → ZB → ZB → ZB → X) : Nat → Nat → Nat → Int → Int → Int → ZB → ZB → ZB → X
 | 0, _, _, _, _, _, _, _, _ => fail
 | m + 1, to_i, to_n, n, s6, s7, payload, to, s4 => Kmc F fail (Jse F fail ex0 m) ex0 to_i to_n n s6 s7 payload to s4
def Kmd {X : Type} (F : Nat) (fail : X) (next ex0 : Nat → Nat → Int → Int → Int → ZB → Nat → Nat → ZB → ZB → X) (to_i to_n : Nat) (n s6 s7 : Int) (payload : ZB) (s10_i s10_n : Nat) (to s4 : ZB) : X :=
 bif (decide (s7 < s6)) then
  bif (decide (0 ≤ (Je6 8 s7))) then
  bif ((decide (0 ≤ (Jby (Jby ((to_n : Nat) : Int) 1) s7))) && (decide ((Jby (Jby ((to_n : Nat) : Int) 1) s7) < ((to_n : Nat) : Int)))) then
  next to_i to_n n s6 (Jag s7 1) payload s10_i s10_n (List.set to (to_i + ((Jby (Jby ((to_n : Nat) : Int) 1) s7)).toNat) (Kfc (Kqz n (Je6 8 s7)))) s4
  else fail
  else fail
 else
 ex0 to_i to_n n s6 s7 payload s10_i s10_n to s4
def Jpe {X : Type} (F : Nat) (fail : X) (ex0 : Nat → Nat → Int → Int → Int → ZB → Nat → Nat → ZB → ZB → X) : Nat → Nat → Nat → Int → Int → Int → ZB → Nat → Nat → ZB → ZB → X
 | 0, _, _, _, _, _, _, _, _, _, _ => fail
 | m + 1, to_i, to_n, n, s6, s7, payload, s10_i, s10_n, to, s4 => Kmd F fail (Jpe F fail ex0 m) ex0 to_i to_n n s6 s7 payload s10_i s10_n to s4
def Kme {X : Type} (F : Nat) (fail : X) (next ex0 : Nat → Nat → Int → Int → Int → ZB → Nat → Nat → Nat → Nat → ZB → ZB → X) (to_i to_n : Nat) (n s6 s7 : Int) (payload : ZB) (s10_i s10_n s19_i s19_n : Nat) (to s4 : ZB) : X :=
 bif (decide (s7 < s6)) then
  bif (decide (0 ≤ (Je6 8 s7))) then
  bif ((decide (0 ≤ (Jby (Jby ((to_n : Nat) : Int) 1) s7))) && (decide ((Jby (Jby ((to_n : Nat) : Int) 1) s7) < ((to_n : Nat) : Int)))) then
  next to_i to_n n s6 (Jag s7 1) payload s10_i s10_n s19_i s19_n (List.set to (to_i + ((Jby (Jby ((to_n : Nat) : Int) 1) s7)).toNat) (Kfc (Kqz n (Je6 8 s7)))) s4
  else fail
  else fail
 else
 ex0 to_i to_n n s6 s7 payload s10_i s10_n s19_i s19_n to s4
def Jsf {X : Type} (F : Nat) (fail : X) (ex0 : Nat → Nat → Int → Int → Int → ZB → Nat → Nat → Nat → Nat → ZB → ZB → X) : Nat → Nat → Nat → Int → Int → Int → ZB → Nat → Nat → Nat → Nat → ZB → ZB → X
 | 0, _, _, _, _, _, _, _, _, _, _, _, _ => fail
 | m + 1, to_i, to_n, n, s6, s7, payload, s10_i, s10_n, s19_i, s19_n, to, s4 => Kme F fail (Jsf F fail ex0 m) ex0 to_i to_n n s6 s7 payload s10_i s10_n s19_i s19_n to s4
def lEnd {X : Type} (F : Nat) (payload : ZB) (commits : Int) (fail : X) (ret : ZB → X) : X :=
 Jse F fail
  (fun to_i to_n n s6 s7 payload1 to s4 =>
   bif (Jjs (payload1.length : Int)) then
   Jpe F fail
    (fun to_i1 to_n1 n1 s61 s71 payload2 s10_i s10_n to1 s41 =>
     Jpe F fail
      (fun to_i2 to_n2 n2 s62 s72 payload3 s10_i1 s10_n1 to2 s42 =>
       bif (Kih payload3) then
       Jsf F fail
        (fun to_i3 to_n3 n3 s63 s73 payload4 s10_i2 s10_n2 s19_i s19_n to3 s43 =>
         ret to3)
        F 12 4 (Qbp (Ka0 payload3)) 4 0 payload3 s10_i1 s10_n1 12 4 to2 s42
       else fail)
      F 8 4 (payload2.length : Int) 4 0 payload2 s10_i s10_n to1 s41)
    F 5 3 (Jh4 (payload1.length : Int)) 3 0 payload1 5 3 to s4
   else fail)
  F 1 4 commits 4 0 payload ([2, 0, 0, 0, 0, 0, 0, 0, 0, 0, 0, 0, 0, 0, 0, 0] : ZB) z16
def Qkh {X : Type} (F : Nat) (at_ : Int) (l : List ZB) (fail : X) (ret : (Int × (Int × ((List ZB) × Unit))) → X) : X :=
 ret (0, (at_, (l, ())))
def Qov {X : Type} (F : Nat) (fail : X) (ret : (Int × (Int × ((List ZB) × Unit))) → X) : X :=
 ret (1, (0, (([] : List ZB), ())))
def J84 {X : Type} (F : Nat) (fail : X) (next ex0 ex1 : ZB → Int → Int → Int → X) (s : ZB) (s4 s7 s8 : Int) : X :=
 bif (decide (s8 < s7)) then
  bif ((decide (0 ≤ s8)) && (decide (s8 < (s.length : Int)))) then
  bif (((((List.getD s (s8).toNat 0)).toNat : Nat) : Int) != 0) then
   ex0 s s8 s7 s8
  else
  next s s4 s7 (Jag s8 1)
  else fail
 else
 ex1 s s4 s7 s8
def Jqo {X : Type} (F : Nat) (fail : X) (ex0 ex1 : ZB → Int → Int → Int → X) : Nat → ZB → Int → Int → Int → X
 | 0, _, _, _, _ => fail
 | m + 1, s, s4, s7, s8 => J84 F fail (Jqo F fail ex0 ex1 m) ex0 ex1 s s4 s7 s8
def Qmc {X : Type} (F : Nat) (s : ZB) (fail : X) (ret : Bool → X) : X :=
 Jqo F fail
  (fun s1 s4 s7 s8 =>
   ret (decide (s4 ≥ 0)))
  (fun s2 s41 s71 s81 =>
   ret false)
  F s 0 (s.length : Int) 0
def Jxc {X : Type} (F : Nat) (fail : X) (next ex0 : Int → ZB → Int → Int → List ZB → ZB → Int → ZL → ZL → X) (i : Int) (payload : ZB) (s6 n : Int) (parts : List ZB) (s1 : ZB) (s2 : Int) (l s4 : ZL) : X :=
 bif (decide (i < (s1.length : Int))) then
  bif ((decide (0 ≤ i)) && (decide (i ≤ (s1.length : Int)))) then
  bif ((((decide (0 ≤ i)) && (decide (i ≤ (Jag i (Kle s2 (((List.drop (i).toNat s1).length : Nat) : Int)))))) && (decide ((Jag i (Kle s2 (((List.drop (i).toNat s1).length : Nat) : Int))) ≤ (s1.length : Int)))) && ((Jag i (Kle s2 (((List.drop (i).toNat s1).length : Nat) : Int))) == (Jag i (Kle s2 (((List.drop (i).toNat s1).length : Nat) : Int))))) then
  bif (decide ((parts ++ ([((([(1 : UInt8)] : ZB) ++ (List.take (min (List.drop (i).toNat (List.take ((Jag i (Kle s2 (((List.drop (i).toNat s1).length : Nat) : Int)))).toNat s1)).length 15) (List.drop (i).toNat (List.take ((Jag i (Kle s2 (((List.drop (i).toNat s1).length : Nat) : Int)))).toNat s1)))) ++ (List.drop (1 + (min (List.drop (i).toNat (List.take ((Jag i (Kle s2 (((List.drop (i).toNat s1).length : Nat) : Int)))).toNat s1)).length 15)) ([(1 : UInt8), (0 : UInt8), (0 : UInt8), (0 : UInt8), (0 : UInt8), (0 : UInt8), (0 : UInt8), (0 : UInt8), (0 : UInt8), (0 : UInt8), (0 : UInt8), (0 : UInt8), (0 : UInt8), (0 : UInt8), (0 : UInt8), (0 : UInt8)] : ZB)))] : List ZB)).length ≤ big)) then
  next (Jag i s2) payload s6 n (parts ++ ([((([(1 : UInt8)] : ZB) ++ (List.take (min (List.drop (i).toNat (List.take ((Jag i (Kle s2 (((List.drop (i).toNat s1).length : Nat) : Int)))).toNat s1)).length 15) (List.drop (i).toNat (List.take ((Jag i (Kle s2 (((List.drop (i).toNat s1).length : Nat) : Int)))).toNat s1)))) ++ (List.drop (1 + (min (List.drop (i).toNat (List.take ((Jag i (Kle s2 (((List.drop (i).toNat s1).length : Nat) : Int)))).toNat s1)).length 15)) ([(1 : UInt8), (0 : UInt8), (0 : UInt8), (0 : UInt8), (0 : UInt8), (0 : UInt8), (0 : UInt8), (0 : UInt8), (0 : UInt8), (0 : UInt8), (0 : UInt8), (0 : UInt8), (0 : UInt8), (0 : UInt8), (0 : UInt8), (0 : UInt8)] : ZB)))] : List ZB)) s1 s2 l s4
  else fail
  else fail
  else fail
 else
 ex0 i payload s6 n parts s1 s2 l s4
def Jki {X : Type} (F : Nat) (fail : X) (ex0 : Int → ZB → Int → Int → List ZB → ZB → Int → ZL → ZL → X) : Nat → Int → ZB → Int → Int → List ZB → ZB → Int → ZL → ZL → X
 | 0, _, _, _, _, _, _, _, _, _ => fail
 | m + 1, i, payload, s6, n, parts, s1, s2, l, s4 => Jxc F fail (Jki F fail ex0 m) ex0 i payload s6 n parts s1 s2 l s4
def Kyq {X : Type} (F : Nat) (l : ZL) (payload : ZB) (fail : X) (ret : ZL → List (Int × (Int × ((List ZB) × Unit))) → Int → X) : X :=
 bif ((Jl7 l) != 0) then
  ret (0, (0, (0, ()))) ([] : List (Int × (Int × ((List ZB) × Unit)))) (Jl7 l)
 else
 bif (J8y (payload.length : Int)) then
 bif (decide ((payload.length : Int) > 65536)) then
  ret (0, (0, (0, ()))) ([] : List (Int × (Int × ((List ZB) × Unit)))) 5
 else
 bif (decide ((Jkv (payload.length : Int)) > (Jby l.2.2.1 l.1))) then
  ret (0, (0, (0, ()))) ([] : List (Int × (Int × ((List ZB) × Unit)))) 11
 else
 bif (decide ((Jkv (payload.length : Int)) > 1)) then
  Jki F fail
   (fun i payload1 s6 n parts s1 s2 l1 s4 =>
    bif (Jrw l1.1 parts) then
    bif (Jzg) then
    bif (J1j payload1 (Jag l1.2.1 1)) then
    bif (Jrw (Jby (Jag l1.1 n) 1) ([(J1k payload1 (Jag l1.2.1 1))] : List ZB)) then
    bif (Jzg) then
    ret ((Jag l1.1 n), ((Jag l1.2.1 1), (l1.2.2.1, ()))) ([(Jrx l1.1 parts), (Jzh), (Jrx (Jby (Jag l1.1 n) 1) ([(J1k payload1 (Jag l1.2.1 1))] : List ZB)), (Jzh)] : List (Int × (Int × ((List ZB) × Unit)))) 0
    else fail
    else fail
    else fail
    else fail
    else fail)
   F 0 payload 0 (Jkv (payload.length : Int)) ([] : List ZB) payload 15 l (0, (0, (0, ())))
 else
 bif (J1j payload (Jag l.2.1 1)) then
 bif (Jrw (Jby (Jag l.1 (Jkv (payload.length : Int))) 1) ([(J1k payload (Jag l.2.1 1))] : List ZB)) then
 bif (Jzg) then
 ret ((Jag l.1 (Jkv (payload.length : Int))), ((Jag l.2.1 1), (l.2.2.1, ()))) ([(Jrx (Jby (Jag l.1 (Jkv (payload.length : Int))) 1) ([(J1k payload (Jag l.2.1 1))] : List ZB)), (Jzh)] : List (Int × (Int × ((List ZB) × Unit)))) 0
 else fail
 else fail
 else fail
 else fail
def J85 {X : Type} (F : Nat) (fail : X) (next ex0 ex1 : Int → Int → List ZB → Int → Int → Int → ((List ZB) × Unit) → ZB → Bool → ZB → List ZB → X) (number count : Int) (l : List ZB) (first s5 left : Int) (r : ((List ZB) × Unit)) (payload : ZB) (ok : Bool) (p : ZB) (out : List ZB) : X :=
 bif (((((List.getD p 0 0)).toNat : Nat) : Int) == 1) then
  bif (decide ((payload ++ (List.take 15 (List.drop 1 p))).length ≤ big)) then
  bif (!(decide (((r.1.length : Nat) : Int) > 0))) then
   ex0 number (Jag count (1 : Int)) l first s5 left r (payload ++ (List.take 15 (List.drop 1 p))) ok p out
  else
  bif (decide (0 < ((r.1.length : Nat) : Int))) then
  bif (decide (1 ≤ ((r.1.length : Nat) : Int))) then
  next number (Jag count (1 : Int)) l first s5 left ((List.drop 1 r.1), r.2) (payload ++ (List.take 15 (List.drop 1 p))) ok (List.getD r.1 0 z16) out
  else fail
  else fail
  else fail
 else
 ex1 number count l first s5 left r payload ok p out
def Jqp {X : Type} (F : Nat) (fail : X) (ex0 ex1 : Int → Int → List ZB → Int → Int → Int → ((List ZB) × Unit) → ZB → Bool → ZB → List ZB → X) : Nat → Int → Int → List ZB → Int → Int → Int → ((List ZB) × Unit) → ZB → Bool → ZB → List ZB → X
 | 0, _, _, _, _, _, _, _, _, _, _, _ => fail
 | m + 1, number, count, l, first, s5, left, r, payload, ok, p, out => J85 F fail (Jqp F fail ex0 ex1 m) ex0 ex1 number count l first s5 left r payload ok p out
def J86 {X : Type} (F : Nat) (fail : X) (next ex0 : List ZB → Int → Int → List ZB → ((List ZB) × Unit) → X) (l : List ZB) (first s5 : Int) (out : List ZB) (r : ((List ZB) × Unit)) : X :=
 bif (!(decide (((r.1.length : Nat) : Int) > 0))) then
  ex0 l first (Jby (l.length : Int) ((r.1.length : Nat) : Int)) out r
 else
 bif (decide (0 < ((r.1.length : Nat) : Int))) then
 bif (decide (1 ≤ ((r.1.length : Nat) : Int))) then
 Jqp F fail
  (fun number count l1 first1 s51 left r1 payload ok p out1 =>
   ex0 l1 first1 (Jby (l1.length : Int) left) out1 r1)
  (fun number1 count1 l2 first2 s52 left1 r2 payload1 ok1 p1 out2 =>
   bif (Jo0 (List.take 4 (List.drop 8 p1))) then
   bif (((((List.getD p1 0 0)).toNat : Nat) : Int) == 2) then
    bif (Jo0 (List.take 4 (List.drop 1 p1))) then
    bif ((Jck (List.take 4 (List.drop 1 p1))) == number1) then
     bif (Jo0 (List.take 3 (List.drop 5 p1))) then
     bif ((Jck (List.take 3 (List.drop 5 p1))) == count1) then
      bif (decide ((Jck (List.take 4 (List.drop 8 p1))) ≤ 65536)) then
       bif (Jjs (Jck (List.take 4 (List.drop 8 p1)))) then
       bif (!((Jh4 (Jck (List.take 4 (List.drop 8 p1)))) == count1)) then
        ex0 l2 first2 (Jby (l2.length : Int) left1) out2 r2
       else
       bif ((decide (0 ≤ (Jck (List.take 4 (List.drop 8 p1))))) && (decide ((Jck (List.take 4 (List.drop 8 p1))) ≤ (payload1.length : Int)))) then
       bif (((decide (0 ≤ (Jck (List.take 4 (List.drop 8 p1))))) && (decide ((Jck (List.take 4 (List.drop 8 p1))) ≤ (payload1.length : Int)))) && ((Jck (List.take 4 (List.drop 8 p1))) == (Jck (List.take 4 (List.drop 8 p1))))) then
       bif (K60 (List.take (payload1.length - ((Jck (List.take 4 (List.drop 8 p1)))).toNat) (List.drop ((Jck (List.take 4 (List.drop 8 p1)))).toNat payload1)) 132) then
       bif (!(K61 (List.take (payload1.length - ((Jck (List.take 4 (List.drop 8 p1)))).toNat) (List.drop ((Jck (List.take 4 (List.drop 8 p1)))).toNat payload1)) 132)) then
        bif (Jo0 (List.take 4 (List.drop 12 p1))) then
        bif (Kih (List.take ((Jck (List.take 4 (List.drop 8 p1)))).toNat payload1)) then
        bif (!((Jck (List.take 4 (List.drop 12 p1))) == (Qbp (Ka0 (List.take ((Jck (List.take 4 (List.drop 8 p1)))).toNat payload1))))) then
         ex0 l2 first2 (Jby (l2.length : Int) left1) out2 r2
        else
        bif (decide ((out2 ++ ([(List.take ((Jck (List.take 4 (List.drop 8 p1)))).toNat payload1)] : List ZB)).length ≤ big)) then
        next l2 first2 s52 (out2 ++ ([(List.take ((Jck (List.take 4 (List.drop 8 p1)))).toNat payload1)] : List ZB)) r2
        else fail
        else fail
        else fail
       else
       ex0 l2 first2 (Jby (l2.length : Int) left1) out2 r2
       else fail
       else fail
       else fail
       else fail
      else
      ex0 l2 first2 (Jby (l2.length : Int) left1) out2 r2
     else
     ex0 l2 first2 (Jby (l2.length : Int) left1) out2 r2
     else fail
    else
    ex0 l2 first2 (Jby (l2.length : Int) left1) out2 r2
    else fail
   else
   ex0 l2 first2 (Jby (l2.length : Int) left1) out2 r2
   else fail)
  F (Jag first (out.length : Int)) 0 l first s5 ((r.1.length : Nat) : Int) ((List.drop 1 r.1), r.2) ([] : ZB) false (List.getD r.1 0 z16) out
 else fail
 else fail
def Jqq {X : Type} (F : Nat) (fail : X) (ex0 : List ZB → Int → Int → List ZB → ((List ZB) × Unit) → X) : Nat → List ZB → Int → Int → List ZB → ((List ZB) × Unit) → X
 | 0, _, _, _, _, _ => fail
 | m + 1, l, first, s5, out, r => J86 F fail (Jqq F fail ex0 m) ex0 l first s5 out r
def Qmd {X : Type} (F : Nat) (l : List ZB) (first : Int) (fail : X) (ret : List ZB → Int → X) : X :=
 bif (decide (first < 1)) then
  ret ([] : List ZB) 0
 else
 bif (decide (first > 8192)) then
  ret ([] : List ZB) 0
 else
 Jqq F fail
  (fun l1 first1 s5 s4 r =>
   ret s4 s5)
  F l first 0 ([] : List ZB) (l, ())
def Qme {X : Type} (F : Nat) (d_ : ZD) (fail : X) (ret : ZL → List ZB → Int → X) : X :=
 bif (Kli d_ 0 ((d_.1.length : Nat) : Int)) then
 bif ((Jwf d_ 0 ((d_.1.length : Nat) : Int)) != 0) then
  ret (0, (0, (0, ()))) ([] : List ZB) (Jwf d_ 0 ((d_.1.length : Nat) : Int))
 else
 bif (decide ((((Jep d_ 0 ((d_.1.length : Nat) : Int)).length : Nat) : Int) < 2)) then
  ret (0, (0, (0, ()))) ([] : List ZB) 2
 else
 bif (decide (0 < (((Jep d_ 0 ((d_.1.length : Nat) : Int)).length : Nat) : Int))) then
 bif (Kls) then
 bif (!(Jtw (.arr 16 (.int .u8)) (List.getD (Jep d_ 0 ((d_.1.length : Nat) : Int)) 0 z16) (Klt))) then
  ret (0, (0, (0, ()))) ([] : List ZB) 3
 else
 bif (decide (1 ≤ (((Jep d_ 0 ((d_.1.length : Nat) : Int)).length : Nat) : Int))) then
 bif (Juh (List.take ((Jep d_ 0 ((d_.1.length : Nat) : Int)).length - 1) (List.drop 1 (Jep d_ 0 ((d_.1.length : Nat) : Int)))) 1) then
 ret ((Jag 1 (Jgk (List.take ((Jep d_ 0 ((d_.1.length : Nat) : Int)).length - 1) (List.drop 1 (Jep d_ 0 ((d_.1.length : Nat) : Int)))) 1)), ((((J1p (List.take ((Jep d_ 0 ((d_.1.length : Nat) : Int)).length - 1) (List.drop 1 (Jep d_ 0 ((d_.1.length : Nat) : Int)))) 1).length : Nat) : Int), ((((Jep d_ 0 ((d_.1.length : Nat) : Int)).length : Nat) : Int), ()))) (J1p (List.take ((Jep d_ 0 ((d_.1.length : Nat) : Int)).length - 1) (List.drop 1 (Jep d_ 0 ((d_.1.length : Nat) : Int)))) 1) 0
 else fail
 else fail
 else fail
 else fail
 else fail
def J4k {X : Type} (F : Nat) (n : Int) (fail : X) (ret : Int → X) : X :=
 ret (Jzd (Jag n 14) 15)
def Kip {X : Type} (F : Nat) (fail : X) (next ex0 : ZB → Int → ZB → ZB → X) (text : ZB) (i : Int) (s0 p : ZB) : X :=
 bif (decide (i < (text.length : Int))) then
  bif ((decide (0 ≤ i)) && (decide (i < (text.length : Int)))) then
  bif ((decide ((0 : Int) ≤ (Jag i (1 : Int)))) && (decide ((Jag i (1 : Int)) < ((16 : Nat) : Int)))) then
  next text (Jag i 1) s0 (List.set p ((Jag i 1)).toNat (List.getD text (i).toNat 0))
  else fail
  else fail
 else
 ex0 text i s0 p
def Jzo {X : Type} (F : Nat) (fail : X) (ex0 : ZB → Int → ZB → ZB → X) : Nat → ZB → Int → ZB → ZB → X
 | 0, _, _, _, _ => fail
 | m + 1, text, i, s0, p => Kip F fail (Jzo F fail ex0 m) ex0 text i s0 p
def Qce {X : Type} (F : Nat) (fail : X) (ret : ZB → X) : X :=
 Jzo F fail
  (fun text i s0 p =>
   ret p)
  F ([99, 111, 109, 112, 97, 99, 116, 111, 114, 32, 108, 111, 103, 32, 49] : ZB) 0 z16 ([3, 0, 0, 0, 0, 0, 0, 0, 0, 0, 0, 0, 0, 0, 0, 0] : ZB)
def J87 {X : Type} (F : Nat) (fail : X) (next ex0 : ZB → Int → List ZB → X) (payload : ZB) (i : Int) (out : List ZB) : X :=
 bif (decide (i < (out.length : Int))) then
  bif ((decide (0 ≤ i)) && (decide (i < (out.length : Int)))) then
  next payload (Jag i 1) (List.set out (i).toNat (List.set (List.getD out (i).toNat z16) 0 1))
  else fail
 else
 ex0 payload i out
def Jqr {X : Type} (F : Nat) (fail : X) (ex0 : ZB → Int → List ZB → X) : Nat → ZB → Int → List ZB → X
 | 0, _, _, _ => fail
 | m + 1, payload, i, out => J87 F fail (Jqr F fail ex0 m) ex0 payload i out
def J88 {X : Type} (F : Nat) (fail : X) (next ex0 : ZB → Int → List ZB → X) (payload : ZB) (i : Int) (out : List ZB) : X :=
 bif (decide (i < (payload.length : Int))) then
  bif ((decide (0 ≤ i)) && (decide (i < (payload.length : Int)))) then
  bif ((decide (0 ≤ (Jzd i 15))) && (decide ((Jzd i 15) < (out.length : Int)))) then
  bif ((decide (0 ≤ (Jag 1 (Jcg i 15)))) && (decide ((Jag 1 (Jcg i 15)) < (16 : Int)))) then
  next payload (Jag i 1) (List.set out ((Jzd i 15)).toNat (List.set (List.getD out ((Jzd i 15)).toNat z16) ((Jag 1 (Jcg i 15))).toNat (List.getD payload (i).toNat 0)))
  else fail
  else fail
  else fail
 else
 ex0 payload i out
def Jqs {X : Type} (F : Nat) (fail : X) (ex0 : ZB → Int → List ZB → X) : Nat → ZB → Int → List ZB → X
 | 0, _, _, _ => fail
 | m + 1, payload, i, out => J88 F fail (Jqs F fail ex0 m) ex0 payload i out
def Qmf {X : Type} (F : Nat) (payload : ZB) (fail : X) (ret : List ZB → X) : X :=
 bif (Jgu (payload.length : Int)) then
 bif (((decide (0 ≤ (Jc8 (payload.length : Int)))) && true) && (decide ((Jc8 (payload.length : Int)) ≤ ((big : Nat) : Int)))) then
 Jqr F fail
  (fun payload1 i out =>
   Jqs F fail
    (fun payload2 i1 out1 =>
     ret out1)
    F payload1 0 out)
  F payload (0 : Int) (List.replicate ((Jc8 ((payload.length : Nat) : Int))).toNat z16)
 else fail
 else fail
def Kmf {X : Type} (F : Nat) (fail : X) (next ex0 : Int → Int → Int → ZB → ZB → X) (at_ n i : Int) (p s8 : ZB) : X :=
 bif (decide (i ≥ 0)) then
  bif ((decide (0 ≤ (Jag at_ i))) && (decide ((Jag at_ i) < (16 : Int)))) then
  next at_ (Jzd n 256) (Jby i 1) (List.set p ((Jag at_ i)).toNat (Kfc (Jcg n 256))) s8
  else fail
 else
 ex0 at_ n i p s8
def Jxd {X : Type} (F : Nat) (fail : X) (ex0 : Int → Int → Int → ZB → ZB → X) : Nat → Int → Int → Int → ZB → ZB → X
 | 0, _, _, _, _, _ => fail
 | m + 1, at_, n, i, p, s8 => Kmf F fail (Jxd F fail ex0 m) ex0 at_ n i p s8
def qPut {X : Type} (F : Nat) (p : ZB) (at_ size n : Int) (fail : X) (ret : ZB → X) : X :=
 Jxd F fail
  (fun at_1 n1 i p1 s8 =>
   ret p1)
  F at_ n (Jby size 1) p z16
def Kmg {X : Type} (F : Nat) (fail : X) (next ex0 : Int → Int → Int → Int → ZB → X) (at_ size n i : Int) (p : ZB) : X :=
 bif (decide (i < size)) then
  bif ((decide (0 ≤ (Jag at_ i))) && (decide ((Jag at_ i) < (16 : Int)))) then
  next at_ size (Jag (Je6 256 n) (Ke2 (List.getD p ((Jag at_ i)).toNat 0))) (Jag i 1) p
  else fail
 else
 ex0 at_ size n i p
def Jxe {X : Type} (F : Nat) (fail : X) (ex0 : Int → Int → Int → Int → ZB → X) : Nat → Int → Int → Int → Int → ZB → X
 | 0, _, _, _, _, _ => fail
 | m + 1, at_, size, n, i, p => Kmg F fail (Jxe F fail ex0 m) ex0 at_ size n i p
def qGet {X : Type} (F : Nat) (p : ZB) (at_ size : Int) (fail : X) (ret : Int → X) : X :=
 Jxe F fail
  (fun at_1 size1 n i p1 =>
   ret n)
  F at_ size 0 0 p
def Kyr {X : Type} (F : Nat) (payload : ZB) (number : Int) (fail : X) (ret : ZB → X) : X :=
 bif (Jue ([2, 0, 0, 0, 0, 0, 0, 0, 0, 0, 0, 0, 0, 0, 0, 0] : ZB) 1 4 number) then
 bif (Jgu (payload.length : Int)) then
 bif (Jue (Jo1 ([2, 0, 0, 0, 0, 0, 0, 0, 0, 0, 0, 0, 0, 0, 0, 0] : ZB) 1 4 number) 5 3 (Jc8 (payload.length : Int))) then
 bif (Jue (Jo1 (Jo1 ([2, 0, 0, 0, 0, 0, 0, 0, 0, 0, 0, 0, 0, 0, 0, 0] : ZB) 1 4 number) 5 3 (Jc8 (payload.length : Int))) 8 4 (payload.length : Int)) then
 bif (K36 payload) then
 bif (Jue (Jo1 (Jo1 (Jo1 ([2, 0, 0, 0, 0, 0, 0, 0, 0, 0, 0, 0, 0, 0, 0, 0] : ZB) 1 4 number) 5 3 (Jc8 (payload.length : Int))) 8 4 (payload.length : Int)) 12 4 (Qbp (Kq9 payload))) then
 ret (Jo1 (Jo1 (Jo1 (Jo1 ([2, 0, 0, 0, 0, 0, 0, 0, 0, 0, 0, 0, 0, 0, 0, 0] : ZB) 1 4 number) 5 3 (Jc8 (payload.length : Int))) 8 4 (payload.length : Int)) 12 4 (Qbp (Kq9 payload)))
 else fail
 else fail
 else fail
 else fail
 else fail
 else fail
def Jpf {X : Type} (F : Nat) (fail : X) (next ex0 : List ZB → Int → Int → X) (l : List ZB) (number k : Int) : X :=
 bif (decide (k < (l.length : Int))) then
  bif ((decide (0 ≤ k)) && (decide (k < (l.length : Int)))) then
  bif (((((List.getD (List.getD l (k).toNat z16) 0 0)).toNat : Nat) : Int) == 1) then
   next l number (Jag k 1)
  else
  ex0 l number k
  else fail
 else
 ex0 l number k
def Jhq {X : Type} (F : Nat) (fail : X) (ex0 : List ZB → Int → Int → X) : Nat → List ZB → Int → Int → X
 | 0, _, _, _ => fail
 | m + 1, l, number, k => Jpf F fail (Jhq F fail ex0 m) ex0 l number k
def Jpg {X : Type} (F : Nat) (fail : X) (next ex0 : List ZB → Int → Int → Int → Int → ZB → X) (l : List ZB) (number k n i : Int) (payload : ZB) : X :=
 bif (decide (i < n)) then
  bif ((decide (0 ≤ (Jzd i 15))) && (decide ((Jzd i 15) < (l.length : Int)))) then
  bif ((decide (0 ≤ (Jag 1 (Jcg i 15)))) && (decide ((Jag 1 (Jcg i 15)) < (16 : Int)))) then
  bif (decide ((payload ++ ([(List.getD (List.getD l ((Jzd i (15 : Int))).toNat z16) ((Jag (1 : Int) (Jcg i (15 : Int)))).toNat (0 : UInt8))] : ZB)).length ≤ big)) then
  next l number k n (Jag i (1 : Int)) (payload ++ ([(List.getD (List.getD l ((Jzd i (15 : Int))).toNat z16) ((Jag (1 : Int) (Jcg i (15 : Int)))).toNat (0 : UInt8))] : ZB))
  else fail
  else fail
  else fail
 else
 ex0 l number k n i payload
def Jhr {X : Type} (F : Nat) (fail : X) (ex0 : List ZB → Int → Int → Int → Int → ZB → X) : Nat → List ZB → Int → Int → Int → Int → ZB → X
 | 0, _, _, _, _, _, _ => fail
 | m + 1, l, number, k, n, i, payload => Jpg F fail (Jhr F fail ex0 m) ex0 l number k n i payload
def Kbb {X : Type} (F : Nat) (l : List ZB) (number : Int) (fail : X) (ret : ZB → Int → Bool → X) : X :=
 Jhq F fail
  (fun l1 number1 k =>
   bif (k == (l1.length : Int)) then
    ret ([] : ZB) 0 false
   else
   bif ((decide (0 ≤ k)) && (decide (k < (l1.length : Int)))) then
   bif (Ka1 (List.getD l1 (k).toNat z16) 8 4) then
   bif (decide ((J1l (List.getD l1 (k).toNat z16) (8 : Int) (4 : Int)) > (65536 : Int))) then
    ret ([] : ZB) 0 false
   else
   bif (decide ((J1l (List.getD l1 (k).toNat z16) 8 4) > (Je6 15 k))) then
    ret ([] : ZB) 0 false
   else
   Jhr F fail
    (fun l2 number2 k1 n i payload =>
     bif ((decide (0 ≤ k1)) && (decide (k1 < (l2.length : Int)))) then
     bif (Juf payload number2) then
     bif (!(Jtw (.arr 16 (.int .u8)) (List.getD l2 (k1).toNat z16) (Jug payload number2))) then
      ret ([] : ZB) 0 false
     else
     bif ((decide (0 ≤ k1)) && (decide (k1 < (l2.length : Int)))) then
     bif (Ka1 (List.getD l2 (k1).toNat z16) 5 3) then
     bif ((J1l (List.getD l2 (k1).toNat z16) 5 3) != k1) then
      ret ([] : ZB) 0 false
     else
     bif ((decide (0 ≤ k1)) && (decide (k1 ≤ (l2.length : Int)))) then
     bif (Ka2 payload) then
     bif (Jk9 (List.take (k1).toNat l2) (Jzf payload)) then
     bif (!(Jla (List.take (k1).toNat l2) (Jzf payload))) then
      ret ([] : ZB) 0 false
     else
     ret payload (Jag k1 1) true
     else fail
     else fail
     else fail
     else fail
     else fail
     else fail
     else fail)
    F l1 number1 k (J1l (List.getD l1 (k).toNat z16) 8 4) 0 ([] : ZB)
   else fail
   else fail)
  F l number 0
def J89 {X : Type} (F : Nat) (fail : X) (next ex0 : List ZB → Int → Int → ZB → Int → Bool → List ZB → X) (l : List ZB) (first n : Int) (b : ZB) (k : Int) (ok : Bool) (out : List ZB) : X :=
 bif ok then
  bif (decide ((out ++ ([b] : List ZB)).length ≤ big)) then
  bif ((decide (0 ≤ (Jag n k))) && (decide ((Jag n k) ≤ (l.length : Int)))) then
  bif (Jf2 (List.drop ((Jag n k)).toNat l) (Jag first (((out ++ ([b] : List ZB)).length : Nat) : Int))) then
  next l first (Jag n k) (Jgv (List.drop ((Jag n k)).toNat l) (Jag first (((out ++ ([b] : List ZB)).length : Nat) : Int))) (Jgw (List.drop ((Jag n k)).toNat l) (Jag first (((out ++ ([b] : List ZB)).length : Nat) : Int))) (Jgx (List.drop ((Jag n k)).toNat l) (Jag first (((out ++ ([b] : List ZB)).length : Nat) : Int))) (out ++ ([b] : List ZB))
  else fail
  else fail
  else fail
 else
 ex0 l first n b k ok out
def Jqt {X : Type} (F : Nat) (fail : X) (ex0 : List ZB → Int → Int → ZB → Int → Bool → List ZB → X) : Nat → List ZB → Int → Int → ZB → Int → Bool → List ZB → X
 | 0, _, _, _, _, _, _, _ => fail
 | m + 1, l, first, n, b, k, ok, out => J89 F fail (Jqt F fail ex0 m) ex0 l first n b k ok out
def Qmg {X : Type} (F : Nat) (l : List ZB) (first : Int) (fail : X) (ret : List ZB → Int → X) : X :=
 bif (decide (first < 1)) then
  ret ([] : List ZB) 0
 else
 bif (decide (first > 8192)) then
  ret ([] : List ZB) 0
 else
 bif (Jf2 l first) then
 Jqt F fail
  (fun l1 first1 n b k ok out =>
   ret out n)
  F l first 0 (Jgv l first) (Jgw l first) (Jgx l first) ([] : List ZB)
 else fail
def Qmh {X : Type} (F : Nat) (d_ : ZD) (fail : X) (ret : ZL → List ZB → Int → X) : X :=
 bif (Jwg d_) then
 bif ((Joy d_) != 0) then
  ret (0, (0, (0, ()))) ([] : List ZB) (Joy d_)
 else
 bif (decide (((d_.1.length : Nat) : Int) < 2)) then
  ret (0, (0, (0, ()))) ([] : List ZB) 2
 else
 bif (Klk d_ 0 ((d_.1.length : Nat) : Int)) then
 bif (decide (0 < (((Jf0 d_ 0 ((d_.1.length : Nat) : Int)).length : Nat) : Int))) then
 bif (J1h) then
 bif (!(Jtw (.arr 16 (.int .u8)) (List.getD (Jf0 d_ 0 ((d_.1.length : Nat) : Int)) 0 z16) (J1i))) then
  ret (0, (0, (0, ()))) ([] : List ZB) 3
 else
 bif (decide (1 ≤ (((Jf0 d_ 0 ((d_.1.length : Nat) : Int)).length : Nat) : Int))) then
 bif (Ka3 (List.take ((Jf0 d_ 0 ((d_.1.length : Nat) : Int)).length - 1) (List.drop 1 (Jf0 d_ 0 ((d_.1.length : Nat) : Int)))) 1) then
 ret ((Jag 1 (J8z (List.take ((Jf0 d_ 0 ((d_.1.length : Nat) : Int)).length - 1) (List.drop 1 (Jf0 d_ 0 ((d_.1.length : Nat) : Int)))) 1)), ((((J1q (List.take ((Jf0 d_ 0 ((d_.1.length : Nat) : Int)).length - 1) (List.drop 1 (Jf0 d_ 0 ((d_.1.length : Nat) : Int)))) 1).length : Nat) : Int), (((d_.1.length : Nat) : Int), ()))) (J1q (List.take ((Jf0 d_ 0 ((d_.1.length : Nat) : Int)).length - 1) (List.drop 1 (Jf0 d_ 0 ((d_.1.length : Nat) : Int)))) 1) 0
 else fail
 else fail
 else fail
 else fail
 else fail
 else fail
end Go.AI
namespace Go.AI
open Go
set_option linter.unusedVariables false
def J2c {X : Type} (F : Nat) (fail : X) (next ex0 ex1 : Int → List ZR → Int → Int → X) (s2 : Int) (s8 : List ZR) (s9 s10 : Int) : X :=
 bif (decide (s10 < s9)) then
  bif ((decide (0 ≤ s10)) && (decide (s10 < (s8.length : Int)))) then
  bif (decide ((List.getD s8 (s10).toNat (0, (([] : ZB), ()))).1 ≥ 1)) then
   bif (!(decide ((List.getD s8 (s10).toNat (0, (([] : ZB), ()))).1 ≤ 4))) then
    ex0 1 s8 s9 s10
   else
   bif (decide ((((List.getD s8 (s10).toNat (0, (([] : ZB), ()))).2.1.length : Nat) : Int) > 65536)) then
    ex0 5 s8 s9 s10
   else
   next s2 s8 s9 (Jag s10 1)
  else
  ex0 1 s8 s9 s10
  else fail
 else
 ex1 s2 s8 s9 s10
def Jm2 {X : Type} (F : Nat) (fail : X) (ex0 ex1 : Int → List ZR → Int → Int → X) : Nat → Int → List ZR → Int → Int → X
 | 0, _, _, _, _ => fail
 | m + 1, s2, s8, s9, s10 => J2c F fail (Jm2 F fail ex0 ex1 m) ex0 ex1 s2 s8 s9 s10
def Qcf {X : Type} (F : Nat) (l : List ZR) (fail : X) (ret : Int → X) : X :=
 bif (decide ((l.length : Int) > 1024)) then
  ret 6
 else
 Jm2 F fail
  (fun s2 s8 s9 s10 =>
   ret s2)
  (fun s21 s81 s91 s101 =>
   ret 0)
  F 0 l (l.length : Int) 0
def Kys {X : Type} (F : Nat) (b : ZB) (x_ : Int) (fail : X) (ret : ZB → X) : X :=
 bif (Jhm b x_) then
 ret (Jl4 b x_)
 else fail
def Kyt {X : Type} (F : Nat) (b x_ : ZB) (fail : X) (ret : ZB → X) : X :=
 bif (Jfi b x_) then
 ret (Jjm b x_)
 else fail
def Jxf {X : Type} (F : Nat) (fail : X) (next ex0 : List ZR → Int → Int → ZB → X) (s16 : List ZR) (s17 s18 : Int) (b : ZB) : X :=
 bif (decide (s18 < s17)) then
  bif ((decide (0 ≤ s18)) && (decide (s18 < (s16.length : Int)))) then
  bif (Jr1 b 51 (List.getD s16 (s18).toNat (0, (([] : ZB), ()))).1) then
  bif (Jzk (Jlt b 51 (List.getD s16 (s18).toNat (0, (([] : ZB), ()))).1) 53 (List.getD s16 (s18).toNat (0, (([] : ZB), ()))).2.1) then
  next s16 s17 (Jag s18 1) (Jui (Jlt b 51 (List.getD s16 (s18).toNat (0, (([] : ZB), ()))).1) 53 (List.getD s16 (s18).toNat (0, (([] : ZB), ()))).2.1)
  else fail
  else fail
  else fail
 else
 ex0 s16 s17 s18 b
def Jg0 {X : Type} (F : Nat) (fail : X) (ex0 : List ZR → Int → Int → ZB → X) : Nat → List ZR → Int → Int → ZB → X
 | 0, _, _, _, _ => fail
 | m + 1, s16, s17, s18, b => Jxf F fail (Jg0 F fail ex0 m) ex0 s16 s17 s18 b
def Kyu {X : Type} (F : Nat) (l : List ZR) (fail : X) (ret : ZB → Int → X) : X :=
 bif (Jwo l) then
 bif ((Jo4 l) != 0) then
  ret ([] : ZB) (Jo4 l)
 else
 bif (Jr1 ([] : ZB) 51 (l.length : Int)) then
 Jg0 F fail
  (fun s16 s17 s18 b =>
   bif (decide ((b.length : Int) > 65536)) then
    ret ([] : ZB) 5
   else
   ret b 0)
  F l (l.length : Int) 0 (Jlt ([] : ZB) 51 (l.length : Int))
 else fail
 else fail
def Jxg {X : Type} (F : Nat) (fail : X) (next ex0 ex1 : Int → Int → Int → ZB → List ZR → X) (s3 s19 s20 : Int) (b : ZB) (out : List ZR) : X :=
 bif (decide (s20 < s19)) then
  bif (Jfh b) then
  bif ((Jbk b) == 0) then
   bif ((Jbk b) != 0) then
    ex0 (Jbk b) s19 s20 (Jaq b) out
   else
   bif (decide ((Jas b) ≥ 1)) then
    bif (!(decide ((Jas b) ≤ 4))) then
     ex0 1 s19 s20 (Jaq b) out
    else
    bif (Jgt (Jaq b)) then
    bif ((Jc3 (Jaq b)) == 0) then
     bif ((Jc3 (Jaq b)) != 0) then
      ex0 (Jc3 (Jaq b)) s19 s20 (Jeu (Jaq b)) out
     else
     bif (decide ((out ++ ([((Jas b), ((Jet (Jaq b)), ()))] : List ZR)).length ≤ big)) then
     next s3 s19 (Jag s20 (1 : Int)) (Jeu (Jaq b)) (out ++ ([((Jas b), ((Jet (Jaq b)), ()))] : List ZR))
     else fail
    else
    bif ((Jc3 (Jaq b)) != 0) then
     ex0 (Jc3 (Jaq b)) s19 s20 (Jaq b) out
    else
    bif (decide ((out ++ ([((Jas b), (([] : ZB), ()))] : List ZR)).length ≤ big)) then
    next s3 s19 (Jag s20 (1 : Int)) (Jaq b) (out ++ ([((Jas b), (([] : ZB), ()))] : List ZR))
    else fail
    else fail
   else
   ex0 1 s19 s20 (Jaq b) out
  else
  bif ((Jbk b) != 0) then
   ex0 (Jbk b) s19 s20 b out
  else
  ex0 1 s19 s20 b out
  else fail
 else
 ex1 s3 s19 s20 b out
def Jf4 {X : Type} (F : Nat) (fail : X) (ex0 ex1 : Int → Int → Int → ZB → List ZR → X) : Nat → Int → Int → Int → ZB → List ZR → X
 | 0, _, _, _, _, _ => fail
 | m + 1, s3, s19, s20, b, out => Jxg F fail (Jf4 F fail ex0 ex1 m) ex0 ex1 s3 s19 s20 b out
def Kyv {X : Type} (F : Nat) (b : ZB) (fail : X) (ret : List ZR → Int → X) : X :=
 bif (decide ((b.length : Int) > 65536)) then
  ret ([] : List ZR) 5
 else
 bif (Jfh b) then
 bif ((Jbk b) == 0) then
  bif ((Jbk b) != 0) then
   ret ([] : List ZR) (Jbk b)
  else
  bif (decide ((Jas b) > 1024)) then
   ret ([] : List ZR) 6
  else
  Jf4 F fail
   (fun s3 s19 s20 b1 out =>
    ret ([] : List ZR) s3)
   (fun s31 s191 s201 b2 out1 =>
    bif (decide ((b2.length : Int) > 0)) then
     ret ([] : List ZR) 3
    else
    ret out1 0)
   F 0 (Jas b) 0 (Jaq b) ([] : List ZR)
 else
 bif ((Jbk b) != 0) then
  ret ([] : List ZR) (Jbk b)
 else
 Jf4 F fail
  (fun s32 s192 s202 b3 out2 =>
   ret ([] : List ZR) s32)
  (fun s33 s193 s203 b4 out3 =>
   bif (decide ((b4.length : Int) > 0)) then
    ret ([] : List ZR) 3
   else
   ret out3 0)
  F 0 0 0 b ([] : List ZR)
 else fail
def Qmi {X : Type} (F : Nat) (n : Int) (fail : X) (ret : Int → X) : X :=
 bif (decide (n < 1)) then
  ret 1
 else
 bif (decide (n > 4)) then
  ret 1
 else
 ret 0
def Jxh {X : Type} (F : Nat) (fail : X) (next ex0 ex1 : Int → Int → Int → ZB → List ZR → X) (s3 n i : Int) (b : ZB) (out : List ZR) : X :=
 bif (decide (i < n)) then
  bif (Jec b) then
  bif ((Jbz b) == 0) then
   bif ((Jpq (Ja7 b)) == 0) then
    bif (Jes (Jay b)) then
    bif ((Jcz (Jay b)) != 0) then
     ex0 (Jcz (Jay b)) n i (Jcy (Jay b)) out
    else
    bif (decide ((out ++ ([((Ja7 b), ((Jcx (Jay b)), ()))] : List ZR)).length ≤ big)) then
    next s3 n (Jag i (1 : Int)) (Jcy (Jay b)) (out ++ ([((Ja7 b), ((Jcx (Jay b)), ()))] : List ZR))
    else fail
    else fail
   else
   bif ((Jpq (Ja7 b)) != 0) then
    ex0 (Jpq (Ja7 b)) n i (Jay b) out
   else
   bif (decide ((out ++ ([((Ja7 b), (([] : ZB), ()))] : List ZR)).length ≤ big)) then
   next s3 n (Jag i (1 : Int)) (Jay b) (out ++ ([((Ja7 b), (([] : ZB), ()))] : List ZR))
   else fail
  else
  bif ((Jbz b) == 0) then
   bif (Jes (Jay b)) then
   bif ((Jcz (Jay b)) != 0) then
    ex0 (Jcz (Jay b)) n i (Jcy (Jay b)) out
   else
   bif (decide ((out ++ ([((Ja7 b), ((Jcx (Jay b)), ()))] : List ZR)).length ≤ big)) then
   next s3 n (Jag i (1 : Int)) (Jcy (Jay b)) (out ++ ([((Ja7 b), ((Jcx (Jay b)), ()))] : List ZR))
   else fail
   else fail
  else
  bif ((Jbz b) != 0) then
   ex0 (Jbz b) n i (Jay b) out
  else
  bif (decide ((out ++ ([((Ja7 b), (([] : ZB), ()))] : List ZR)).length ≤ big)) then
  next s3 n (Jag i (1 : Int)) (Jay b) (out ++ ([((Ja7 b), (([] : ZB), ()))] : List ZR))
  else fail
  else fail
 else
 ex1 s3 n i b out
def Jie {X : Type} (F : Nat) (fail : X) (ex0 ex1 : Int → Int → Int → ZB → List ZR → X) : Nat → Int → Int → Int → ZB → List ZR → X
 | 0, _, _, _, _, _ => fail
 | m + 1, s3, n, i, b, out => Jxh F fail (Jie F fail ex0 ex1 m) ex0 ex1 s3 n i b out
def Kyw {X : Type} (F : Nat) (b : ZB) (fail : X) (ret : List ZR → Int → X) : X :=
 bif (decide ((b.length : Int) > 65536)) then
  ret ([] : List ZR) 5
 else
 bif (Jec b) then
 bif ((Jbz b) != 0) then
  ret ([] : List ZR) (Jbz b)
 else
 bif (decide ((Ja7 b) > 1024)) then
  ret ([] : List ZR) 6
 else
 Jie F fail
  (fun s3 n i b1 out =>
   ret ([] : List ZR) s3)
  (fun s31 n1 i1 b2 out1 =>
   bif (decide ((b2.length : Int) > 0)) then
    ret ([] : List ZR) 3
   else
   ret out1 0)
  F 0 (Ja7 b) 0 (Jay b) ([] : List ZR)
 else fail
def J9a {X : Type} (F : Nat) (fail : X) (next ex0 ex1 : List ZR → List ZR → Bool → Int → X) (a b : List ZR) (s4 : Bool) (i : Int) : X :=
 bif (decide (i < (a.length : Int))) then
  bif ((decide (0 ≤ i)) && (decide (i < (a.length : Int)))) then
  bif ((decide (0 ≤ i)) && (decide (i < (b.length : Int)))) then
  bif ((List.getD a (i).toNat (0, (([] : ZB), ()))).1 != (List.getD b (i).toNat (0, (([] : ZB), ()))).1) then
   ex0 a b false i
  else
  bif ((decide (0 ≤ i)) && (decide (i < (a.length : Int)))) then
  bif ((decide (0 ≤ i)) && (decide (i < (b.length : Int)))) then
  bif (!((List.getD a (i).toNat (0, (([] : ZB), ()))).2.1 == (List.getD b (i).toNat (0, (([] : ZB), ()))).2.1)) then
   ex0 a b false i
  else
  next a b s4 (Jag i 1)
  else fail
  else fail
  else fail
  else fail
 else
 ex1 a b s4 i
def Jqu {X : Type} (F : Nat) (fail : X) (ex0 ex1 : List ZR → List ZR → Bool → Int → X) : Nat → List ZR → List ZR → Bool → Int → X
 | 0, _, _, _, _ => fail
 | m + 1, a, b, s4, i => J9a F fail (Jqu F fail ex0 ex1 m) ex0 ex1 a b s4 i
def Qmj {X : Type} (F : Nat) (a b : List ZR) (fail : X) (ret : Bool → X) : X :=
 bif ((a.length : Int) != (b.length : Int)) then
  ret false
 else
 Jqu F fail
  (fun a1 b1 s4 i =>
   ret s4)
  (fun a2 b2 s41 i1 =>
   ret true)
  F a b false 0
def Jsg {X : Type} (F : Nat) (fail : X) (next ex0 ex1 : List (List ZR) → List (List ZR) → Bool → Int → X) (a b : List (List ZR)) (s4 : Bool) (i : Int) : X :=
 bif (decide (i < (a.length : Int))) then
  bif ((decide (0 ≤ i)) && (decide (i < (a.length : Int)))) then
  bif ((decide (0 ≤ i)) && (decide (i < (b.length : Int)))) then
  bif (Klu (List.getD a (i).toNat ([] : List ZR)) (List.getD b (i).toNat ([] : List ZR))) then
  bif (!(Ka5 (List.getD a (i).toNat ([] : List ZR)) (List.getD b (i).toNat ([] : List ZR)))) then
   ex0 a b false i
  else
  next a b s4 (Jag i 1)
  else fail
  else fail
  else fail
 else
 ex1 a b s4 i
def Jje {X : Type} (F : Nat) (fail : X) (ex0 ex1 : List (List ZR) → List (List ZR) → Bool → Int → X) : Nat → List (List ZR) → List (List ZR) → Bool → Int → X
 | 0, _, _, _, _ => fail
 | m + 1, a, b, s4, i => Jsg F fail (Jje F fail ex0 ex1 m) ex0 ex1 a b s4 i
def Kmh {X : Type} (F : Nat) (a b : List (List ZR)) (fail : X) (ret : Bool → X) : X :=
 bif ((a.length : Int) != (b.length : Int)) then
  ret false
 else
 Jje F fail
  (fun a1 b1 s4 i =>
   ret s4)
  (fun a2 b2 s41 i1 =>
   ret true)
  F a b false 0
end Go.AI
namespace Go.AI
open Go
set_option linter.unusedVariables false
def Kyx {X : Type} (F : Nat) (l : ZL) (key : ZB) (records : List ZR) (fail : X) (ret : ZL → List (Int × (Int × ((List ZB) × Unit))) → Int → X) : X :=
 bif ((Jl7 l) != 0) then
  ret (0, (0, (0, ()))) ([] : List (Int × (Int × ((List ZB) × Unit)))) (Jl7 l)
 else
 bif (Juj records) then
 bif ((Jka records) != 0) then
  ret (0, (0, (0, ()))) ([] : List (Int × (Int × ((List ZB) × Unit)))) (Jka records)
 else
 bif (decide ((key.length : Int) > 0)) then
  bif (Klq key (Jag l.2.1 1) (Jc7 records)) then
  bif ((Jwl key (Jag l.2.1 1) (Jc7 records)) != 0) then
   ret (0, (0, (0, ()))) ([] : List (Int × (Int × ((List ZB) × Unit)))) (Jwl key (Jag l.2.1 1) (Jc7 records))
  else
  bif (J1n l (Jru key (Jag l.2.1 1) (Jc7 records))) then
  ret (Jqb l (Jru key (Jag l.2.1 1) (Jc7 records))) (Jqc l (Jru key (Jag l.2.1 1) (Jc7 records))) (Jqd l (Jru key (Jag l.2.1 1) (Jc7 records)))
  else fail
  else fail
 else
 bif (J1n l (Jc7 records)) then
 ret (Jqb l (Jc7 records)) (Jqc l (Jc7 records)) (Jqd l (Jc7 records))
 else fail
 else fail
def Jzp {X : Type} (F : Nat) (fail : X) (ret : Bool → X) : X :=
 bif (Juj ([(3, (([97, 98] : ZB), ())), (1, (([] : ZB), ()))] : List ZR)) then
 bif (J1r (1, (0, (9, ()))) ([] : ZB) ([(3, (([97, 98] : ZB), ())), (1, (([] : ZB), ()))] : List ZR)) then
 bif (J1r (1, (0, (9, ()))) ([107, 101, 121] : ZB) ([(3, (([97, 98] : ZB), ())), (1, (([] : ZB), ()))] : List ZR)) then
 bif ((Jka ([(3, (([97, 98] : ZB), ())), (1, (([] : ZB), ()))] : List ZR)) != 0) then
  ret false
 else
 bif ((Jqf (1, (0, (9, ()))) ([] : ZB) ([(3, (([97, 98] : ZB), ())), (1, (([] : ZB), ()))] : List ZR)) != 0) then
  ret false
 else
 bif ((Jqf (1, (0, (9, ()))) ([107, 101, 121] : ZB) ([(3, (([97, 98] : ZB), ())), (1, (([] : ZB), ()))] : List ZR)) != 0) then
  ret false
 else
 bif (!((Jc7 ([(3, (([97, 98] : ZB), ())), (1, (([] : ZB), ()))] : List ZR)) == ([2, 3, 2, 97, 98, 1, 0] : ZB))) then
  ret false
 else
 bif ((((Jd7 (1, (0, (9, ()))) ([] : ZB) ([(3, (([97, 98] : ZB), ())), (1, (([] : ZB), ()))] : List ZR)).length : Nat) : Int) != 4) then
  ret false
 else
 bif ((((Jd7 (1, (0, (9, ()))) ([107, 101, 121] : ZB) ([(3, (([97, 98] : ZB), ())), (1, (([] : ZB), ()))] : List ZR)).length : Nat) : Int) != 4) then
  ret false
 else
 bif (Jtw (.pair (.int .i64) (.pair (.int .i64) (.pair (.int .i64) .unit))) (Jqe (1, (0, (9, ()))) ([] : ZB) ([(3, (([97, 98] : ZB), ())), (1, (([] : ZB), ()))] : List ZR)) (3, (1, (9, ())))) then
  bif ((Jqe (1, (0, (9, ()))) ([107, 101, 121] : ZB) ([(3, (([97, 98] : ZB), ())), (1, (([] : ZB), ()))] : List ZR)).1 == 4) then
   bif (decide (0 < (((Jd7 (1, (0, (9, ()))) ([] : ZB) ([(3, (([97, 98] : ZB), ())), (1, (([] : ZB), ()))] : List ZR)).length : Nat) : Int))) then
   bif ((List.getD (Jd7 (1, (0, (9, ()))) ([] : ZB) ([(3, (([97, 98] : ZB), ())), (1, (([] : ZB), ()))] : List ZR)) 0 (0, (0, (([] : List ZB), ())))).2.1 == 1) then
    bif (decide (0 < (((Jd7 (1, (0, (9, ()))) ([] : ZB) ([(3, (([97, 98] : ZB), ())), (1, (([] : ZB), ()))] : List ZR)).length : Nat) : Int))) then
    bif ((((List.getD (Jd7 (1, (0, (9, ()))) ([] : ZB) ([(3, (([97, 98] : ZB), ())), (1, (([] : ZB), ()))] : List ZR)) 0 (0, (0, (([] : List ZB), ())))).2.2.1.length : Nat) : Int) == 1) then
     bif (decide (2 < (((Jd7 (1, (0, (9, ()))) ([] : ZB) ([(3, (([97, 98] : ZB), ())), (1, (([] : ZB), ()))] : List ZR)).length : Nat) : Int))) then
     bif ((List.getD (Jd7 (1, (0, (9, ()))) ([] : ZB) ([(3, (([97, 98] : ZB), ())), (1, (([] : ZB), ()))] : List ZR)) 2 (0, (0, (([] : List ZB), ())))).2.1 == 2) then
      bif (decide (0 < (((Jd7 (1, (0, (9, ()))) ([107, 101, 121] : ZB) ([(3, (([97, 98] : ZB), ())), (1, (([] : ZB), ()))] : List ZR)).length : Nat) : Int))) then
      ret ((((List.getD (Jd7 (1, (0, (9, ()))) ([107, 101, 121] : ZB) ([(3, (([97, 98] : ZB), ())), (1, (([] : ZB), ()))] : List ZR)) 0 (0, (0, (([] : List ZB), ())))).2.2.1.length : Nat) : Int) == 2)
      else fail
     else
     ret false
     else fail
    else
    ret false
    else fail
   else
   ret false
   else fail
  else
  ret false
 else
 ret false
 else fail
 else fail
 else fail
end Go.AI
namespace Go.AI
open Go
set_option linter.unusedVariables false
def Jxi {X : Type} (F : Nat) (fail : X) (next ex0 ex1 : List ZB → Int → Int → ZB → ZL → Int → List (List ZR) → ZB → ZL → X) (s7 : List ZB) (s8 s9 : Int) (key : ZB) (s4 : ZL) (s6 : Int) (out : List (List ZR)) (s2 : ZB) (l : ZL) : X :=
 bif (decide (s9 < s8)) then
  bif ((decide (0 ≤ s9)) && (decide (s9 < (s7.length : Int)))) then
  bif (decide ((s2.length : Int) > 0)) then
   bif (J4a s2 (Jag s9 1) (List.getD s7 (s9).toNat ([] : ZB))) then
   bif ((Jl5 s2 (Jag s9 1) (List.getD s7 (s9).toNat ([] : ZB))) == 0) then
    bif (Jle (Jjn s2 (Jag s9 1) (List.getD s7 (s9).toNat ([] : ZB)))) then
    bif ((Jfk (Jjn s2 (Jag s9 1) (List.getD s7 (s9).toNat ([] : ZB)))) != 0) then
     ex0 s7 s8 s9 key (0, (0, (0, ()))) (Jfk (Jjn s2 (Jag s9 1) (List.getD s7 (s9).toNat ([] : ZB)))) out s2 l
    else
    bif (decide ((out ++ ([(Jfj (Jjn s2 (Jag s9 (1 : Int)) (List.getD s7 (s9).toNat ([] : ZB))))] : List (List ZR))).length ≤ big)) then
    next s7 s8 (Jag s9 (1 : Int)) key s4 s6 (out ++ ([(Jfj (Jjn s2 (Jag s9 (1 : Int)) (List.getD s7 (s9).toNat ([] : ZB))))] : List (List ZR))) s2 l
    else fail
    else fail
   else
   bif ((Jl5 s2 (Jag s9 1) (List.getD s7 (s9).toNat ([] : ZB))) != 0) then
    ex0 s7 s8 s9 key (0, (0, (0, ()))) (Jl5 s2 (Jag s9 1) (List.getD s7 (s9).toNat ([] : ZB))) out s2 l
   else
   bif (decide ((out ++ ([([] : List ZR)] : List (List ZR))).length ≤ big)) then
   next s7 s8 (Jag s9 (1 : Int)) key s4 s6 (out ++ ([([] : List ZR)] : List (List ZR))) s2 l
   else fail
   else fail
  else
  bif (Jle (List.getD s7 (s9).toNat ([] : ZB))) then
  bif ((Jfk (List.getD s7 (s9).toNat ([] : ZB))) != 0) then
   ex0 s7 s8 s9 key (0, (0, (0, ()))) (Jfk (List.getD s7 (s9).toNat ([] : ZB))) out s2 l
  else
  bif (decide ((out ++ ([(Jfj (List.getD s7 (s9).toNat ([] : ZB)))] : List (List ZR))).length ≤ big)) then
  next s7 s8 (Jag s9 (1 : Int)) key s4 s6 (out ++ ([(Jfj (List.getD s7 (s9).toNat ([] : ZB)))] : List (List ZR))) s2 l
  else fail
  else fail
  else fail
 else
 ex1 s7 s8 s9 key s4 s6 out s2 l
def Jif {X : Type} (F : Nat) (fail : X) (ex0 ex1 : List ZB → Int → Int → ZB → ZL → Int → List (List ZR) → ZB → ZL → X) : Nat → List ZB → Int → Int → ZB → ZL → Int → List (List ZR) → ZB → ZL → X
 | 0, _, _, _, _, _, _, _, _, _ => fail
 | m + 1, s7, s8, s9, key, s4, s6, out, s2, l => Jxi F fail (Jif F fail ex0 ex1 m) ex0 ex1 s7 s8 s9 key s4 s6 out s2 l
def Kyy {X : Type} (F : Nat) (d_ : ZD) (key : ZB) (fail : X) (ret : ZL → List (List ZR) → Int → X) : X :=
 bif (Jj9 d_) then
 bif ((Jo3 d_) != 0) then
  ret (0, (0, (0, ()))) ([] : List (List ZR)) (Jo3 d_)
 else
 bif (decide ((key.length : Int) > 64)) then
  ret (0, (0, (0, ()))) ([] : List (List ZR)) 1
 else
 Jif F fail
  (fun s7 s8 s9 Jtr s4 s6 out s2 l =>
   ret s4 ([] : List (List ZR)) s6)
  (fun s71 s81 s91 key2 s41 s61 out1 s21 l1 =>
   ret l1 out1 0)
  F (Jo2 d_) (((Jo2 d_).length : Nat) : Int) 0 key (0, (0, (0, ()))) 0 ([] : List (List ZR)) key (Jry d_)
 else fail
end Go.AI
namespace Go.AI
open Go
set_option linter.unusedVariables false
def Jxj {X : Type} (F : Nat) (fail : X) (next ex0 ex1 : ZB → Int → List ZB → Int → Int → ZL → ZL → List (List ZR) → X) (key : ZB) (s6 : Int) (payloads : List ZB) (e_ i : Int) (s4 l : ZL) (out : List (List ZR)) : X :=
 bif (decide (i < (payloads.length : Int))) then
  bif ((decide (0 ≤ i)) && (decide (i < (payloads.length : Int)))) then
  bif (decide ((key.length : Int) > 0)) then
   bif (J4c key (Jag i 1) (List.getD payloads (i).toNat ([] : ZB))) then
   bif ((Jjr key (Jag i 1) (List.getD payloads (i).toNat ([] : ZB))) == 0) then
    bif (Jlf (Jho key (Jag i 1) (List.getD payloads (i).toNat ([] : ZB)))) then
    bif ((Jdf (Jho key (Jag i 1) (List.getD payloads (i).toNat ([] : ZB)))) != 0) then
     ex0 key (Jdf (Jho key (Jag i 1) (List.getD payloads (i).toNat ([] : ZB)))) payloads (Jdf (Jho key (Jag i 1) (List.getD payloads (i).toNat ([] : ZB)))) i (0, (0, (0, ()))) l out
    else
    bif (decide ((out ++ ([(Jfl (Jho key (Jag i (1 : Int)) (List.getD payloads (i).toNat ([] : ZB))))] : List (List ZR))).length ≤ big)) then
    next key s6 payloads (Jdf (Jho key (Jag i (1 : Int)) (List.getD payloads (i).toNat ([] : ZB)))) (Jag i (1 : Int)) s4 l (out ++ ([(Jfl (Jho key (Jag i (1 : Int)) (List.getD payloads (i).toNat ([] : ZB))))] : List (List ZR)))
    else fail
    else fail
   else
   bif ((Jjr key (Jag i 1) (List.getD payloads (i).toNat ([] : ZB))) != 0) then
    ex0 key (Jjr key (Jag i 1) (List.getD payloads (i).toNat ([] : ZB))) payloads (Jjr key (Jag i 1) (List.getD payloads (i).toNat ([] : ZB))) i (0, (0, (0, ()))) l out
   else
   bif (decide ((out ++ ([([] : List ZR)] : List (List ZR))).length ≤ big)) then
   next key s6 payloads (Jjr key (Jag i (1 : Int)) (List.getD payloads (i).toNat ([] : ZB))) (Jag i (1 : Int)) s4 l (out ++ ([([] : List ZR)] : List (List ZR)))
   else fail
   else fail
  else
  bif (e_ == 0) then
   bif (Jlf (List.getD payloads (i).toNat ([] : ZB))) then
   bif ((Jdf (List.getD payloads (i).toNat ([] : ZB))) != 0) then
    ex0 key (Jdf (List.getD payloads (i).toNat ([] : ZB))) payloads (Jdf (List.getD payloads (i).toNat ([] : ZB))) i (0, (0, (0, ()))) l out
   else
   bif (decide ((out ++ ([(Jfl (List.getD payloads (i).toNat ([] : ZB)))] : List (List ZR))).length ≤ big)) then
   next key s6 payloads (Jdf (List.getD payloads (i).toNat ([] : ZB))) (Jag i (1 : Int)) s4 l (out ++ ([(Jfl (List.getD payloads (i).toNat ([] : ZB)))] : List (List ZR)))
   else fail
   else fail
  else
  bif (e_ != 0) then
   ex0 key e_ payloads e_ i (0, (0, (0, ()))) l out
  else
  bif (decide ((out ++ ([([] : List ZR)] : List (List ZR))).length ≤ big)) then
  next key s6 payloads e_ (Jag i (1 : Int)) s4 l (out ++ ([([] : List ZR)] : List (List ZR)))
  else fail
  else fail
 else
 ex1 key s6 payloads e_ i s4 l out
def Jig {X : Type} (F : Nat) (fail : X) (ex0 ex1 : ZB → Int → List ZB → Int → Int → ZL → ZL → List (List ZR) → X) : Nat → ZB → Int → List ZB → Int → Int → ZL → ZL → List (List ZR) → X
 | 0, _, _, _, _, _, _, _, _ => fail
 | m + 1, key, s6, payloads, e_, i, s4, l, out => Jxj F fail (Jig F fail ex0 ex1 m) ex0 ex1 key s6 payloads e_ i s4 l out
def Kyz {X : Type} (F : Nat) (d_ : ZD) (key : ZB) (fail : X) (ret : ZL → List (List ZR) → Int → X) : X :=
 bif (Jzj d_) then
 bif ((Jl8 d_) != 0) then
  ret (0, (0, (0, ()))) ([] : List (List ZR)) (Jl8 d_)
 else
 bif (decide ((key.length : Int) > 64)) then
  ret (0, (0, (0, ()))) ([] : List (List ZR)) 1
 else
 Jig F fail
  (fun Jtr s6 payloads e_ i s4 l out =>
   ret s4 ([] : List (List ZR)) s6)
  (fun key2 s61 payloads1 e_1 i1 s41 l1 out1 =>
   ret l1 out1 0)
  F key 0 (Jr0 d_) (Jl8 d_) 0 (0, (0, (0, ()))) (Jrz d_) ([] : List (List ZR))
 else fail
end Go.AI
namespace Go.AI
open Go
set_option linter.unusedVariables false
def TransactionReplays {X : Type} (F : Nat) (d_ : ZD) (key : ZB) (fail : X) (ret : Bool → X) : X :=
 bif (!(Kic d_)) then
  ret (Jjt)
 else
 bif (decide ((key.length : Int) > 200)) then
  ret (Jjt)
 else
 bif (J1s d_ key) then
 bif (J1t d_ key) then
 bif (Jjt) then
  bif (Jtw (.pair (.int .i64) (.pair (.int .i64) (.pair (.int .i64) .unit))) (Jwr d_ key) (Jwt d_ key)) then
   bif (Jwp (Jqg d_ key) (Jqh d_ key)) then
   bif (Jwq (Jqg d_ key) (Jqh d_ key)) then
    ret ((Jws d_ key) == (Jwu d_ key))
   else
   ret false
   else fail
  else
  ret false
 else
 ret false
 else fail
 else fail
end Go.AI
