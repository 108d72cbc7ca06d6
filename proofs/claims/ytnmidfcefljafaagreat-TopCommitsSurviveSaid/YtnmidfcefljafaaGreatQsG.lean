/- Texts of the proof, joined: DiskG DigestG1 WireG WireG2 DigestG2 CipherG2 CipherG LogG TransG TransG2 TransG3 TopG TopG5. Names of our own are shortened by program; the long ones stand in wip/. -/
import Derived.Test.YtnmidfcefljafaaGreatQsS
set_option linter.unusedVariables false
namespace Go.AI
open Go
set_option linter.unusedVariables false
def Kv9 {X : Type} (F : Nat) (s : List ZB) (fail : X) (Jmd : X → X → X) (ret : List ZB → X) : X :=
 bif (List.isEmpty s) then
  Jmd (
   ret ([] : List ZB)) (
   bif (decide (s.length ≤ big)) then
   ret s
   else fail)
 else
 bif (decide (s.length ≤ big)) then
 ret s
 else fail
def Kwa {X : Type} (F : Nat) (s : List ZR) (fail : X) (Jmd : X → X → X) (ret : List ZR → X) : X :=
 bif (List.isEmpty s) then
  Jmd (
   ret ([] : List ZR)) (
   bif (decide (s.length ≤ big)) then
   ret s
   else fail)
 else
 bif (decide (s.length ≤ big)) then
 ret s
 else fail
def K5l {X : Type} (F : Nat) (s : List Int) (fail : X) (Jmd : X → X → X) (ret : List Int → X) : X :=
 bif (List.isEmpty s) then
  Jmd (
   ret ([] : List Int)) (
   bif (decide (s.length ≤ big)) then
   ret s
   else fail)
 else
 bif (decide (s.length ≤ big)) then
 ret s
 else fail
def K5m {X : Type} (F : Nat) (d_ : ZD) (at_ count : Int) (fail : X) (ret : Bool → X) : X :=
 bif (decide (at_ ≥ 0)) then
  bif (decide (count ≥ 0)) then
   bif (decide (at_ ≤ ((d_.1.length : Nat) : Int))) then
    ret (decide (count ≤ (Jdj ((d_.1.length : Nat) : Int) at_)))
   else
   ret false
  else
  ret false
 else
 ret false
def dNew {X : Type} (F : Nat) (pages : Int) (fail : X) (ret : ZD → Int → X) : X :=
 bif (decide (pages < 1)) then
  ret (([] : List ZB), (([] : List ZR), ())) 2
 else
 bif (decide (pages > 8192)) then
  ret (([] : List ZB), (([] : List ZR), ())) 2
 else
 bif (((decide (0 ≤ pages)) && true) && (decide (pages ≤ ((big : Nat) : Int)))) then
 ret ((List.replicate (pages).toNat z16), (([] : List ZR), ())) (0 : Int)
 else fail
def Jv1 {X : Type} (F : Nat) (fail : X) (next ex0 ex1 : List ZR → Int → Int → Int → ZD → X) (s : List ZR) (s4 s7 s8 : Int) (f : ZD) : X :=
 bif (decide (s8 < s7)) then
  bif ((decide (0 ≤ s8)) && (decide (s8 < (s.length : Int)))) then
  bif (decide ((List.getD s (s8).toNat (0, (z16, ()))).1 < 0)) then
   ex0 s s8 s7 s8 f
  else
  bif (decide ((List.getD s (s8).toNat (0, (z16, ()))).1 ≥ ((f.1.length : Nat) : Int))) then
   ex0 s s8 s7 s8 f
  else
  next s s4 s7 (Jat s8 1) f
  else fail
 else
 ex1 s s4 s7 s8 f
def Jj4 {X : Type} (F : Nat) (fail : X) (ex0 ex1 : List ZR → Int → Int → Int → ZD → X) : Nat → List ZR → Int → Int → Int → ZD → X
 | 0, _, _, _, _, _ => fail
 | m + 1, s, s4, s7, s8, f => Jv1 F fail (Jj4 F fail ex0 ex1 m) ex0 ex1 s s4 s7 s8 f
def Kwb {X : Type} (F : Nat) (d_ : ZD) (fail : X) (ret : Int → X) : X :=
 bif (decide (((d_.1.length : Nat) : Int) < 1)) then
  ret 2
 else
 bif (decide (((d_.1.length : Nat) : Int) > 8192)) then
  ret 2
 else
 Jj4 F fail
  (fun s s4 s7 s8 f =>
   bif (decide (s4 ≥ 0)) then
    ret 2
   else
   ret 0)
  (fun s1 s41 s71 s81 f1 =>
   ret 0)
  F d_.2.1 0 ((d_.2.1.length : Nat) : Int) 0 d_
def Jn1 {X : Type} (F : Nat) (fail : X) (next ex0 : List ZR → Int → Int → List ZB → X) (s10 : List ZR) (s11 s12 : Int) (out : List ZB) : X :=
 bif (decide (s12 < s11)) then
  bif ((decide (0 ≤ s12)) && (decide (s12 < (s10.length : Int)))) then
  bif ((decide (0 ≤ (List.getD s10 (s12).toNat (0, (z16, ()))).1)) && (decide ((List.getD s10 (s12).toNat (0, (z16, ()))).1 < (out.length : Int)))) then
  next s10 s11 (Jat s12 1) (List.set out ((List.getD s10 (s12).toNat (0, (z16, ()))).1).toNat (List.getD s10 (s12).toNat (0, (z16, ()))).2.1)
  else fail
  else fail
 else
 ex0 s10 s11 s12 out
def Jg4 {X : Type} (F : Nat) (fail : X) (ex0 : List ZR → Int → Int → List ZB → X) : Nat → List ZR → Int → Int → List ZB → X
 | 0, _, _, _, _ => fail
 | m + 1, s10, s11, s12, out => Jn1 F fail (Jg4 F fail ex0 m) ex0 s10 s11 s12 out
def Kal {X : Type} (F : Nat) (d_ : ZD) (fail : X) (ret : List ZB → X) : X :=
 bif (Jho d_.1) then
 Jg4 F fail
  (fun s10 s11 s12 out =>
   ret out)
  F d_.2.1 ((d_.2.1.length : Nat) : Int) 0 (Jns d_.1)
 else fail
def K5n {X : Type} (F : Nat) (d_ : ZD) (at_ count : Int) (fail : X) (ret : List ZB → Int → X) : X :=
 bif (Jil d_) then
 bif ((Jes d_) != 0) then
  ret ([] : List ZB) (Jes d_)
 else
 bif (Jxy d_ at_ count) then
 bif (!(Jp0 d_ at_ count)) then
  ret ([] : List ZB) 2
 else
 bif (Jg1 d_) then
 bif (((decide (0 ≤ at_)) && (decide (at_ ≤ (Jat at_ count)))) && (decide ((Jat at_ count) ≤ (((Jh7 d_).length : Nat) : Int)))) then
 bif (Jho (List.take (((Jat at_ count)).toNat - (at_).toNat) (List.drop (at_).toNat (Jh7 d_)))) then
 ret (Jns (List.take (((Jat at_ count)).toNat - (at_).toNat) (List.drop (at_).toNat (Jh7 d_)))) 0
 else fail
 else fail
 else fail
 else fail
 else fail
def Kam {X : Type} (F : Nat) (fail : X) (next ex0 : List ZB → Int → Int → List (Int × (Int × ((List ZB) × Unit))) → Int → Int → Int → List (Int × (Int × ((List ZB) × Unit))) → Int → Int → List ZB → List ZR → (Int × (Int × ((List ZB) × Unit))) → ZD → X) (s18 : List ZB) (s19 s20 : Int) (l : List (Int × (Int × ((List ZB) × Unit)))) (s5 s6 i : Int) (s22 : List (Int × (Int × ((List ZB) × Unit)))) (s23 s24 : Int) (h1 : List ZB) (h2 : List ZR) (op : (Int × (Int × ((List ZB) × Unit)))) (s4 : ZD) : X :=
 bif (decide (s20 < s19)) then
  bif ((decide (0 ≤ s20)) && (decide (s20 < (s18.length : Int)))) then
  bif (decide ((h2 ++ ([((Jat op.2.1 s20), ((List.getD s18 (s20).toNat z16), ()))] : List ZR)).length ≤ big)) then
  next s18 s19 (Jat s20 (1 : Int)) l s5 s6 i s22 s23 s24 h1 (h2 ++ ([((Jat op.2.1 s20), ((List.getD s18 (s20).toNat z16), ()))] : List ZR)) op s4
  else fail
  else fail
 else
 ex0 s18 s19 s20 l s5 s6 i s22 s23 s24 h1 h2 op s4
def Jrv {X : Type} (F : Nat) (fail : X) (ex0 : List ZB → Int → Int → List (Int × (Int × ((List ZB) × Unit))) → Int → Int → Int → List (Int × (Int × ((List ZB) × Unit))) → Int → Int → List ZB → List ZR → (Int × (Int × ((List ZB) × Unit))) → ZD → X) : Nat → List ZB → Int → Int → List (Int × (Int × ((List ZB) × Unit))) → Int → Int → Int → List (Int × (Int × ((List ZB) × Unit))) → Int → Int → List ZB → List ZR → (Int × (Int × ((List ZB) × Unit))) → ZD → X
 | 0, _, _, _, _, _, _, _, _, _, _, _, _, _, _ => fail
 | m + 1, s18, s19, s20, l, s5, s6, i, s22, s23, s24, h1, h2, op, s4 => Kam F fail (Jrv F fail ex0 m) ex0 s18 s19 s20 l s5 s6 i s22 s23 s24 h1 h2 op s4
def Kan {X : Type} (F : Nat) (fail : X) (next ex0 ex1 : List (Int × (Int × ((List ZB) × Unit))) → Int → Int → List (Int × (Int × ((List ZB) × Unit))) → Int → Int → ZD → List ZB → List ZR → X) (l : List (Int × (Int × ((List ZB) × Unit)))) (s5 s6 : Int) (s22 : List (Int × (Int × ((List ZB) × Unit)))) (s23 s24 : Int) (s4 : ZD) (h2 : List ZB) (h3 : List ZR) : X :=
 bif (decide (s24 < s23)) then
  bif ((decide (0 ≤ s24)) && (decide (s24 < (s22.length : Int)))) then
  bif (decide ((List.getD s22 (s24).toNat (0, (0, (([] : List ZB), ())))).1 ≥ 0)) then
   bif (decide ((List.getD s22 (s24).toNat (0, (0, (([] : List ZB), ())))).1 < 2)) then
    bif ((decide (0 ≤ (List.getD s22 (s24).toNat (0, (0, (([] : List ZB), ())))).1)) && (decide ((List.getD s22 (s24).toNat (0, (0, (([] : List ZB), ())))).1 < (2 : Int)))) then
    bif (Nat.beq ((List.getD s22 (s24).toNat (0, (0, (([] : List ZB), ())))).1).toNat 0) then
     bif (Jxy (h2, (h3, ())) (List.getD s22 (s24).toNat (0, (0, (([] : List ZB), ())))).2.1 (((List.getD s22 (s24).toNat (0, (0, (([] : List ZB), ())))).2.2.1.length : Nat) : Int)) then
     bif (!(Jp0 (h2, (h3, ())) (List.getD s22 (s24).toNat (0, (0, (([] : List ZB), ())))).2.1 (((List.getD s22 (s24).toNat (0, (0, (([] : List ZB), ())))).2.2.1.length : Nat) : Int))) then
      ex0 l s24 2 s22 s23 s24 (([] : List ZB), (([] : List ZR), ())) h2 h3
     else
     Jrv F fail
      (fun s18 s19 s20 l1 s51 s61 i s221 s231 s241 h1 h21 op s41 =>
       next l1 s51 s61 s221 s231 (Jat s241 1) s41 h1 h21)
      F (List.getD s22 (s24).toNat (0, (0, (([] : List ZB), ())))).2.2.1 (((List.getD s22 (s24).toNat (0, (0, (([] : List ZB), ())))).2.2.1.length : Nat) : Int) 0 l s5 s6 s24 s22 s23 s24 h2 h3 (List.getD s22 (s24).toNat (0, (0, (([] : List ZB), ())))) s4
     else fail
    else
    bif (Nat.beq ((List.getD s22 (s24).toNat (0, (0, (([] : List ZB), ())))).1).toNat 1) then
    bif (Jg1 (h2, (h3, ()))) then
    next l s5 s6 s22 s23 (Jat s24 1) s4 (Jh7 (h2, (h3, ()))) ([] : List ZR)
    else fail
    else fail
    else fail
   else
   ex0 l s24 1 s22 s23 s24 (([] : List ZB), (([] : List ZR), ())) h2 h3
  else
  ex0 l s24 1 s22 s23 s24 (([] : List ZB), (([] : List ZR), ())) h2 h3
  else fail
 else
 ex1 l s5 s6 s22 s23 s24 s4 h2 h3
def Jn2 {X : Type} (F : Nat) (fail : X) (ex0 ex1 : List (Int × (Int × ((List ZB) × Unit))) → Int → Int → List (Int × (Int × ((List ZB) × Unit))) → Int → Int → ZD → List ZB → List ZR → X) : Nat → List (Int × (Int × ((List ZB) × Unit))) → Int → Int → List (Int × (Int × ((List ZB) × Unit))) → Int → Int → ZD → List ZB → List ZR → X
 | 0, _, _, _, _, _, _, _, _, _ => fail
 | m + 1, l, s5, s6, s22, s23, s24, s4, h2, h3 => Kan F fail (Jn2 F fail ex0 ex1 m) ex0 ex1 l s5 s6 s22 s23 s24 s4 h2 h3
def dRun {X : Type} (F : Nat) (d_ : ZD) (l : List (Int × (Int × ((List ZB) × Unit)))) (fail : X) (ret : ZD → Int → Int → X) : X :=
 bif (Jil d_) then
 bif ((Jes d_) != 0) then
  ret (([] : List ZB), (([] : List ZR), ())) 0 (Jes d_)
 else
 bif (Jho d_.1) then
 bif (Jvq d_.2.1) then
 Jn2 F fail
  (fun l1 s5 s6 s22 s23 s24 s4 h2 h3 =>
   ret s4 s5 s6)
  (fun l2 s51 s61 s221 s231 s241 s41 h21 h31 =>
   ret (h21, (h31, ())) (l2.length : Int) 0)
  F l 0 0 l (l.length : Int) 0 (([] : List ZB), (([] : List ZR), ())) (Jns d_.1) (J06 d_.2.1)
 else fail
 else fail
 else fail
def Kky {X : Type} (F : Nat) (choices : List Int) (n : Int) (fail : X) (ret : Int → List Int → X) : X :=
 bif ((choices.length : Int) == 0) then
  ret 0 ([] : List Int)
 else
 bif (decide (0 < (choices.length : Int))) then
 bif (n != 0) then
 bif (decide ((Jhk (List.getD choices 0 0) n) < 0)) then
  bif (decide (1 ≤ (choices.length : Int))) then
  ret (Jat (Jhk (List.getD choices 0 0) n) n) (List.drop 1 choices)
  else fail
 else
 bif (decide (1 ≤ (choices.length : Int))) then
 ret (Jhk (List.getD choices 0 0) n) (List.drop 1 choices)
 else fail
 else fail
 else fail
def Jv2 {X : Type} (F : Nat) (fail : X) (next ex0 : List Int → List ZR → Int → Int → ZD → ZD → List (Int × (List ZB)) → List Int → X) (choices : List Int) (s24 : List ZR) (s25 s26 : Int) (d_ s4 : ZD) (versions : List (Int × (List ZB))) (places : List Int) : X :=
 bif (decide (s26 < s25)) then
  bif ((decide (0 ≤ s26)) && (decide (s26 < (s24.length : Int)))) then
  bif (Option.isNone (Jdd (Jcu (.int .i64)) (List.getD s24 (s26).toNat (0, (z16, ()))).1 versions)) then
   bif (decide ((places ++ ([(List.getD s24 (s26).toNat ((0 : Int), (z16, ()))).1] : List Int)).length ≤ big)) then
   bif ((decide (0 ≤ (List.getD s24 (s26).toNat (0, (z16, ()))).1)) && (decide ((List.getD s24 (s26).toNat (0, (z16, ()))).1 < ((d_.1.length : Nat) : Int)))) then
   bif (decide (versions.length < big)) then
   bif (Option.isSome (Jdd (Jcu (.int .i64)) (List.getD s24 (s26).toNat (0, (z16, ()))).1 (Jjz (Jcu (.int .i64)) (List.getD s24 (s26).toNat (0, (z16, ()))).1 ([(List.getD d_.1 ((List.getD s24 (s26).toNat (0, (z16, ()))).1).toNat z16)] : List ZB) versions))) then
   bif (decide (((Option.getD (Jdd (Jcu (.int .i64)) (List.getD s24 (s26).toNat ((0 : Int), (z16, ()))).1 (Jjz (Jcu (.int .i64)) (List.getD s24 (s26).toNat ((0 : Int), (z16, ()))).1 ([(List.getD d_.1 ((List.getD s24 (s26).toNat ((0 : Int), (z16, ()))).1).toNat z16)] : List ZB) versions)) ([] : List ZB)) ++ ([(List.getD s24 (s26).toNat ((0 : Int), (z16, ()))).2.1] : List ZB)).length ≤ big)) then
   bif (((Jcu (.int .i64) (List.getD s24 (s26).toNat ((0 : Int), (z16, ()))).1 (List.getD s24 (s26).toNat ((0 : Int), (z16, ()))).1) && (decide (0 < ((Option.getD (Jdd (Jcu (.int .i64)) (List.getD s24 (s26).toNat ((0 : Int), (z16, ()))).1 (Jjz (Jcu (.int .i64)) (List.getD s24 (s26).toNat ((0 : Int), (z16, ()))).1 ([(List.getD d_.1 ((List.getD s24 (s26).toNat ((0 : Int), (z16, ()))).1).toNat z16)] : List ZB) versions)) ([] : List ZB)) ++ ([(List.getD s24 (s26).toNat ((0 : Int), (z16, ()))).2.1] : List ZB)).length))) && (decide ((Jjz (Jcu (.int .i64)) (List.getD s24 (s26).toNat ((0 : Int), (z16, ()))).1 ([(List.getD d_.1 ((List.getD s24 (s26).toNat ((0 : Int), (z16, ()))).1).toNat z16)] : List ZB) versions).length < big))) then
   next choices s24 s25 (Jat s26 (1 : Int)) d_ s4 (Jjz (Jcu (.int .i64)) (List.getD s24 (s26).toNat ((0 : Int), (z16, ()))).1 ((Option.getD (Jdd (Jcu (.int .i64)) (List.getD s24 (s26).toNat ((0 : Int), (z16, ()))).1 (Jjz (Jcu (.int .i64)) (List.getD s24 (s26).toNat ((0 : Int), (z16, ()))).1 ([(List.getD d_.1 ((List.getD s24 (s26).toNat ((0 : Int), (z16, ()))).1).toNat z16)] : List ZB) versions)) ([] : List ZB)) ++ ([(List.getD s24 (s26).toNat ((0 : Int), (z16, ()))).2.1] : List ZB)) (Jjz (Jcu (.int .i64)) (List.getD s24 (s26).toNat ((0 : Int), (z16, ()))).1 ([(List.getD d_.1 ((List.getD s24 (s26).toNat ((0 : Int), (z16, ()))).1).toNat z16)] : List ZB) versions)) (places ++ ([(List.getD s24 (s26).toNat ((0 : Int), (z16, ()))).1] : List Int))
   else fail
   else fail
   else fail
   else fail
   else fail
   else fail
  else
  bif (Option.isSome (Jdd (Jcu (.int .i64)) (List.getD s24 (s26).toNat (0, (z16, ()))).1 versions)) then
  bif (decide (((Option.getD (Jdd (Jcu (.int .i64)) (List.getD s24 (s26).toNat ((0 : Int), (z16, ()))).1 versions) ([] : List ZB)) ++ ([(List.getD s24 (s26).toNat ((0 : Int), (z16, ()))).2.1] : List ZB)).length ≤ big)) then
  bif (((Jcu (.int .i64) (List.getD s24 (s26).toNat ((0 : Int), (z16, ()))).1 (List.getD s24 (s26).toNat ((0 : Int), (z16, ()))).1) && (decide (0 < ((Option.getD (Jdd (Jcu (.int .i64)) (List.getD s24 (s26).toNat ((0 : Int), (z16, ()))).1 versions) ([] : List ZB)) ++ ([(List.getD s24 (s26).toNat ((0 : Int), (z16, ()))).2.1] : List ZB)).length))) && (decide (versions.length < big))) then
  next choices s24 s25 (Jat s26 (1 : Int)) d_ s4 (Jjz (Jcu (.int .i64)) (List.getD s24 (s26).toNat ((0 : Int), (z16, ()))).1 ((Option.getD (Jdd (Jcu (.int .i64)) (List.getD s24 (s26).toNat ((0 : Int), (z16, ()))).1 versions) ([] : List ZB)) ++ ([(List.getD s24 (s26).toNat ((0 : Int), (z16, ()))).2.1] : List ZB)) versions) places
  else fail
  else fail
  else fail
  else fail
 else
 ex0 choices s24 s25 s26 d_ s4 versions places
def Jj5 {X : Type} (F : Nat) (fail : X) (ex0 : List Int → List ZR → Int → Int → ZD → ZD → List (Int × (List ZB)) → List Int → X) : Nat → List Int → List ZR → Int → Int → ZD → ZD → List (Int × (List ZB)) → List Int → X
 | 0, _, _, _, _, _, _, _, _ => fail
 | m + 1, choices, s24, s25, s26, d_, s4, versions, places => Jv2 F fail (Jj5 F fail ex0 m) ex0 choices s24 s25 s26 d_ s4 versions places
def Jv3 {X : Type} (F : Nat) (fail : X) (next ex0 : List Int → Int → Int → ZD → List (Int × (List ZB)) → ((List ZR) × Unit) → List ZB → List Int → X) (choices : List Int) (s67 s68 : Int) (s4 : ZD) (versions : List (Int × (List ZB))) (out : ((List ZR) × Unit)) (h3 : List ZB) (s66 : List Int) : X :=
 bif (decide (s68 < s67)) then
  bif ((decide (0 ≤ s68)) && (decide (s68 < (s66.length : Int)))) then
  bif (Jp1 choices (((Option.getD (Jdd (Jcu (.int .i64)) (List.getD s66 (s68).toNat 0) versions) ([] : List ZB)).length : Nat) : Int)) then
  bif ((decide (0 ≤ (Jh9 choices (((Option.getD (Jdd (Jcu (.int .i64)) (List.getD s66 (s68).toNat 0) versions) ([] : List ZB)).length : Nat) : Int)))) && (decide ((Jh9 choices (((Option.getD (Jdd (Jcu (.int .i64)) (List.getD s66 (s68).toNat 0) versions) ([] : List ZB)).length : Nat) : Int)) < (((Option.getD (Jdd (Jcu (.int .i64)) (List.getD s66 (s68).toNat 0) versions) ([] : List ZB)).length : Nat) : Int)))) then
  bif ((decide (0 ≤ (List.getD s66 (s68).toNat 0))) && (decide ((List.getD s66 (s68).toNat 0) < (h3.length : Int)))) then
  next (Jmk choices (((Option.getD (Jdd (Jcu (.int .i64)) (List.getD s66 (s68).toNat 0) versions) ([] : List ZB)).length : Nat) : Int)) s67 (Jat s68 1) s4 versions out (List.set h3 ((List.getD s66 (s68).toNat 0)).toNat (List.getD (Option.getD (Jdd (Jcu (.int .i64)) (List.getD s66 (s68).toNat 0) versions) ([] : List ZB)) ((Jh9 choices (((Option.getD (Jdd (Jcu (.int .i64)) (List.getD s66 (s68).toNat 0) versions) ([] : List ZB)).length : Nat) : Int))).toNat z16)) s66
  else fail
  else fail
  else fail
  else fail
 else
 ex0 choices s67 s68 s4 versions out h3 s66
def Jj6 {X : Type} (F : Nat) (fail : X) (ex0 : List Int → Int → Int → ZD → List (Int × (List ZB)) → ((List ZR) × Unit) → List ZB → List Int → X) : Nat → List Int → Int → Int → ZD → List (Int × (List ZB)) → ((List ZR) × Unit) → List ZB → List Int → X
 | 0, _, _, _, _, _, _, _, _ => fail
 | m + 1, choices, s67, s68, s4, versions, out, h3, s66 => Jv3 F fail (Jj6 F fail ex0 m) ex0 choices s67 s68 s4 versions out h3 s66
def Kwc {X : Type} (F : Nat) (d_ : ZD) (choices : List Int) (fail : X) (ret : ZD → List Int → Int → X) : X :=
 bif (Jil d_) then
 bif ((Jes d_) != 0) then
  ret (([] : List ZB), (([] : List ZR), ())) ([] : List Int) (Jes d_)
 else
 Jj5 F fail
  (fun choices1 s24 s25 s26 d_1 s4 versions places =>
   bif (Jho d_1.1) then
   Jj6 F fail
    (fun choices2 s67 s68 s41 versions1 out h3 s66 =>
     bif (J2t choices2) then
     ret (h3, out) (Kae choices2) 0
     else fail)
    F choices1 (places.length : Int) 0 s4 versions (([] : List ZR), ()) (Jns d_1.1) places
   else fail)
  F choices d_.2.1 ((d_.2.1.length : Nat) : Int) 0 d_ (([] : List ZB), (([] : List ZR), ())) ([] : List (Int × (List ZB))) ([] : List Int)
 else fail
def Jx6 {X : Type} (F : Nat) (d_ : ZD) (l : List (Int × (Int × ((List ZB) × Unit)))) (after : Int) (choices : List Int) (fail : X) (ret : ZD → List Int → Int → X) : X :=
 bif (Jil d_) then
 bif ((Jes d_) != 0) then
  ret (([] : List ZB), (([] : List ZR), ())) ([] : List Int) (Jes d_)
 else
 bif (decide (after < 0)) then
  ret (([] : List ZB), (([] : List ZR), ())) ([] : List Int) 2
 else
 bif (decide (after > (l.length : Int))) then
  ret (([] : List ZB), (([] : List ZR), ())) ([] : List Int) 2
 else
 bif ((decide (0 ≤ after)) && (decide (after ≤ (l.length : Int)))) then
 bif (Jvr d_ (List.take (after).toNat l)) then
 bif ((Jh8 d_ (List.take (after).toNat l)) != 0) then
  ret (([] : List ZB), (([] : List ZR), ())) ([] : List Int) (Jh8 d_ (List.take (after).toNat l))
 else
 bif (Jvs (Jdl d_ (List.take (after).toNat l)) choices) then
 ret (Jp2 (Jdl d_ (List.take (after).toNat l)) choices) (Jp3 (Jdl d_ (List.take (after).toNat l)) choices) (Jp4 (Jdl d_ (List.take (after).toNat l)) choices)
 else fail
 else fail
 else fail
 else fail
end Go.AI
namespace Go.AI
open Go
set_option linter.unusedVariables false
def rotr {X : Type} (F : Nat) (x_ : UInt32) (n : Int) (fail : X) (ret : UInt32 → X) : X :=
 bif (decide (0 ≤ n)) then
 bif (decide (0 ≤ (Jdj 32 n))) then
 ret (orW (Jrn x_ n) (Jxf x_ (Jdj 32 n)))
 else fail
 else fail
def shr {X : Type} (F : Nat) (x_ : UInt32) (n : Int) (fail : X) (ret : UInt32 → X) : X :=
 bif (decide (0 ≤ n)) then
 ret (Jrn x_ n)
 else fail
def Kkz {X : Type} (F : Nat) (x_ : UInt32) (a b c : Int) (fail : X) (ret : UInt32 → X) : X :=
 bif (Jsw x_ a) then
 bif (Jsw x_ b) then
 bif (Jsw x_ c) then
 ret (Jl5 (Jl5 (J2v x_ a) (J2v x_ b)) (J2v x_ c))
 else fail
 else fail
 else fail
def Kk0 {X : Type} (F : Nat) (x_ : UInt32) (a b c : Int) (fail : X) (ret : UInt32 → X) : X :=
 bif (Jsw x_ a) then
 bif (Jsw x_ b) then
 bif (K1p x_ c) then
 ret (Jl5 (Jl5 (J2v x_ a) (J2v x_ b)) (K5j x_ c))
 else fail
 else fail
 else fail
def K3w {X : Type} (F : Nat) (fail : X) (ret : ZW → X) : X :=
 ret (List.set (List.set (List.set (List.set (List.set (List.set (List.set (List.set (List.set (List.set (List.set (List.set (List.set (List.set (List.set (List.set (List.set (List.set (List.set (List.set (List.set (List.set (List.set (List.set (List.set (List.set (List.set (List.set (List.set (List.set (List.set (List.set (List.set (List.set (List.set (List.set (List.set (List.set (List.set (List.set (List.set (List.set (List.set (List.set (List.set (List.set (List.set (List.set (List.set (List.set (List.set (List.set (List.set (List.set (List.set (List.set (List.set (List.set (List.set (List.set (List.set (List.set (List.set (List.set (List.replicate 64 (0 : UInt32)) 0 (1116352408 : UInt32)) 1 (1899447441 : UInt32)) 2 (3049323471 : UInt32)) 3 (3921009573 : UInt32)) 4 (961987163 : UInt32)) 5 (1508970993 : UInt32)) 6 (2453635748 : UInt32)) 7 (2870763221 : UInt32)) 8 (3624381080 : UInt32)) 9 (310598401 : UInt32)) 10 (607225278 : UInt32)) 11 (1426881987 : UInt32)) 12 (1925078388 : UInt32)) 13 (2162078206 : UInt32)) 14 (2614888103 : UInt32)) 15 (3248222580 : UInt32)) 16 (3835390401 : UInt32)) 17 (4022224774 : UInt32)) 18 (264347078 : UInt32)) 19 (604807628 : UInt32)) 20 (770255983 : UInt32)) 21 (1249150122 : UInt32)) 22 (1555081692 : UInt32)) 23 (1996064986 : UInt32)) 24 (2554220882 : UInt32)) 25 (2821834349 : UInt32)) 26 (2952996808 : UInt32)) 27 (3210313671 : UInt32)) 28 (3336571891 : UInt32)) 29 (3584528711 : UInt32)) 30 (113926993 : UInt32)) 31 (338241895 : UInt32)) 32 (666307205 : UInt32)) 33 (773529912 : UInt32)) 34 (1294757372 : UInt32)) 35 (1396182291 : UInt32)) 36 (1695183700 : UInt32)) 37 (1986661051 : UInt32)) 38 (2177026350 : UInt32)) 39 (2456956037 : UInt32)) 40 (2730485921 : UInt32)) 41 (2820302411 : UInt32)) 42 (3259730800 : UInt32)) 43 (3345764771 : UInt32)) 44 (3516065817 : UInt32)) 45 (3600352804 : UInt32)) 46 (4094571909 : UInt32)) 47 (275423344 : UInt32)) 48 (430227734 : UInt32)) 49 (506948616 : UInt32)) 50 (659060556 : UInt32)) 51 (883997877 : UInt32)) 52 (958139571 : UInt32)) 53 (1322822218 : UInt32)) 54 (1537002063 : UInt32)) 55 (1747873779 : UInt32)) 56 (1955562222 : UInt32)) 57 (2024104815 : UInt32)) 58 (2227730452 : UInt32)) 59 (2361852424 : UInt32)) 60 (2428436474 : UInt32)) 61 (2756734187 : UInt32)) 62 (3204031479 : UInt32)) 63 (3329325298 : UInt32))
def Jv4 {X : Type} (F : Nat) (fail : X) (next ex0 : Int → UInt32 → ZW → Int → ZB → Int → Int → ZW → ZB → ZW → ZW → ZW → X) (i : Int) (k : UInt32) (s10 : ZW) (s11 : Int) (s23 : ZB) (s24 s25 : Int) (x_ : ZW) (s1 : ZB) (w s s4 : ZW) : X :=
 bif (decide (s25 < s24)) then
  bif ((decide (0 ≤ s25)) && (decide (s25 < (s23.length : Int)))) then
  bif ((decide (0 ≤ i)) && (decide (i < (16 : Int)))) then
  bif ((decide (0 ≤ i)) && (decide (i < (16 : Int)))) then
  next i k s10 s11 s23 s24 (Jat s25 1) x_ s1 (List.set w (i).toNat (orW (Jxf (List.getD w (i).toNat 0) 8) (Jxg (List.getD s23 (s25).toNat 0)))) s s4
  else fail
  else fail
  else fail
 else
 ex0 i k s10 s11 s23 s24 s25 x_ s1 w s s4
def Jg5 {X : Type} (F : Nat) (fail : X) (ex0 : Int → UInt32 → ZW → Int → ZB → Int → Int → ZW → ZB → ZW → ZW → ZW → X) : Nat → Int → UInt32 → ZW → Int → ZB → Int → Int → ZW → ZB → ZW → ZW → ZW → X
 | 0, _, _, _, _, _, _, _, _, _, _, _, _ => fail
 | m + 1, i, k, s10, s11, s23, s24, s25, x_, s1, w, s, s4 => Jv4 F fail (Jg5 F fail ex0 m) ex0 i k s10 s11 s23 s24 s25 x_ s1 w s s4
def Jv5 {X : Type} (F : Nat) (fail : X) (next ex0 : ZW → Int → ZW → ZB → ZW → ZW → ZW → X) (s10 : ZW) (s11 : Int) (x_ : ZW) (s1 : ZB) (w s s4 : ZW) : X :=
 bif (decide (s11 < 64)) then
  bif ((decide (0 ≤ s11)) && (decide (s11 < (64 : Int)))) then
  bif (decide (s11 < 16)) then
   bif (((decide (0 ≤ (Jll 4 s11))) && (decide ((Jll 4 s11) ≤ (Jat (Jll 4 s11) 4)))) && (decide ((Jat (Jll 4 s11) 4) ≤ (s1.length : Int)))) then
   Jg5 F fail
    (fun i k s101 s111 s23 s24 s25 x_1 s12 w1 s2 s41 =>
     bif ((decide ((0 : Int) ≤ (Jhk i (16 : Int)))) && (decide ((Jhk i (16 : Int)) < ((16 : Nat) : Int)))) then
     bif (Jfe (List.getD x_1 4 0) 6 11 25 169) then
     bif (Jfe (List.getD x_1 0 0) 2 13 22 169) then
     next s101 (Jat s111 1) ([(Jcv (Jcv (Jcv (Jcv (List.getD x_1 7 0) (Jd6 (List.getD x_1 4 0) 6 11 25 169)) (Jl5 (List.getD x_1 6 0) (J2q (List.getD x_1 4 0) (Jl5 (List.getD x_1 5 0) (List.getD x_1 6 0))))) (Jcv k (List.getD w1 ((Jhk i 16)).toNat 0))) (Jcv (Jd6 (List.getD x_1 0 0) 2 13 22 169) (orW (J2q (List.getD x_1 0 0) (List.getD x_1 1 0)) (J2q (List.getD x_1 2 0) (orW (List.getD x_1 0 0) (List.getD x_1 1 0)))))), (List.getD x_1 0 0), (List.getD x_1 1 0), (List.getD x_1 2 0), (Jcv (List.getD x_1 3 0) (Jcv (Jcv (Jcv (List.getD x_1 7 0) (Jd6 (List.getD x_1 4 0) 6 11 25 169)) (Jl5 (List.getD x_1 6 0) (J2q (List.getD x_1 4 0) (Jl5 (List.getD x_1 5 0) (List.getD x_1 6 0))))) (Jcv k (List.getD w1 ((Jhk i 16)).toNat 0)))), (List.getD x_1 4 0), (List.getD x_1 5 0), (List.getD x_1 6 0)] : ZW) s12 w1 s2 s41
     else fail
     else fail
     else fail)
    F s11 (List.getD s10 (s11).toNat 0) s10 s11 (List.drop ((Jll 4 s11)).toNat (List.take ((Jat (Jll 4 s11) 4)).toNat s1)) (((List.drop ((Jll 4 s11)).toNat (List.take ((Jat (Jll 4 s11) 4)).toNat s1)).length : Nat) : Int) 0 x_ s1 w s s4
   else fail
  else
  bif ((decide ((0 : Int) ≤ (Jhk (Jdj s11 (15 : Int)) (16 : Int)))) && (decide ((Jhk (Jdj s11 (15 : Int)) (16 : Int)) < ((16 : Nat) : Int)))) then
  bif (Jfe (List.getD w ((Jhk (Jdj s11 15) 16)).toNat 0) 7 18 3 177) then
  bif ((decide ((0 : Int) ≤ (Jhk (Jdj s11 (2 : Int)) (16 : Int)))) && (decide ((Jhk (Jdj s11 (2 : Int)) (16 : Int)) < ((16 : Nat) : Int)))) then
  bif (Jfe (List.getD w ((Jhk (Jdj s11 2) 16)).toNat 0) 17 19 10 177) then
  bif ((decide ((0 : Int) ≤ (Jhk s11 (16 : Int)))) && (decide ((Jhk s11 (16 : Int)) < ((16 : Nat) : Int)))) then
  bif ((decide ((0 : Int) ≤ (Jhk (Jdj s11 (7 : Int)) (16 : Int)))) && (decide ((Jhk (Jdj s11 (7 : Int)) (16 : Int)) < ((16 : Nat) : Int)))) then
  bif ((decide ((0 : Int) ≤ (Jhk s11 (16 : Int)))) && (decide ((Jhk s11 (16 : Int)) < ((16 : Nat) : Int)))) then
  bif ((decide ((0 : Int) ≤ (Jhk s11 (16 : Int)))) && (decide ((Jhk s11 (16 : Int)) < ((16 : Nat) : Int)))) then
  bif (Jfe (List.getD x_ 4 0) 6 11 25 169) then
  bif (Jfe (List.getD x_ 0 0) 2 13 22 169) then
  next s10 (Jat s11 1) ([(Jcv (Jcv (Jcv (Jcv (List.getD x_ 7 0) (Jd6 (List.getD x_ 4 0) 6 11 25 169)) (Jl5 (List.getD x_ 6 0) (J2q (List.getD x_ 4 0) (Jl5 (List.getD x_ 5 0) (List.getD x_ 6 0))))) (Jcv (List.getD s10 (s11).toNat 0) (List.getD (List.set w ((Jhk s11 16)).toNat (Jcv (List.getD w ((Jhk s11 16)).toNat 0) (Jcv (Jcv (Jd6 (List.getD w ((Jhk (Jdj s11 15) 16)).toNat 0) 7 18 3 177) (List.getD w ((Jhk (Jdj s11 7) 16)).toNat 0)) (Jd6 (List.getD w ((Jhk (Jdj s11 2) 16)).toNat 0) 17 19 10 177)))) ((Jhk s11 16)).toNat 0))) (Jcv (Jd6 (List.getD x_ 0 0) 2 13 22 169) (orW (J2q (List.getD x_ 0 0) (List.getD x_ 1 0)) (J2q (List.getD x_ 2 0) (orW (List.getD x_ 0 0) (List.getD x_ 1 0)))))), (List.getD x_ 0 0), (List.getD x_ 1 0), (List.getD x_ 2 0), (Jcv (List.getD x_ 3 0) (Jcv (Jcv (Jcv (List.getD x_ 7 0) (Jd6 (List.getD x_ 4 0) 6 11 25 169)) (Jl5 (List.getD x_ 6 0) (J2q (List.getD x_ 4 0) (Jl5 (List.getD x_ 5 0) (List.getD x_ 6 0))))) (Jcv (List.getD s10 (s11).toNat 0) (List.getD (List.set w ((Jhk s11 16)).toNat (Jcv (List.getD w ((Jhk s11 16)).toNat 0) (Jcv (Jcv (Jd6 (List.getD w ((Jhk (Jdj s11 15) 16)).toNat 0) 7 18 3 177) (List.getD w ((Jhk (Jdj s11 7) 16)).toNat 0)) (Jd6 (List.getD w ((Jhk (Jdj s11 2) 16)).toNat 0) 17 19 10 177)))) ((Jhk s11 16)).toNat 0)))), (List.getD x_ 4 0), (List.getD x_ 5 0), (List.getD x_ 6 0)] : ZW) s1 (List.set w ((Jhk s11 16)).toNat (Jcv (List.getD w ((Jhk s11 16)).toNat 0) (Jcv (Jcv (Jd6 (List.getD w ((Jhk (Jdj s11 15) 16)).toNat 0) 7 18 3 177) (List.getD w ((Jhk (Jdj s11 7) 16)).toNat 0)) (Jd6 (List.getD w ((Jhk (Jdj s11 2) 16)).toNat 0) 17 19 10 177)))) s s4
  else fail
  else fail
  else fail
  else fail
  else fail
  else fail
  else fail
  else fail
  else fail
  else fail
  else fail
 else
 ex0 s10 s11 x_ s1 w s s4
def Jj7 {X : Type} (F : Nat) (fail : X) (ex0 : ZW → Int → ZW → ZB → ZW → ZW → ZW → X) : Nat → ZW → Int → ZW → ZB → ZW → ZW → ZW → X
 | 0, _, _, _, _, _, _, _ => fail
 | m + 1, s10, s11, x_, s1, w, s, s4 => Jv5 F fail (Jj7 F fail ex0 m) ex0 s10 s11 x_ s1 w s s4
def Kfm {X : Type} (F : Nat) (fail : X) (next ex0 : Int → ZW → ZW → ZW → X) (s71 : Int) (s s4 x_ : ZW) : X :=
 bif (decide (s71 < 8)) then
  bif ((decide (0 ≤ s71)) && (decide (s71 < (8 : Int)))) then
  bif ((decide (0 ≤ s71)) && (decide (s71 < (8 : Int)))) then
  bif ((decide (0 ≤ s71)) && (decide (s71 < (8 : Int)))) then
  next (Jat s71 1) s s4 (List.set x_ (s71).toNat (Jcv (List.getD x_ (s71).toNat 0) (List.getD s (s71).toNat 0)))
  else fail
  else fail
  else fail
 else
 ex0 s71 s s4 x_
def Jmr {X : Type} (F : Nat) (fail : X) (ex0 : Int → ZW → ZW → ZW → X) : Nat → Int → ZW → ZW → ZW → X
 | 0, _, _, _, _ => fail
 | m + 1, s71, s, s4, x_ => Kfm F fail (Jmr F fail ex0 m) ex0 s71 s s4 x_
def Kwd {X : Type} (F : Nat) (s : ZW) (block : ZB) (fail : X) (ret : ZW → X) : X :=
 bif (J07) then
 Jj7 F fail
  (fun s10 s11 x_ s1 w s2 s4 =>
   Jmr F fail
    (fun s71 s3 s41 x_1 =>
     ret x_1)
    F 0 s2 s4 x_)
  F (Kag) 0 s block ([0, 0, 0, 0, 0, 0, 0, 0, 0, 0, 0, 0, 0, 0, 0, 0] : ZW) s ([0, 0, 0, 0, 0, 0, 0, 0] : ZW)
 else fail
def hNew {X : Type} (F : Nat) (fail : X) (ret : ZH → X) : X :=
 ret (([1779033703, 3144134277, 1013904242, 2773480762, 1359893119, 2600822924, 528734635, 1541459225] : ZW), (([] : ZB), (0, ())))
def Kfn {X : Type} (F : Nat) (fail : X) (next ex0 : ZB → ZW → Int → ZH → ZH → ZW → X) (b : ZB) (s13 : ZW) (s14 : Int) (h s4 : ZH) (s : ZW) : X :=
 bif (decide (s14 < 8)) then
  bif ((decide (0 ≤ s14)) && (decide (s14 < (8 : Int)))) then
  bif ((decide (0 ≤ s14)) && (decide (s14 < (8 : Int)))) then
  next b s13 (Jat s14 1) h s4 (List.set s (s14).toNat (List.getD s13 (s14).toNat 0))
  else fail
  else fail
 else
 ex0 b s13 s14 h s4 s
def Jrw {X : Type} (F : Nat) (fail : X) (ex0 : ZB → ZW → Int → ZH → ZH → ZW → X) : Nat → ZB → ZW → Int → ZH → ZH → ZW → X
 | 0, _, _, _, _, _, _ => fail
 | m + 1, b, s13, s14, h, s4, s => Kfn F fail (Jrw F fail ex0 m) ex0 b s13 s14 h s4 s
def Jv6 {X : Type} (F : Nat) (fail : X) (next ex0 : ZB → ZB → ZH → ZH → ZW → X) (b all : ZB) (h s4 : ZH) (s : ZW) : X :=
 bif (decide ((all.length : Int) ≥ 64)) then
  bif (Jvt s all) then
  bif (decide (64 ≤ (all.length : Int))) then
  next b (List.drop 64 all) h s4 (Kah s all)
  else fail
  else fail
 else
 ex0 b all h s4 s
def Jj8 {X : Type} (F : Nat) (fail : X) (ex0 : ZB → ZB → ZH → ZH → ZW → X) : Nat → ZB → ZB → ZH → ZH → ZW → X
 | 0, _, _, _, _, _ => fail
 | m + 1, b, all, h, s4, s => Jv6 F fail (Jj8 F fail ex0 m) ex0 b all h s4 s
def Kfo {X : Type} (F : Nat) (fail : X) (next ex0 : ZW → Int → ZH → ZW → (Int × Unit) → ZB → X) (s49 : ZW) (s50 : Int) (s4 : ZH) (out : ZW) (out1 : (Int × Unit)) (h2 : ZB) : X :=
 bif (decide (s50 < 8)) then
  bif ((decide (0 ≤ s50)) && (decide (s50 < (8 : Int)))) then
  bif ((decide (0 ≤ s50)) && (decide (s50 < (8 : Int)))) then
  next s49 (Jat s50 1) s4 (List.set out (s50).toNat (List.getD s49 (s50).toNat 0)) out1 h2
  else fail
  else fail
 else
 ex0 s49 s50 s4 out out1 h2
def Jrx {X : Type} (F : Nat) (fail : X) (ex0 : ZW → Int → ZH → ZW → (Int × Unit) → ZB → X) : Nat → ZW → Int → ZH → ZW → (Int × Unit) → ZB → X
 | 0, _, _, _, _, _, _ => fail
 | m + 1, s49, s50, s4, out, out1, h2 => Kfo F fail (Jrx F fail ex0 m) ex0 s49 s50 s4 out out1 h2
def Kwe {X : Type} (F : Nat) (h : ZH) (b : ZB) (fail : X) (ret : ZH → X) : X :=
 Jrw F fail
  (fun b1 s13 s14 h1 s4 s =>
   bif (((decide (0 ≤ ((h1.2.1.length : Nat) : Int))) && (decide (((h1.2.1.length : Nat) : Int) ≤ ((h1.2.1.length : Nat) : Int)))) && (((h1.2.1.length : Nat) : Int) == ((h1.2.1.length : Nat) : Int))) then
   bif (decide (((List.take h1.2.1.length h1.2.1) ++ b1).length ≤ big)) then
   Jj8 F fail
    (fun b2 all h2 s41 s1 =>
     bif (decide (all.length ≤ big)) then
     Jrx F fail
      (fun s49 s50 s42 out out1 h21 =>
       ret (out, (h21, out1)))
      F s1 0 s41 ([0, 0, 0, 0, 0, 0, 0, 0] : ZW) ((Jat h2.2.2.1 (b2.length : Int)), ()) all
     else fail)
    F b1 ((List.take h1.2.1.length h1.2.1) ++ b1) h1 s4 s
   else fail
   else fail)
  F b h.1 0 h (([0, 0, 0, 0, 0, 0, 0, 0] : ZW), (([] : ZB), (0, ()))) ([0, 0, 0, 0, 0, 0, 0, 0] : ZW)
def Jry {X : Type} (F : Nat) (fail : X) (next ex0 : Int → ZH → ZB → ZB → X) (shift : Int) (h : ZH) (s2 pad : ZB) : X :=
 bif (decide (shift ≥ 0)) then
  bif (decide (0 ≤ shift)) then
  bif (decide ((pad ++ ([(Jsu (Jj0 (mulU (Krw h.2.2.1) (8 : Int)) shift))] : ZB)).length ≤ big)) then
  next (Jdj shift (8 : Int)) h s2 (pad ++ ([(Jsu (Jj0 (mulU (Krw h.2.2.1) (8 : Int)) shift))] : ZB))
  else fail
  else fail
 else
 ex0 shift h s2 pad
def Jfj {X : Type} (F : Nat) (fail : X) (ex0 : Int → ZH → ZB → ZB → X) : Nat → Int → ZH → ZB → ZB → X
 | 0, _, _, _, _ => fail
 | m + 1, shift, h, s2, pad => Jry F fail (Jfj F fail ex0 m) ex0 shift h s2 pad
def J70 {X : Type} (F : Nat) (fail : X) (next ex0 : Int → UInt32 → ZW → Int → Int → ZB → ZB → X) (i : Int) (x_ : UInt32) (s35 : ZW) (s36 s40 : Int) (s2 out : ZB) : X :=
 bif (decide (s40 < 4)) then
  bif (decide (0 ≤ (Jdj 24 (Jll 8 s40)))) then
  bif ((decide (0 ≤ (Jat (Jll 4 i) s40))) && (decide ((Jat (Jll 4 i) s40) < (32 : Int)))) then
  next i x_ s35 s36 (Jat s40 1) s2 (List.set out ((Jat (Jll 4 i) s40)).toNat (J2r (Jrn x_ (Jdj 24 (Jll 8 s40)))))
  else fail
  else fail
 else
 ex0 i x_ s35 s36 s40 s2 out
def Jt2 {X : Type} (F : Nat) (fail : X) (ex0 : Int → UInt32 → ZW → Int → Int → ZB → ZB → X) : Nat → Int → UInt32 → ZW → Int → Int → ZB → ZB → X
 | 0, _, _, _, _, _, _, _ => fail
 | m + 1, i, x_, s35, s36, s40, s2, out => J70 F fail (Jt2 F fail ex0 m) ex0 i x_ s35 s36 s40 s2 out
def J71 {X : Type} (F : Nat) (fail : X) (next ex0 : ZW → Int → ZB → ZB → X) (s35 : ZW) (s36 : Int) (s2 out : ZB) : X :=
 bif (decide (s36 < 8)) then
  bif ((decide (0 ≤ s36)) && (decide (s36 < (8 : Int)))) then
  Jt2 F fail
   (fun i x_ s351 s361 s40 s21 out1 =>
    next s351 (Jat s361 1) s21 out1)
   F s36 (List.getD s35 (s36).toNat 0) s35 s36 0 s2 out
  else fail
 else
 ex0 s35 s36 s2 out
def Jn3 {X : Type} (F : Nat) (fail : X) (ex0 : ZW → Int → ZB → ZB → X) : Nat → ZW → Int → ZB → ZB → X
 | 0, _, _, _, _ => fail
 | m + 1, s35, s36, s2, out => J71 F fail (Jn3 F fail ex0 m) ex0 s35 s36 s2 out
def Kk1 {X : Type} (F : Nat) (h : ZH) (fail : X) (ret : ZB → X) : X :=
 bif (((decide (0 ≤ (Jat 1 (Jhk (Jdj 119 ((h.2.1.length : Nat) : Int)) 64)))) && (decide ((Jat 1 (Jhk (Jdj 119 ((h.2.1.length : Nat) : Int)) 64)) ≤ 72))) && (decide (72 ≤ ((big : Nat) : Int)))) then
 bif (decide ((0 : Int) < (((List.replicate ((Jat (1 : Int) (Jhk (Jdj (119 : Int) ((h.2.1.length : Nat) : Int)) (64 : Int)))).toNat (0 : UInt8)).length : Nat) : Int))) then
 Jfj F fail
  (fun shift h1 s2 pad =>
   bif (Jdy h1 pad) then
   Jn3 F fail
    (fun s35 s36 s21 out =>
     ret out)
    F (Jco h1 pad).1 (0 : Int) s2 (List.replicate 32 (0 : UInt8))
   else fail)
  F (56 : Int) h (List.replicate 32 (0 : UInt8)) (List.set (List.replicate ((Jat (1 : Int) (Jhk (Jdj (119 : Int) ((h.2.1.length : Nat) : Int)) (64 : Int)))).toNat (0 : UInt8)) 0 (128 : UInt8))
 else fail
 else fail
def dSum {X : Type} (F : Nat) (b : ZB) (fail : X) (ret : ZB → X) : X :=
 bif (Jzf) then
 bif (Jdy (Jf4) b) then
 bif (Jf9 (Jco (Jf4) b)) then
 ret (Jiu (Jco (Jf4) b))
 else fail
 else fail
 else fail
end Go.AI
namespace Go.AI
open Go
set_option linter.unusedVariables false
def Jbm  : ZB := [0, 1, 2, 2, 3, 3, 3, 3, 4, 4, 4, 4, 4, 4, 4, 4, 5, 5, 5, 5, 5, 5, 5, 5, 5, 5, 5, 5, 5, 5, 5, 5, 6, 6, 6, 6, 6, 6, 6, 6, 6, 6, 6, 6, 6, 6, 6, 6, 6, 6, 6, 6, 6, 6, 6, 6, 6, 6, 6, 6, 6, 6, 6, 6, 7, 7, 7, 7, 7, 7, 7, 7, 7, 7, 7, 7, 7, 7, 7, 7, 7, 7, 7, 7, 7, 7, 7, 7, 7, 7, 7, 7, 7, 7, 7, 7, 7, 7, 7, 7, 7, 7, 7, 7, 7, 7, 7, 7, 7, 7, 7, 7, 7, 7, 7, 7, 7, 7, 7, 7, 7, 7, 7, 7, 7, 7, 7, 7, 8, 8, 8, 8, 8, 8, 8, 8, 8, 8, 8, 8, 8, 8, 8, 8, 8, 8, 8, 8, 8, 8, 8, 8, 8, 8, 8, 8, 8, 8, 8, 8, 8, 8, 8, 8, 8, 8, 8, 8, 8, 8, 8, 8, 8, 8, 8, 8, 8, 8, 8, 8, 8, 8, 8, 8, 8, 8, 8, 8, 8, 8, 8, 8, 8, 8, 8, 8, 8, 8, 8, 8, 8, 8, 8, 8, 8, 8, 8, 8, 8, 8, 8, 8, 8, 8, 8, 8, 8, 8, 8, 8, 8, 8, 8, 8, 8, 8, 8, 8, 8, 8, 8, 8, 8, 8, 8, 8, 8, 8, 8, 8, 8, 8, 8, 8, 8, 8, 8, 8, 8, 8, 8, 8, 8, 8, 8, 8]
def Jx7 {X : Type} (F : Nat) (x_ : Int) (fail : X) (ret : Int → X) : X :=
 bif (decide (x_ ≥ 4294967296)) then
  bif (decide ((Jj0 x_ (32 : Int)) ≥ (65536 : Int))) then
   bif (decide ((Jj0 (Jj0 x_ (32 : Int)) (16 : Int)) ≥ (256 : Int))) then
    bif ((decide (0 ≤ ((((Jsu (Jj0 (Jj0 (Jj0 x_ 32) 16) 8))).toNat : Nat) : Int))) && (decide (((((Jsu (Jj0 (Jj0 (Jj0 x_ 32) 16) 8))).toNat : Nat) : Int) < (Jbm.length : Int)))) then
    ret (Jat 56 (Jl6 (List.getD Jbm ((Jsu (Jj0 (Jj0 (Jj0 x_ 32) 16) 8))).toNat 0)))
    else fail
   else
   bif ((decide (0 ≤ ((((Jsu (Jj0 (Jj0 x_ 32) 16))).toNat : Nat) : Int))) && (decide (((((Jsu (Jj0 (Jj0 x_ 32) 16))).toNat : Nat) : Int) < (Jbm.length : Int)))) then
   ret (Jat 48 (Jl6 (List.getD Jbm ((Jsu (Jj0 (Jj0 x_ 32) 16))).toNat 0)))
   else fail
  else
  bif (decide ((Jj0 x_ (32 : Int)) ≥ (256 : Int))) then
   bif ((decide (0 ≤ ((((Jsu (Jj0 (Jj0 x_ 32) 8))).toNat : Nat) : Int))) && (decide (((((Jsu (Jj0 (Jj0 x_ 32) 8))).toNat : Nat) : Int) < (Jbm.length : Int)))) then
   ret (Jat 40 (Jl6 (List.getD Jbm ((Jsu (Jj0 (Jj0 x_ 32) 8))).toNat 0)))
   else fail
  else
  bif ((decide (0 ≤ ((((Jsu (Jj0 x_ 32))).toNat : Nat) : Int))) && (decide (((((Jsu (Jj0 x_ 32))).toNat : Nat) : Int) < (Jbm.length : Int)))) then
  ret (Jat 32 (Jl6 (List.getD Jbm ((Jsu (Jj0 x_ 32))).toNat 0)))
  else fail
 else
 bif (decide (x_ ≥ 65536)) then
  bif (decide ((Jj0 x_ (16 : Int)) ≥ (256 : Int))) then
   bif ((decide (0 ≤ ((((Jsu (Jj0 (Jj0 x_ 16) 8))).toNat : Nat) : Int))) && (decide (((((Jsu (Jj0 (Jj0 x_ 16) 8))).toNat : Nat) : Int) < (Jbm.length : Int)))) then
   ret (Jat 24 (Jl6 (List.getD Jbm ((Jsu (Jj0 (Jj0 x_ 16) 8))).toNat 0)))
   else fail
  else
  bif ((decide (0 ≤ ((((Jsu (Jj0 x_ 16))).toNat : Nat) : Int))) && (decide (((((Jsu (Jj0 x_ 16))).toNat : Nat) : Int) < (Jbm.length : Int)))) then
  ret (Jat 16 (Jl6 (List.getD Jbm ((Jsu (Jj0 x_ 16))).toNat 0)))
  else fail
 else
 bif (decide (x_ ≥ 256)) then
  bif ((decide (0 ≤ ((((Jsu (Jj0 x_ 8))).toNat : Nat) : Int))) && (decide (((((Jsu (Jj0 x_ 8))).toNat : Nat) : Int) < (Jbm.length : Int)))) then
  ret (Jat 8 (Jl6 (List.getD Jbm ((Jsu (Jj0 x_ 8))).toNat 0)))
  else fail
 else
 bif ((decide (0 ≤ ((((Jsu x_)).toNat : Nat) : Int))) && (decide (((((Jsu x_)).toNat : Nat) : Int) < (Jbm.length : Int)))) then
 ret (Jat 0 (Jl6 (List.getD Jbm ((Jsu x_)).toNat 0)))
 else fail
def J21 {X : Type} (F : Nat) (x_ : UInt8) (fail : X) (ret : Int → X) : X :=
 bif ((decide (0 ≤ (((x_).toNat : Nat) : Int))) && (decide ((((x_).toNat : Nat) : Int) < (Jbm.length : Int)))) then
 ret (Jl6 (List.getD Jbm (x_).toNat 0))
 else fail
def Kao {X : Type} (F : Nat) (x_ : Int) (fail : X) (ret : Int → X) : X :=
 bif (Jlt x_) then
 ret (Jp6 x_)
 else fail
def Jhr {X : Type} (F : Nat) (x_ : UInt8) (fail : X) (ret : Int → X) : X :=
 ret (Jdj 8 (Jnt x_))
def J22 {X : Type} (F : Nat) (n : Int) (fail : X) (ret : Int → X) : X :=
 bif (decide (n < 0)) then
  ret 0
 else
 bif (decide (n > 9007199254740991)) then
  ret 0
 else
 ret n
def Jqa {X : Type} (F : Nat) (n : Int) (fail : X) (ret : Int → X) : X :=
 bif (Jrq (Krw n)) then
 ret (quoI (maxI 0 (Jdj (Jrr (Krw n)) 1)) 7)
 else fail
def J72 {X : Type} (F : Nat) (s : ZB) (fail : X) (Jmd : X → X → X) (ret : ZB → X) : X :=
 bif (List.isEmpty s) then
  Jmd (
   ret ([] : ZB)) (
   bif (decide (s.length ≤ big)) then
   ret s
   else fail)
 else
 bif (decide (s.length ≤ big)) then
 ret s
 else fail
def Jn4 {X : Type} (F : Nat) (fail : X) (next ex0 : Int → Int → ZB → X) (n i : Int) (dst : ZB) : X :=
 bif (decide (i ≥ 0)) then
  bif (decide (0 ≤ (Jll 8 i))) then
  bif (decide ((dst ++ ([(Kkn (Kfd n (Jll (8 : Int) i)))] : ZB)).length ≤ big)) then
  next n (Jdj i (1 : Int)) (dst ++ ([(Kkn (Kfd n (Jll (8 : Int) i)))] : ZB))
  else fail
  else fail
 else
 ex0 n i dst
def Jg6 {X : Type} (F : Nat) (fail : X) (ex0 : Int → Int → ZB → X) : Nat → Int → Int → ZB → X
 | 0, _, _, _ => fail
 | m + 1, n, i, dst => Jn4 F fail (Jg6 F fail ex0 m) ex0 n i dst
def Kap {X : Type} (F : Nat) (dst : ZB) (n : Int) (fail : X) (ret : ZB → X) : X :=
 bif (Jdi (Jbz n)) then
 bif (decide (0 ≤ (Jdj 8 (Jbg (Jbz n))))) then
 bif (decide (0 ≤ (Jll 8 (Jbg (Jbz n))))) then
 bif (decide ((dst ++ ([(orB (shlB (255 : UInt8) (Jdj (8 : Int) (Jbg (Jbz n)))) (Kkn (Kfd (Jbz n) (Jll (8 : Int) (Jbg (Jbz n))))))] : ZB)).length ≤ big)) then
 Jg6 F fail
  (fun n1 i dst1 =>
   ret dst1)
  F (Jbz n) (Jdj (Jbg (Jbz n)) (1 : Int)) (dst ++ ([(orB (shlB (255 : UInt8) (Jdj (8 : Int) (Jbg (Jbz n)))) (Kkn (Kfd (Jbz n) (Jll (8 : Int) (Jbg (Jbz n))))))] : ZB))
 else fail
 else fail
 else fail
 else fail
def Jt3 {X : Type} (F : Nat) (dst : ZB) (n : Int) (fail : X) (ret : ZB → X) : X :=
 bif (Jbh dst) then
 bif (Jj1 (Jb4 dst) n) then
 ret (Jml (Jb4 dst) n)
 else fail
 else fail
def Jn5 {X : Type} (F : Nat) (fail : X) (next ex0 : ZB → Int → Int → ZB → Int → Int → X) (src : ZB) (k n : Int) (s33 : ZB) (s34 s35 : Int) : X :=
 bif (decide (s35 < s34)) then
  bif ((decide (0 ≤ s35)) && (decide (s35 < (s33.length : Int)))) then
  next src k (orI (K5e n 8) (Jl6 (List.getD s33 (s35).toNat 0))) s33 s34 (Jat s35 1)
  else fail
 else
 ex0 src k n s33 s34 s35
def Jg7 {X : Type} (F : Nat) (fail : X) (ex0 : ZB → Int → Int → ZB → Int → Int → X) : Nat → ZB → Int → Int → ZB → Int → Int → X
 | 0, _, _, _, _, _, _ => fail
 | m + 1, src, k, n, s33, s34, s35 => Jn5 F fail (Jg7 F fail ex0 m) ex0 src k n s33 s34 s35
def Kaq {X : Type} (F : Nat) (src : ZB) (fail : X) (ret : Int → ZB → Int → X) : X :=
 bif ((src.length : Int) == 0) then
  ret 0 ([] : ZB) 9
 else
 bif (decide (0 < (src.length : Int))) then
 bif (decide ((Jaw (K0d (List.getD src 0 0))) > 7)) then
  ret 0 ([] : ZB) 3
 else
 bif (decide ((src.length : Int) ≤ (Jaw (K0d (List.getD src 0 0))))) then
  ret 0 ([] : ZB) 9
 else
 bif (decide (0 < (src.length : Int))) then
 bif (decide (0 ≤ (Jaw (K0d (List.getD src 0 0))))) then
 bif ((decide (1 ≤ (Jat (Jaw (K0d (List.getD src 0 0))) 1))) && (decide ((Jat (Jaw (K0d (List.getD src 0 0))) 1) ≤ (src.length : Int)))) then
 Jg7 F fail
  (fun src1 k n s33 s34 s35 =>
   bif (decide (n > 9007199254740991)) then
    ret 0 ([] : ZB) 3
   else
   bif (Jdi n) then
   bif ((Jbg n) != k) then
    ret 0 ([] : ZB) 3
   else
   bif ((decide (0 ≤ (Jat k 1))) && (decide ((Jat k 1) ≤ (src1.length : Int)))) then
   bif (Jbh (List.drop ((Jat k 1)).toNat src1)) then
   ret n (Jb4 (List.drop ((Jat k 1)).toNat src1)) 0
   else fail
   else fail
   else fail)
  F src (Jaw (K0d (List.getD src 0 0))) (Jl6 (andB (List.getD src 0 0) (shrB 127 (Jaw (K0d (List.getD src 0 0)))))) (List.drop 1 (List.take ((Jat (Jaw (K0d (List.getD src 0 0))) 1)).toNat src)) (((List.drop 1 (List.take ((Jat (Jaw (K0d (List.getD src 0 0))) 1)).toNat src)).length : Nat) : Int) 0
 else fail
 else fail
 else fail
 else fail
end Go.AI
namespace Go.AI
open Go
set_option linter.unusedVariables false
def Jgc {X : Type} (F : Nat) (fail : X) (next ex0 : ZB → Int → Int → ZB → X) (s14 : ZB) (s15 s16 : Int) (dst : ZB) : X :=
 bif (decide (s16 < s15)) then
  bif ((decide (0 ≤ s16)) && (decide (s16 < (s14.length : Int)))) then
  bif (decide ((dst ++ ([(List.getD s14 (s16).toNat (0 : UInt8))] : ZB)).length ≤ big)) then
  next s14 s15 (Jat s16 (1 : Int)) (dst ++ ([(List.getD s14 (s16).toNat (0 : UInt8))] : ZB))
  else fail
  else fail
 else
 ex0 s14 s15 s16 dst
def Jdk {X : Type} (F : Nat) (fail : X) (ex0 : ZB → Int → Int → ZB → X) : Nat → ZB → Int → Int → ZB → X
 | 0, _, _, _, _ => fail
 | m + 1, s14, s15, s16, dst => Jgc F fail (Jdk F fail ex0 m) ex0 s14 s15 s16 dst
def Jn6 {X : Type} (F : Nat) (dst b : ZB) (fail : X) (ret : ZB → X) : X :=
 bif (Jbh dst) then
 bif (Jj1 (Jb4 dst) (b.length : Int)) then
 Jdk F fail
  (fun s14 s15 s16 dst1 =>
   ret dst1)
  F b (b.length : Int) 0 (Jml (Jb4 dst) (b.length : Int))
 else fail
 else fail
def Jx8 {X : Type} (F : Nat) (src : ZB) (fail : X) (ret : ZB → ZB → Int → X) : X :=
 bif (Jef src) then
 bif ((Ja9 src) == 0) then
  bif (decide ((Jan src) > 65536)) then
   ret ([] : ZB) ([] : ZB) 5
  else
  bif ((Ja9 src) != 0) then
   ret ([] : ZB) ([] : ZB) (Ja9 src)
  else
  bif (decide ((((Jam src).length : Nat) : Int) < (Jan src))) then
   ret ([] : ZB) ([] : ZB) 9
  else
  bif ((decide (0 ≤ (Jan src))) && (decide ((Jan src) ≤ (((Jam src).length : Nat) : Int)))) then
  bif (Jbh (List.take ((Jan src)).toNat (Jam src))) then
  bif ((decide (0 ≤ (Jan src))) && (decide ((Jan src) ≤ (((Jam src).length : Nat) : Int)))) then
  bif (Jbh (List.drop ((Jan src)).toNat (Jam src))) then
  ret (Jb4 (List.take ((Jan src)).toNat (Jam src))) (Jb4 (List.drop ((Jan src)).toNat (Jam src))) 0
  else fail
  else fail
  else fail
  else fail
 else
 bif ((Ja9 src) != 0) then
  ret ([] : ZB) ([] : ZB) (Ja9 src)
 else
 bif (decide ((((Jam src).length : Nat) : Int) < (Jan src))) then
  ret ([] : ZB) ([] : ZB) 9
 else
 bif ((decide (0 ≤ (Jan src))) && (decide ((Jan src) ≤ (((Jam src).length : Nat) : Int)))) then
 bif (Jbh (List.take ((Jan src)).toNat (Jam src))) then
 bif ((decide (0 ≤ (Jan src))) && (decide ((Jan src) ≤ (((Jam src).length : Nat) : Int)))) then
 bif (Jbh (List.drop ((Jan src)).toNat (Jam src))) then
 ret (Jb4 (List.take ((Jan src)).toNat (Jam src))) (Jb4 (List.drop ((Jan src)).toNat (Jam src))) 0
 else fail
 else fail
 else fail
 else fail
 else fail
end Go.AI
namespace Go.AI
open Go
set_option linter.unusedVariables false
def Jv7 {X : Type} (F : Nat) (fail : X) (next ex0 : UInt8 → Int → Int → ZB → X) (by_ : UInt8) (s19 s20 : Int) (out : ZB) : X :=
 bif (decide (s20 < s19)) then
  bif ((decide (0 ≤ s20)) && (decide (s20 < (out.length : Int)))) then
  bif ((decide (0 ≤ s20)) && (decide (s20 < (out.length : Int)))) then
  next by_ s19 (Jat s20 1) (List.set out (s20).toNat (J5k (List.getD out (s20).toNat 0) by_))
  else fail
  else fail
 else
 ex0 by_ s19 s20 out
def Jid {X : Type} (F : Nat) (fail : X) (ex0 : UInt8 → Int → Int → ZB → X) : Nat → UInt8 → Int → Int → ZB → X
 | 0, _, _, _, _ => fail
 | m + 1, by_, s19, s20, out => Jv7 F fail (Jid F fail ex0 m) ex0 by_ s19 s20 out
def Kwf {X : Type} (F : Nat) (key : ZB) (by_ : UInt8) (fail : X) (ret : ZB → X) : X :=
 bif (decide ((key.length : Int) > 64)) then
  bif (Kff key) then
  bif (decide (64 ≤ ((big : Nat) : Int))) then
  Jid F fail
   (fun by_1 s19 s20 out =>
    ret out)
   F by_ (((((List.take 0 (List.replicate 64 (0 : UInt8))) ++ (List.take (min (List.take 32 (Jsx key)).length (List.replicate 64 (0 : UInt8)).length) (List.take 32 (Jsx key)))) ++ (List.drop (0 + (min (List.take 32 (Jsx key)).length (List.replicate 64 (0 : UInt8)).length)) (List.replicate 64 (0 : UInt8)))).length : Nat) : Int) (0 : Int) (((List.take 0 (List.replicate 64 (0 : UInt8))) ++ (List.take (min (List.take 32 (Jsx key)).length (List.replicate 64 (0 : UInt8)).length) (List.take 32 (Jsx key)))) ++ (List.drop (0 + (min (List.take 32 (Jsx key)).length (List.replicate 64 (0 : UInt8)).length)) (List.replicate 64 (0 : UInt8))))
  else fail
  else fail
 else
 bif (decide (64 ≤ ((big : Nat) : Int))) then
 Jid F fail
  (fun by_2 s191 s201 out1 =>
   ret out1)
  F by_ (((((List.take 0 (List.replicate 64 (0 : UInt8))) ++ (List.take (min key.length (List.replicate 64 (0 : UInt8)).length) key)) ++ (List.drop (0 + (min key.length (List.replicate 64 (0 : UInt8)).length)) (List.replicate 64 (0 : UInt8)))).length : Nat) : Int) (0 : Int) (((List.take 0 (List.replicate 64 (0 : UInt8))) ++ (List.take (min key.length (List.replicate 64 (0 : UInt8)).length) key)) ++ (List.drop (0 + (min key.length (List.replicate 64 (0 : UInt8)).length)) (List.replicate 64 (0 : UInt8))))
 else fail
def dMac {X : Type} (F : Nat) (key b : ZB) (fail : X) (ret : ZB → X) : X :=
 bif (Jzf) then
 bif (Jrp key 54) then
 bif (Jdy (Jf4) (Jd7 key 54)) then
 bif (Jdy (Jco (Jf4) (Jd7 key 54)) b) then
 bif (Jf9 (Jco (Jco (Jf4) (Jd7 key 54)) b)) then
 bif (Jzf) then
 bif (Jrp key 92) then
 bif (Jdy (Jf4) (Jd7 key 92)) then
 bif (Jdy (Jco (Jf4) (Jd7 key 92)) (List.take 32 (Jiu (Jco (Jco (Jf4) (Jd7 key 54)) b)))) then
 bif (Jf9 (Jco (Jco (Jf4) (Jd7 key 92)) (List.take 32 (Jiu (Jco (Jco (Jf4) (Jd7 key 54)) b))))) then
 ret (Jiu (Jco (Jco (Jf4) (Jd7 key 92)) (List.take 32 (Jiu (Jco (Jco (Jf4) (Jd7 key 54)) b)))))
 else fail
 else fail
 else fail
 else fail
 else fail
 else fail
 else fail
 else fail
 else fail
 else fail
end Go.AI
namespace Go.AI
open Go
set_option linter.unusedVariables false
def K5o {X : Type} (F : Nat) (key : ZB) (fail : X) (ret : ZB → ZB → X) : X :=
 bif (Jp5 key ([101, 110, 99, 114, 121, 112, 116] : ZB)) then
 bif (Jp5 key ([97, 117, 116, 104, 101, 110, 116, 105, 99, 97, 116, 101] : ZB)) then
 ret (Jzg key ([101, 110, 99, 114, 121, 112, 116] : ZB)) (Jzg key ([97, 117, 116, 104, 101, 110, 116, 105, 99, 97, 116, 101] : ZB))
 else fail
 else fail
def Kar {X : Type} (F : Nat) (fail : X) (next ex0 : Int → ZB → Int → ZB → ZB → X) (nonce : Int) (b : ZB) (s10 : Int) (key l : ZB) : X :=
 bif (decide (s10 < 8)) then
  bif (decide (0 ≤ (Jll 8 s10))) then
  bif (decide ((l ++ ([(Kkn (Kfd nonce (Jll (8 : Int) s10)))] : ZB)).length ≤ big)) then
  next nonce b (Jat s10 (1 : Int)) key (l ++ ([(Kkn (Kfd nonce (Jll (8 : Int) s10)))] : ZB))
  else fail
  else fail
 else
 ex0 nonce b s10 key l
def Jrz {X : Type} (F : Nat) (fail : X) (ex0 : Int → ZB → Int → ZB → ZB → X) : Nat → Int → ZB → Int → ZB → ZB → X
 | 0, _, _, _, _, _ => fail
 | m + 1, nonce, b, s10, key, l => Kar F fail (Jrz F fail ex0 m) ex0 nonce b s10 key l
def cTag {X : Type} (F : Nat) (key : ZB) (nonce : Int) (b : ZB) (fail : X) (ret : ZB → X) : X :=
 Jrz F fail
  (fun nonce1 b1 s10 Jp7 l =>
   bif (decide ((l ++ b1).length ≤ big)) then
   bif (Jp5 (List.take 32 Jp7) (l ++ b1)) then
   ret (List.take 16 (Jzg (List.take 32 Jp7) (l ++ b1)))
   else fail
   else fail)
  F nonce b 0 key ([] : ZB)
def Kk2 {X : Type} (F : Nat) (key : ZB) (fail : X) (ret : Bool → X) : X :=
 bif (decide ((key.length : Int) ≥ 1)) then
  ret (decide ((key.length : Int) ≤ 64))
 else
 ret false
def J1d {X : Type} (F : Nat) (fail : X) (next ex0 : Int → Int → ZB → Int → ZB → ZB → ZB → ZB → ZB → X) (nonce s10 : Int) (key : ZB) (nonce1 : Int) (b b1 Jp7 l authenticate : ZB) : X :=
 bif (decide (s10 < 8)) then
  bif (decide (0 ≤ (Jll 8 s10))) then
  bif (decide ((l ++ ([(Kkn (Kfd nonce (Jll (8 : Int) s10)))] : ZB)).length ≤ big)) then
  next nonce (Jat s10 (1 : Int)) key nonce1 b b1 Jp7 (l ++ ([(Kkn (Kfd nonce (Jll (8 : Int) s10)))] : ZB)) authenticate
  else fail
  else fail
 else
 ex0 nonce s10 key nonce1 b b1 Jp7 l authenticate
def Jms {X : Type} (F : Nat) (fail : X) (ex0 : Int → Int → ZB → Int → ZB → ZB → ZB → ZB → ZB → X) : Nat → Int → Int → ZB → Int → ZB → ZB → ZB → ZB → ZB → X
 | 0, _, _, _, _, _, _, _, _, _ => fail
 | m + 1, nonce, s10, key, nonce1, b, b1, Jp7, l, authenticate => J1d F fail (Jms F fail ex0 m) ex0 nonce s10 key nonce1 b b1 Jp7 l authenticate
def K5p {X : Type} (F : Nat) (key : ZB) (nonce : Int) (b : ZB) (fail : X) (ret : ZB → Int → X) : X :=
 bif (!(Jks key)) then
  ret ([] : ZB) 1
 else
 bif (decide ((b.length : Int) > 65520)) then
  ret ([] : ZB) 5
 else
 bif (Jnv key) then
 bif (Jkr (Je9 key) nonce b) then
 bif ((Jfz (Je9 key) nonce b) != 0) then
  ret ([] : ZB) (Jfz (Je9 key) nonce b)
 else
 Jms F fail
  (fun nonce1 s10 Jp7 nonce2 b1 b2 key2 l authenticate =>
   bif (decide ((l ++ b2).length ≤ big)) then
   bif (Jp5 (List.take 32 key2) (l ++ b2)) then
   bif (decide ((b2 ++ (List.take 16 (Jzg (List.take 32 key2) (l ++ b2)))).length ≤ big)) then
   ret (b2 ++ (List.take 16 (Jzg (List.take 32 key2) (l ++ b2)))) (0 : Int)
   else fail
   else fail
   else fail)
  F nonce 0 key nonce b (Jia (Je9 key) nonce b) (Jgb key) ([] : ZB) (Jgb key)
 else fail
 else fail
def K5q {X : Type} (F : Nat) (key : ZB) (nonce : Int) (b : ZB) (fail : X) (ret : ZB → Int → X) : X :=
 bif (!(Jks key)) then
  ret ([] : ZB) 1
 else
 bif (decide ((b.length : Int) > 65536)) then
  ret ([] : ZB) 5
 else
 bif (!(Jnu nonce)) then
  ret ([] : ZB) 2
 else
 bif (decide ((Jdj ((b.length : Nat) : Int) (16 : Int)) < (0 : Int))) then
  ret ([] : ZB) 9
 else
 bif (Jnv key) then
 bif ((decide (0 ≤ (Jdj (b.length : Int) 16))) && (decide ((Jdj (b.length : Int) 16) ≤ (b.length : Int)))) then
 bif (Jzh (Jgb key) nonce (List.take ((Jdj (b.length : Int) 16)).toNat b)) then
 bif ((decide (0 ≤ (Jdj (b.length : Int) 16))) && (decide ((Jdj (b.length : Int) 16) ≤ (b.length : Int)))) then
 bif (Jg2 (Jzi (Jgb key) nonce (List.take ((Jdj (b.length : Int) 16)).toNat b)) (List.drop ((Jdj (b.length : Int) 16)).toNat b)) then
 bif (!(Jg3 (Jzi (Jgb key) nonce (List.take ((Jdj (b.length : Int) 16)).toNat b)) (List.drop ((Jdj (b.length : Int) 16)).toNat b))) then
  ret ([] : ZB) 25
 else
 bif ((decide (0 ≤ (Jdj (b.length : Int) 16))) && (decide ((Jdj (b.length : Int) 16) ≤ (b.length : Int)))) then
 bif (Jkr (Je9 key) nonce (List.take ((Jdj (b.length : Int) 16)).toNat b)) then
 ret (Jia (Je9 key) nonce (List.take ((Jdj (b.length : Int) 16)).toNat b)) (Jfz (Je9 key) nonce (List.take ((Jdj (b.length : Int) 16)).toNat b))
 else fail
 else fail
 else fail
 else fail
 else fail
 else fail
 else fail
def Jjq {X : Type} (F : Nat) (fail : X) (next ex0 ex1 : ZB → ZB → Bool → Int → Int → X) (s1 s2 : ZB) (s4 : Bool) (s12 s13 : Int) : X :=
 bif (decide (s13 < s12)) then
  bif ((decide (0 ≤ s13)) && (decide (s13 < (s1.length : Int)))) then
  bif ((decide (0 ≤ s13)) && (decide (s13 < (s2.length : Int)))) then
  bif (((((List.getD s1 (s13).toNat 0)).toNat : Nat) : Int) != ((((List.getD s2 (s13).toNat 0)).toNat : Nat) : Int)) then
   ex0 s1 s2 false s12 s13
  else
  next s1 s2 s4 s12 (Jat s13 1)
  else fail
  else fail
 else
 ex1 s1 s2 s4 s12 s13
def Je5 {X : Type} (F : Nat) (fail : X) (ex0 ex1 : ZB → ZB → Bool → Int → Int → X) : Nat → ZB → ZB → Bool → Int → Int → X
 | 0, _, _, _, _, _ => fail
 | m + 1, s1, s2, s4, s12, s13 => Jjq F fail (Je5 F fail ex0 ex1 m) ex0 ex1 s1 s2 s4 s12 s13
def Jx9 {X : Type} (F : Nat) (s1 s2 : ZB) (fail : X) (ret : Bool → X) : X :=
 bif ((s1.length : Int) != (s2.length : Int)) then
  ret false
 else
 Je5 F fail
  (fun s11 s21 s4 s12 s13 =>
   ret s4)
  (fun s14 s22 s41 s121 s131 =>
   ret true)
  F s1 s2 false (s1.length : Int) 0
end Go.AI
namespace Go.AI
open Go
set_option linter.unusedVariables false
def K5r {X : Type} (F : Nat) (x_ : UInt32) (k : Int) (fail : X) (ret : UInt32 → X) : X :=
 ret (orW (Jxf x_ (K76 (Krw k) 31)) (Jrn x_ (subU 32 (K76 (Krw k) 31))))
def Jv8 {X : Type} (F : Nat) (fail : X) (next ex0 : Int → Int → Int → Int → Int → ZB → ZW → ZW → X) (nonce counter i s11 s14 : Int) (key : ZB) (s6 w : ZW) : X :=
 bif (decide (s14 < 4)) then
  bif ((decide (0 ≤ (Jat 4 i))) && (decide ((Jat 4 i) < (16 : Int)))) then
  bif ((decide (0 ≤ (Jat (Jll 4 i) s14))) && (decide ((Jat (Jll 4 i) s14) < (32 : Int)))) then
  bif (decide (0 ≤ (Jll 8 s14))) then
  bif ((decide (0 ≤ (Jat 4 i))) && (decide ((Jat 4 i) < (16 : Int)))) then
  next nonce counter i s11 (Jat s14 1) key s6 (List.set w ((Jat 4 i)).toNat (orW (List.getD w ((Jat 4 i)).toNat 0) (Jxf (Jxg (List.getD key ((Jat (Jll 4 i) s14)).toNat 0)) (Jll 8 s14))))
  else fail
  else fail
  else fail
  else fail
 else
 ex0 nonce counter i s11 s14 key s6 w
def Jg8 {X : Type} (F : Nat) (fail : X) (ex0 : Int → Int → Int → Int → Int → ZB → ZW → ZW → X) : Nat → Int → Int → Int → Int → Int → ZB → ZW → ZW → X
 | 0, _, _, _, _, _, _, _, _ => fail
 | m + 1, nonce, counter, i, s11, s14, key, s6, w => Jv8 F fail (Jg8 F fail ex0 m) ex0 nonce counter i s11 s14 key s6 w
def Jv9 {X : Type} (F : Nat) (fail : X) (next ex0 : Int → Int → Int → ZB → ZW → ZW → X) (nonce counter s11 : Int) (key : ZB) (s6 w : ZW) : X :=
 bif (decide (s11 < 8)) then
  Jg8 F fail
   (fun nonce1 counter1 i s111 s14 Jp7 s61 w1 =>
    next nonce1 counter1 (Jat s111 1) Jp7 s61 w1)
   F nonce counter s11 s11 0 key s6 w
 else
 ex0 nonce counter s11 key s6 w
def Jj9 {X : Type} (F : Nat) (fail : X) (ex0 : Int → Int → Int → ZB → ZW → ZW → X) : Nat → Int → Int → Int → ZB → ZW → ZW → X
 | 0, _, _, _, _, _, _ => fail
 | m + 1, nonce, counter, s11, key, s6, w => Jv9 F fail (Jj9 F fail ex0 m) ex0 nonce counter s11 key s6 w
def Kwg {X : Type} (F : Nat) (key : ZB) (nonce counter : Int) (fail : X) (ret : ZW → X) : X :=
 Jj9 F fail
  (fun nonce1 counter1 s11 Jp7 s6 w =>
   ret (List.set (List.set (List.set w 12 (Kty counter1)) 14 (Kty nonce1)) 15 (Kty (Kfd nonce1 32))))
  F nonce counter 0 key ([0, 0, 0, 0, 0, 0, 0, 0, 0, 0, 0, 0, 0, 0, 0, 0] : ZW) ([1634760805, 857760878, 2036477234, 1797285236, 0, 0, 0, 0, 0, 0, 0, 0, 0, 0, 0, 0] : ZW)
def Kas {X : Type} (F : Nat) (fail : X) (next ex0 : List (Int × ZL) → Int → Int → Int → ZW → ZW → X) (s30 : List (Int × ZL)) (s31 s7 s9 : Int) (w w1 : ZW) : X :=
 bif (decide (s31 < 4)) then
  bif ((decide (0 ≤ s31)) && (decide (s31 < (4 : Int)))) then
  bif ((decide (0 ≤ (List.getD s30 (s31).toNat (0, (0, (0, (0, ()))))).1)) && (decide ((List.getD s30 (s31).toNat (0, (0, (0, (0, ()))))).1 < (16 : Int)))) then
  bif ((decide (0 ≤ (List.getD s30 (s31).toNat (0, (0, (0, (0, ()))))).2.1)) && (decide ((List.getD s30 (s31).toNat (0, (0, (0, (0, ()))))).2.1 < (16 : Int)))) then
  bif ((decide (0 ≤ (List.getD s30 (s31).toNat (0, (0, (0, (0, ()))))).1)) && (decide ((List.getD s30 (s31).toNat (0, (0, (0, (0, ()))))).1 < (16 : Int)))) then
  bif ((decide (0 ≤ (List.getD s30 (s31).toNat (0, (0, (0, (0, ()))))).2.2.1)) && (decide ((List.getD s30 (s31).toNat (0, (0, (0, (0, ()))))).2.2.1 < (16 : Int)))) then
  bif ((decide (0 ≤ (List.getD s30 (s31).toNat (0, (0, (0, (0, ()))))).1)) && (decide ((List.getD s30 (s31).toNat (0, (0, (0, (0, ()))))).1 < (16 : Int)))) then
  bif (Jxz (Jl5 (List.getD (List.set w ((List.getD s30 (s31).toNat (0, (0, (0, (0, ()))))).1).toNat (Jcv (List.getD w ((List.getD s30 (s31).toNat (0, (0, (0, (0, ()))))).1).toNat 0) (List.getD w ((List.getD s30 (s31).toNat (0, (0, (0, (0, ()))))).2.1).toNat 0))) ((List.getD s30 (s31).toNat (0, (0, (0, (0, ()))))).2.2.1).toNat 0) (List.getD (List.set w ((List.getD s30 (s31).toNat (0, (0, (0, (0, ()))))).1).toNat (Jcv (List.getD w ((List.getD s30 (s31).toNat (0, (0, (0, (0, ()))))).1).toNat 0) (List.getD w ((List.getD s30 (s31).toNat (0, (0, (0, (0, ()))))).2.1).toNat 0))) ((List.getD s30 (s31).toNat (0, (0, (0, (0, ()))))).1).toNat 0)) (List.getD s30 (s31).toNat (0, (0, (0, (0, ()))))).2.2.2.1) then
  bif ((decide (0 ≤ (List.getD s30 (s31).toNat (0, (0, (0, (0, ()))))).2.2.1)) && (decide ((List.getD s30 (s31).toNat (0, (0, (0, (0, ()))))).2.2.1 < (16 : Int)))) then
  next s30 (Jat s31 1) s7 s9 (List.set (List.set w ((List.getD s30 (s31).toNat (0, (0, (0, (0, ()))))).1).toNat (Jcv (List.getD w ((List.getD s30 (s31).toNat (0, (0, (0, (0, ()))))).1).toNat 0) (List.getD w ((List.getD s30 (s31).toNat (0, (0, (0, (0, ()))))).2.1).toNat 0))) ((List.getD s30 (s31).toNat (0, (0, (0, (0, ()))))).2.2.1).toNat (J2w (Jl5 (List.getD (List.set w ((List.getD s30 (s31).toNat (0, (0, (0, (0, ()))))).1).toNat (Jcv (List.getD w ((List.getD s30 (s31).toNat (0, (0, (0, (0, ()))))).1).toNat 0) (List.getD w ((List.getD s30 (s31).toNat (0, (0, (0, (0, ()))))).2.1).toNat 0))) ((List.getD s30 (s31).toNat (0, (0, (0, (0, ()))))).2.2.1).toNat 0) (List.getD (List.set w ((List.getD s30 (s31).toNat (0, (0, (0, (0, ()))))).1).toNat (Jcv (List.getD w ((List.getD s30 (s31).toNat (0, (0, (0, (0, ()))))).1).toNat 0) (List.getD w ((List.getD s30 (s31).toNat (0, (0, (0, (0, ()))))).2.1).toNat 0))) ((List.getD s30 (s31).toNat (0, (0, (0, (0, ()))))).1).toNat 0)) (List.getD s30 (s31).toNat (0, (0, (0, (0, ()))))).2.2.2.1)) w1
  else fail
  else fail
  else fail
  else fail
  else fail
  else fail
  else fail
  else fail
 else
 ex0 s30 s31 s7 s9 w w1
def Jjr {X : Type} (F : Nat) (fail : X) (ex0 : List (Int × ZL) → Int → Int → Int → ZW → ZW → X) : Nat → List (Int × ZL) → Int → Int → Int → ZW → ZW → X
 | 0, _, _, _, _, _, _ => fail
 | m + 1, s30, s31, s7, s9, w, w1 => Kas F fail (Jjr F fail ex0 m) ex0 s30 s31 s7 s9 w w1
def Kat {X : Type} (F : Nat) (fail : X) (next ex0 : Int → Int → ZW → ZW → X) (s7 s9 : Int) (change w : ZW) : X :=
 bif (decide (s9 < 4)) then
  Jjr F fail
   (fun s30 s31 s71 s91 w1 w2 =>
    next s71 (Jat s91 1) w1 w2)
   F ([(s9, ((Jat 4 s9), ((Jat 12 s9), (16, ())))), ((Jat 8 s9), ((Jat 12 s9), ((Jat 4 s9), (12, ())))), (s9, ((Jat 4 s9), ((Jat 12 s9), (8, ())))), ((Jat 8 s9), ((Jat 12 s9), ((Jat 4 s9), (7, ()))))] : List (Int × ZL)) 0 s7 s9 change w
 else
 ex0 s7 s9 change w
def Jn7 {X : Type} (F : Nat) (fail : X) (ex0 : Int → Int → ZW → ZW → X) : Nat → Int → Int → ZW → ZW → X
 | 0, _, _, _, _ => fail
 | m + 1, s7, s9, change, w => Kat F fail (Jn7 F fail ex0 m) ex0 s7 s9 change w
def Kau {X : Type} (F : Nat) (fail : X) (next ex0 : List (Int × ZL) → Int → Int → Int → ZW → ZW → X) (s30 : List (Int × ZL)) (s31 s7 s22 : Int) (w w1 : ZW) : X :=
 bif (decide (s31 < 4)) then
  bif ((decide (0 ≤ s31)) && (decide (s31 < (4 : Int)))) then
  bif ((decide (0 ≤ (List.getD s30 (s31).toNat (0, (0, (0, (0, ()))))).1)) && (decide ((List.getD s30 (s31).toNat (0, (0, (0, (0, ()))))).1 < (16 : Int)))) then
  bif ((decide (0 ≤ (List.getD s30 (s31).toNat (0, (0, (0, (0, ()))))).2.1)) && (decide ((List.getD s30 (s31).toNat (0, (0, (0, (0, ()))))).2.1 < (16 : Int)))) then
  bif ((decide (0 ≤ (List.getD s30 (s31).toNat (0, (0, (0, (0, ()))))).1)) && (decide ((List.getD s30 (s31).toNat (0, (0, (0, (0, ()))))).1 < (16 : Int)))) then
  bif ((decide (0 ≤ (List.getD s30 (s31).toNat (0, (0, (0, (0, ()))))).2.2.1)) && (decide ((List.getD s30 (s31).toNat (0, (0, (0, (0, ()))))).2.2.1 < (16 : Int)))) then
  bif ((decide (0 ≤ (List.getD s30 (s31).toNat (0, (0, (0, (0, ()))))).1)) && (decide ((List.getD s30 (s31).toNat (0, (0, (0, (0, ()))))).1 < (16 : Int)))) then
  bif (Jxz (Jl5 (List.getD (List.set w ((List.getD s30 (s31).toNat (0, (0, (0, (0, ()))))).1).toNat (Jcv (List.getD w ((List.getD s30 (s31).toNat (0, (0, (0, (0, ()))))).1).toNat 0) (List.getD w ((List.getD s30 (s31).toNat (0, (0, (0, (0, ()))))).2.1).toNat 0))) ((List.getD s30 (s31).toNat (0, (0, (0, (0, ()))))).2.2.1).toNat 0) (List.getD (List.set w ((List.getD s30 (s31).toNat (0, (0, (0, (0, ()))))).1).toNat (Jcv (List.getD w ((List.getD s30 (s31).toNat (0, (0, (0, (0, ()))))).1).toNat 0) (List.getD w ((List.getD s30 (s31).toNat (0, (0, (0, (0, ()))))).2.1).toNat 0))) ((List.getD s30 (s31).toNat (0, (0, (0, (0, ()))))).1).toNat 0)) (List.getD s30 (s31).toNat (0, (0, (0, (0, ()))))).2.2.2.1) then
  bif ((decide (0 ≤ (List.getD s30 (s31).toNat (0, (0, (0, (0, ()))))).2.2.1)) && (decide ((List.getD s30 (s31).toNat (0, (0, (0, (0, ()))))).2.2.1 < (16 : Int)))) then
  next s30 (Jat s31 1) s7 s22 (List.set (List.set w ((List.getD s30 (s31).toNat (0, (0, (0, (0, ()))))).1).toNat (Jcv (List.getD w ((List.getD s30 (s31).toNat (0, (0, (0, (0, ()))))).1).toNat 0) (List.getD w ((List.getD s30 (s31).toNat (0, (0, (0, (0, ()))))).2.1).toNat 0))) ((List.getD s30 (s31).toNat (0, (0, (0, (0, ()))))).2.2.1).toNat (J2w (Jl5 (List.getD (List.set w ((List.getD s30 (s31).toNat (0, (0, (0, (0, ()))))).1).toNat (Jcv (List.getD w ((List.getD s30 (s31).toNat (0, (0, (0, (0, ()))))).1).toNat 0) (List.getD w ((List.getD s30 (s31).toNat (0, (0, (0, (0, ()))))).2.1).toNat 0))) ((List.getD s30 (s31).toNat (0, (0, (0, (0, ()))))).2.2.1).toNat 0) (List.getD (List.set w ((List.getD s30 (s31).toNat (0, (0, (0, (0, ()))))).1).toNat (Jcv (List.getD w ((List.getD s30 (s31).toNat (0, (0, (0, (0, ()))))).1).toNat 0) (List.getD w ((List.getD s30 (s31).toNat (0, (0, (0, (0, ()))))).2.1).toNat 0))) ((List.getD s30 (s31).toNat (0, (0, (0, (0, ()))))).1).toNat 0)) (List.getD s30 (s31).toNat (0, (0, (0, (0, ()))))).2.2.2.1)) w1
  else fail
  else fail
  else fail
  else fail
  else fail
  else fail
  else fail
  else fail
 else
 ex0 s30 s31 s7 s22 w w1
def Jjs {X : Type} (F : Nat) (fail : X) (ex0 : List (Int × ZL) → Int → Int → Int → ZW → ZW → X) : Nat → List (Int × ZL) → Int → Int → Int → ZW → ZW → X
 | 0, _, _, _, _, _, _ => fail
 | m + 1, s30, s31, s7, s22, w, w1 => Kau F fail (Jjs F fail ex0 m) ex0 s30 s31 s7 s22 w w1
def Kav {X : Type} (F : Nat) (fail : X) (next ex0 : Int → Int → ZW → ZW → X) (s7 s22 : Int) (change w : ZW) : X :=
 bif (decide (s22 < 4)) then
  Jjs F fail
   (fun s30 s31 s71 s221 w1 w2 =>
    next s71 (Jat s221 1) w1 w2)
   F ([(s22, ((Jat 4 (Jhk (Jat s22 1) 4)), ((Jat 12 (Jhk (Jat s22 3) 4)), (16, ())))), ((Jat 8 (Jhk (Jat s22 2) 4)), ((Jat 12 (Jhk (Jat s22 3) 4)), ((Jat 4 (Jhk (Jat s22 1) 4)), (12, ())))), (s22, ((Jat 4 (Jhk (Jat s22 1) 4)), ((Jat 12 (Jhk (Jat s22 3) 4)), (8, ())))), ((Jat 8 (Jhk (Jat s22 2) 4)), ((Jat 12 (Jhk (Jat s22 3) 4)), ((Jat 4 (Jhk (Jat s22 1) 4)), (7, ()))))] : List (Int × ZL)) 0 s7 s22 change w
 else
 ex0 s7 s22 change w
def Jn8 {X : Type} (F : Nat) (fail : X) (ex0 : Int → Int → ZW → ZW → X) : Nat → Int → Int → ZW → ZW → X
 | 0, _, _, _, _ => fail
 | m + 1, s7, s22, change, w => Kav F fail (Jn8 F fail ex0 m) ex0 s7 s22 change w
def Kaw {X : Type} (F : Nat) (fail : X) (next ex0 : Int → ZW → ZW → X) (s7 : Int) (change w : ZW) : X :=
 bif (decide (s7 < 10)) then
  Jn7 F fail
   (fun s71 s9 change1 w1 =>
    Jn8 F fail
     (fun s72 s22 change2 w2 =>
      next (Jat s72 1) change2 w2)
     F s71 0 change1 w1)
   F s7 0 change w
 else
 ex0 s7 change w
def Jr0 {X : Type} (F : Nat) (fail : X) (ex0 : Int → ZW → ZW → X) : Nat → Int → ZW → ZW → X
 | 0, _, _, _ => fail
 | m + 1, s7, change, w => Kaw F fail (Jr0 F fail ex0 m) ex0 s7 change w
def Kax {X : Type} (F : Nat) (fail : X) (next ex0 : ZW → Int → ZW → ZB → X) (s18 : ZW) (s19 : Int) (w : ZW) (out : ZB) : X :=
 bif (decide (s19 < 16)) then
  bif ((decide (0 ≤ s19)) && (decide (s19 < (16 : Int)))) then
  bif ((decide (0 ≤ s19)) && (decide (s19 < (16 : Int)))) then
  bif (decide ((out ++ ([(J2r (Jcv (List.getD s18 (s19).toNat (0 : UInt32)) (List.getD w (s19).toNat (0 : UInt32)))), (J2r (Jrn (Jcv (List.getD s18 (s19).toNat (0 : UInt32)) (List.getD w (s19).toNat (0 : UInt32))) (8 : Int))), (J2r (Jrn (Jcv (List.getD s18 (s19).toNat (0 : UInt32)) (List.getD w (s19).toNat (0 : UInt32))) (16 : Int))), (J2r (Jrn (Jcv (List.getD s18 (s19).toNat (0 : UInt32)) (List.getD w (s19).toNat (0 : UInt32))) (24 : Int)))] : ZB)).length ≤ big)) then
  next s18 (Jat s19 (1 : Int)) w (out ++ ([(J2r (Jcv (List.getD s18 (s19).toNat (0 : UInt32)) (List.getD w (s19).toNat (0 : UInt32)))), (J2r (Jrn (Jcv (List.getD s18 (s19).toNat (0 : UInt32)) (List.getD w (s19).toNat (0 : UInt32))) (8 : Int))), (J2r (Jrn (Jcv (List.getD s18 (s19).toNat (0 : UInt32)) (List.getD w (s19).toNat (0 : UInt32))) (16 : Int))), (J2r (Jrn (Jcv (List.getD s18 (s19).toNat (0 : UInt32)) (List.getD w (s19).toNat (0 : UInt32))) (24 : Int)))] : ZB))
  else fail
  else fail
  else fail
 else
 ex0 s18 s19 w out
def Jr1 {X : Type} (F : Nat) (fail : X) (ex0 : ZW → Int → ZW → ZB → X) : Nat → ZW → Int → ZW → ZB → X
 | 0, _, _, _, _ => fail
 | m + 1, s18, s19, w, out => Kax F fail (Jr1 F fail ex0 m) ex0 s18 s19 w out
def cBlk {X : Type} (F : Nat) (key : ZB) (nonce counter : Int) (fail : X) (ret : ZB → X) : X :=
 bif (J08 key nonce counter) then
 Jr0 F fail
  (fun s7 change w =>
   Jr1 F fail
    (fun s18 s19 w1 out =>
     ret out)
    F change 0 w ([] : ZB))
  F 0 (J09 key nonce counter) (J09 key nonce counter)
 else fail
def Kwh {X : Type} (F : Nat) (nonce : Int) (fail : X) (ret : Bool → X) : X :=
 bif (decide (nonce ≥ 0)) then
  ret (decide (nonce ≤ 9007199254740991))
 else
 ret false
def Jr2 {X : Type} (F : Nat) (fail : X) (next ex0 : Nat → Nat → Int → Int → Int → ZB → Int → Int → ZB → ZB → ZB → Int → Int → X) (part_i part_n : Nat) (s31 s32 i : Int) (b : ZB) (s7 counter : Int) (part s key : ZB) (nonce s2 : Int) : X :=
 bif (decide (s32 < s31)) then
  bif ((decide (0 ≤ s32)) && (decide (s32 < ((part_n : Nat) : Int)))) then
  bif ((decide (0 ≤ s32)) && (decide (s32 < (s.length : Int)))) then
  bif ((decide (0 ≤ s32)) && (decide (s32 < ((part_n : Nat) : Int)))) then
  next part_i part_n s31 (Jat s32 1) i b s7 counter (List.set part (part_i + (s32).toNat) (J5k (List.getD part (part_i + (s32).toNat) 0) (List.getD s (s32).toNat 0))) s key nonce s2
  else fail
  else fail
  else fail
 else
 ex0 part_i part_n s31 s32 i b s7 counter part s key nonce s2
def Jie {X : Type} (F : Nat) (fail : X) (ex0 : Nat → Nat → Int → Int → Int → ZB → Int → Int → ZB → ZB → ZB → Int → Int → X) : Nat → Nat → Nat → Int → Int → Int → ZB → Int → Int → ZB → ZB → ZB → Int → Int → X
 | 0, _, _, _, _, _, _, _, _, _, _, _, _, _ => fail
 | m + 1, part_i, part_n, s31, s32, i, b, s7, counter, part, s, key, nonce, s2 => Jr2 F fail (Jie F fail ex0 m) ex0 part_i part_n s31 s32 i b s7 counter part s key nonce s2
def Jmt {X : Type} (F : Nat) (fail : X) (next ex0 : Int → ZB → Int → ZB → Int → Int → ZB → Int → X) (i : Int) (b : ZB) (s7 : Int) (key : ZB) (nonce counter : Int) (out : ZB) (s2 : Int) : X :=
 bif (decide (i < (out.length : Int))) then
  bif ((decide (0 ≤ i)) && (decide (i ≤ (out.length : Int)))) then
  bif ((((decide (0 ≤ i)) && (decide (i ≤ (Jat i (J97 s2 (((out.length - (i).toNat) : Nat) : Int)))))) && (decide ((Jat i (J97 s2 (((out.length - (i).toNat) : Nat) : Int))) ≤ (out.length : Int)))) && ((Jat i (J97 s2 (((out.length - (i).toNat) : Nat) : Int))) == (Jat i (J97 s2 (((out.length - (i).toNat) : Nat) : Int))))) then
  bif (Kph key nonce counter) then
  Jie F fail
   (fun part_i part_n s31 s32 i1 b1 s71 counter1 part s Jp7 nonce1 s21 =>
    next (Jat i1 s21) b1 s71 Jp7 nonce1 (Jat counter1 1) part s21)
   F (i).toNat (((Jat i (J97 s2 (((out.length - (i).toNat) : Nat) : Int)))).toNat - (i).toNat) (((((Jat i (J97 s2 (((out.length - (i).toNat) : Nat) : Int)))).toNat - (i).toNat) : Nat) : Int) 0 i b s7 counter out (Kpi key nonce counter) key nonce s2
  else fail
  else fail
  else fail
 else
 ex0 i b s7 key nonce counter out s2
def Jgi {X : Type} (F : Nat) (fail : X) (ex0 : Int → ZB → Int → ZB → Int → Int → ZB → Int → X) : Nat → Int → ZB → Int → ZB → Int → Int → ZB → Int → X
 | 0, _, _, _, _, _, _, _, _ => fail
 | m + 1, i, b, s7, key, nonce, counter, out, s2 => Jmt F fail (Jgi F fail ex0 m) ex0 i b s7 key nonce counter out s2
def Kk3 {X : Type} (F : Nat) (key : ZB) (nonce : Int) (b : ZB) (fail : X) (ret : ZB → Int → X) : X :=
 bif (decide ((b.length : Int) > 65536)) then
  ret ([] : ZB) 5
 else
 bif (!(Jnu nonce)) then
  ret ([] : ZB) 2
 else
 bif (Jbh b) then
 Jgi F fail
  (fun i b1 s7 Jp7 nonce1 counter out s2 =>
   ret out 0)
  F 0 b 0 key nonce 1 (Jb4 b) 64
 else fail
end Go.AI
namespace Go.AI
open Go
set_option linter.unusedVariables false
def Jya {X : Type} (F : Nat) (fail : X) (next ex0 : UInt32 → Int → X) (register : UInt32) (s4 : Int) : X :=
 bif (decide (s4 < 8)) then
  bif (((((J2q register 1)).toNat : Nat) : Int) == 1) then
   next (Jl5 (Jrn register 1) 3988292384) (Jat s4 1)
  else
  next (Jrn register 1) (Jat s4 1)
 else
 ex0 register s4
def Jkw {X : Type} (F : Nat) (fail : X) (ex0 : UInt32 → Int → X) : Nat → UInt32 → Int → X
 | 0, _, _ => fail
 | m + 1, register, s4 => Jya F fail (Jkw F fail ex0 m) ex0 register s4
def Kk4 {X : Type} (F : Nat) (register : UInt32) (fail : X) (ret : UInt32 → X) : X :=
 Jkw F fail
  (fun register1 s4 =>
   ret register1)
  F register 0
def J23 {X : Type} (F : Nat) (fail : X) (next ex0 : Int → ZW → ZW → X) (s3 : Int) (s0 out : ZW) : X :=
 bif (decide (s3 < 256)) then
  bif (Jvu (Kty s3)) then
  bif ((decide (0 ≤ s3)) && (decide (s3 < (256 : Int)))) then
  next (Jat s3 1) s0 (List.set out (s3).toNat (Jiv (Kty s3)))
  else fail
  else fail
 else
 ex0 s3 s0 out
def Jmu {X : Type} (F : Nat) (fail : X) (ex0 : Int → ZW → ZW → X) : Nat → Int → ZW → ZW → X
 | 0, _, _, _ => fail
 | m + 1, s3, s0, out => J23 F fail (Jmu F fail ex0 m) ex0 s3 s0 out
def Kwi {X : Type} (F : Nat) (fail : X) (ret : ZW → X) : X :=
 Jmu F fail
  (fun s3 s0 out =>
   ret out)
  F (0 : Int) (List.replicate 256 (0 : UInt32)) (List.replicate 256 (0 : UInt32))
def Kay {X : Type} (F : Nat) (fail : X) (next ex0 : ZB → Int → Int → UInt32 → UInt32 → UInt32 → ZW → ZB → X) (s5 : ZB) (s6 s7 : Int) (s4 s61 register : UInt32) (t : ZW) (bytes : ZB) : X :=
 bif (decide (s7 < s6)) then
  bif ((decide (0 ≤ s7)) && (decide (s7 < (s5.length : Int)))) then
  bif ((decide (0 ≤ ((((J5k (J2r register) (List.getD s5 (s7).toNat 0))).toNat : Nat) : Int))) && (decide (((((J5k (J2r register) (List.getD s5 (s7).toNat 0))).toNat : Nat) : Int) < (256 : Int)))) then
  next s5 s6 (Jat s7 1) s4 s61 (Jl5 (Jrn register 8) (List.getD t ((J5k (J2r register) (List.getD s5 (s7).toNat 0))).toNat 0)) t bytes
  else fail
  else fail
 else
 ex0 s5 s6 s7 s4 s61 register t bytes
def Jr3 {X : Type} (F : Nat) (fail : X) (ex0 : ZB → Int → Int → UInt32 → UInt32 → UInt32 → ZW → ZB → X) : Nat → ZB → Int → Int → UInt32 → UInt32 → UInt32 → ZW → ZB → X
 | 0, _, _, _, _, _, _, _, _ => fail
 | m + 1, s5, s6, s7, s4, s61, register, t, bytes => Kay F fail (Jr3 F fail ex0 m) ex0 s5 s6 s7 s4 s61 register t bytes
def cUpd {X : Type} (F : Nat) (sum : UInt32) (b : ZB) (fail : X) (ret : UInt32 → X) : X :=
 bif (J1a) then
 Jr3 F fail
  (fun s5 s6 s7 s4 s61 register t bytes =>
   ret (K1l register))
  F b (b.length : Int) 0 0 (K1l sum) (K1l sum) (Jjj) b
 else fail
def cSum {X : Type} (F : Nat) (b : ZB) (fail : X) (ret : UInt32 → X) : X :=
 bif (Kfg 0 b) then
 ret (Kpj 0 b)
 else fail
def Kwj {X : Type} (F : Nat) (length : Int) (fail : X) (ret : Int → X) : X :=
 ret (quoI (Jdj (Jat length 15) 1) 15)
def Kwk {X : Type} (F : Nat) (length : Int) (fail : X) (ret : Int → X) : X :=
 bif (decide (length < 0)) then
  ret 0
 else
 bif (decide (length > 65536)) then
  ret 0
 else
 bif (Jjk length) then
 ret (Jat (Jjl length) 1)
 else fail
def Kwl {X : Type} (F : Nat) (l : ZL) (fail : X) (ret : Int → X) : X :=
 bif (decide (l.2.2.1 < 2)) then
  ret 2
 else
 bif (decide (l.2.2.1 > 8192)) then
  bif (decide (l.2.2.1 > 8192)) then
   ret 2
  else
  bif (decide (l.2.1 < 0)) then
   ret 3
  else
  bif (decide (l.2.1 ≥ l.1)) then
   ret 3
  else
  ret 0
 else
 bif (decide (l.1 < 1)) then
  ret 2
 else
 bif (decide (l.1 > l.2.2.1)) then
  ret 2
 else
 bif (decide (l.2.1 < 0)) then
  ret 3
 else
 bif (decide (l.2.1 ≥ l.1)) then
  ret 3
 else
 ret 0
def K8g {X : Type} (F : Nat) (fail : X) (ret : ZB → X) : X :=
 ret ((([(3 : UInt8)] : ZB) ++ (List.take (min ([(99 : UInt8), (111 : UInt8), (109 : UInt8), (112 : UInt8), (97 : UInt8), (99 : UInt8), (116 : UInt8), (111 : UInt8), (114 : UInt8), (32 : UInt8), (108 : UInt8), (111 : UInt8), (103 : UInt8), (32 : UInt8), (49 : UInt8)] : ZB).length 15) ([(99 : UInt8), (111 : UInt8), (109 : UInt8), (112 : UInt8), (97 : UInt8), (99 : UInt8), (116 : UInt8), (111 : UInt8), (114 : UInt8), (32 : UInt8), (108 : UInt8), (111 : UInt8), (103 : UInt8), (32 : UInt8), (49 : UInt8)] : ZB))) ++ (List.drop (1 + (min ([(99 : UInt8), (111 : UInt8), (109 : UInt8), (112 : UInt8), (97 : UInt8), (99 : UInt8), (116 : UInt8), (111 : UInt8), (114 : UInt8), (32 : UInt8), (108 : UInt8), (111 : UInt8), (103 : UInt8), (32 : UInt8), (49 : UInt8)] : ZB).length 15)) ([(3 : UInt8), (0 : UInt8), (0 : UInt8), (0 : UInt8), (0 : UInt8), (0 : UInt8), (0 : UInt8), (0 : UInt8), (0 : UInt8), (0 : UInt8), (0 : UInt8), (0 : UInt8), (0 : UInt8), (0 : UInt8), (0 : UInt8), (0 : UInt8)] : ZB)))
def Jwa {X : Type} (F : Nat) (fail : X) (next ex0 : Int → ZB → Int → Int → X) (n : Int) (s6 : ZB) (s7 s8 : Int) : X :=
 bif (decide (s8 < s7)) then
  bif ((decide (0 ≤ s8)) && (decide (s8 < (s6.length : Int)))) then
  next (orI (K5e n 8) (Jl6 (List.getD s6 (s8).toNat 0))) s6 s7 (Jat s8 1)
  else fail
 else
 ex0 n s6 s7 s8
def Jka {X : Type} (F : Nat) (fail : X) (ex0 : Int → ZB → Int → Int → X) : Nat → Int → ZB → Int → Int → X
 | 0, _, _, _, _ => fail
 | m + 1, n, s6, s7, s8 => Jwa F fail (Jka F fail ex0 m) ex0 n s6 s7 s8
def Kwm {X : Type} (F : Nat) (from_ : ZB) (fail : X) (ret : Int → X) : X :=
 Jka F fail
  (fun n s6 s7 s8 =>
   ret n)
  F 0 from_ (from_.length : Int) 0
def Kaz {X : Type} (F : Nat) (fail : X) (next ex0 : Nat → Nat → Int → Int → Int → ZB → ZB → ZB → X) (to_i to_n : Nat) (n s6 s7 : Int) (payload to s4 : ZB) : X :=
 bif (decide (s7 < s6)) then
  bif (decide (0 ≤ (Jll 8 s7))) then
  bif ((decide (0 ≤ (Jdj (Jdj ((to_n : Nat) : Int) 1) s7))) && (decide ((Jdj (Jdj ((to_n : Nat) : Int) 1) s7) < ((to_n : Nat) : Int)))) then
  next to_i to_n n s6 (Jat s7 1) payload (List.set to (to_i + ((Jdj (Jdj ((to_n : Nat) : Int) 1) s7)).toNat) (Kkn (Kfd n (Jll 8 s7)))) s4
  else fail
  else fail
 else
 ex0 to_i to_n n s6 s7 payload to s4
def Jn9 {X : Type} (F : Nat) (fail : X) (ex0 : Nat → Nat → Int → Int → Int → ZB → ZB → ZB → X) : Nat → Nat → Nat → Int → Int → Int → ZB → ZB → ZB → X
 | 0, _, _, _, _, _, _, _, _ => fail
 | m + 1, to_i, to_n, n, s6, s7, payload, to, s4 => Kaz F fail (Jn9 F fail ex0 m) ex0 to_i to_n n s6 s7 payload to s4
def Ka0 {X : Type} (F : Nat) (fail : X) (next ex0 : Nat → Nat → Int → Int → Int → ZB → Nat → Nat → ZB → ZB → X) (to_i to_n : Nat) (n s6 s7 : Int) (payload : ZB) (s10_i s10_n : Nat) (to s4 : ZB) : X :=
 bif (decide (s7 < s6)) then
  bif (decide (0 ≤ (Jll 8 s7))) then
  bif ((decide (0 ≤ (Jdj (Jdj ((to_n : Nat) : Int) 1) s7))) && (decide ((Jdj (Jdj ((to_n : Nat) : Int) 1) s7) < ((to_n : Nat) : Int)))) then
  next to_i to_n n s6 (Jat s7 1) payload s10_i s10_n (List.set to (to_i + ((Jdj (Jdj ((to_n : Nat) : Int) 1) s7)).toNat) (Kkn (Kfd n (Jll 8 s7)))) s4
  else fail
  else fail
 else
 ex0 to_i to_n n s6 s7 payload s10_i s10_n to s4
def Jly {X : Type} (F : Nat) (fail : X) (ex0 : Nat → Nat → Int → Int → Int → ZB → Nat → Nat → ZB → ZB → X) : Nat → Nat → Nat → Int → Int → Int → ZB → Nat → Nat → ZB → ZB → X
 | 0, _, _, _, _, _, _, _, _, _, _ => fail
 | m + 1, to_i, to_n, n, s6, s7, payload, s10_i, s10_n, to, s4 => Ka0 F fail (Jly F fail ex0 m) ex0 to_i to_n n s6 s7 payload s10_i s10_n to s4
def Ka1 {X : Type} (F : Nat) (fail : X) (next ex0 : Nat → Nat → Int → Int → Int → ZB → Nat → Nat → Nat → Nat → ZB → ZB → X) (to_i to_n : Nat) (n s6 s7 : Int) (payload : ZB) (s10_i s10_n s19_i s19_n : Nat) (to s4 : ZB) : X :=
 bif (decide (s7 < s6)) then
  bif (decide (0 ≤ (Jll 8 s7))) then
  bif ((decide (0 ≤ (Jdj (Jdj ((to_n : Nat) : Int) 1) s7))) && (decide ((Jdj (Jdj ((to_n : Nat) : Int) 1) s7) < ((to_n : Nat) : Int)))) then
  next to_i to_n n s6 (Jat s7 1) payload s10_i s10_n s19_i s19_n (List.set to (to_i + ((Jdj (Jdj ((to_n : Nat) : Int) 1) s7)).toNat) (Kkn (Kfd n (Jll 8 s7)))) s4
  else fail
  else fail
 else
 ex0 to_i to_n n s6 s7 payload s10_i s10_n s19_i s19_n to s4
def Joa {X : Type} (F : Nat) (fail : X) (ex0 : Nat → Nat → Int → Int → Int → ZB → Nat → Nat → Nat → Nat → ZB → ZB → X) : Nat → Nat → Nat → Int → Int → Int → ZB → Nat → Nat → Nat → Nat → ZB → ZB → X
 | 0, _, _, _, _, _, _, _, _, _, _, _, _ => fail
 | m + 1, to_i, to_n, n, s6, s7, payload, s10_i, s10_n, s19_i, s19_n, to, s4 => Ka1 F fail (Joa F fail ex0 m) ex0 to_i to_n n s6 s7 payload s10_i s10_n s19_i s19_n to s4
def lEnd {X : Type} (F : Nat) (payload : ZB) (commits : Int) (fail : X) (ret : ZB → X) : X :=
 Jn9 F fail
  (fun to_i to_n n s6 s7 payload1 to s4 =>
   bif (Jjk (payload1.length : Int)) then
   Jly F fail
    (fun to_i1 to_n1 n1 s61 s71 payload2 s10_i s10_n to1 s41 =>
     Jly F fail
      (fun to_i2 to_n2 n2 s62 s72 payload3 s10_i1 s10_n1 to2 s42 =>
       bif (J7x payload3) then
       Joa F fail
        (fun to_i3 to_n3 n3 s63 s73 payload4 s10_i2 s10_n2 s19_i s19_n to3 s43 =>
         ret to3)
        F 12 4 (cvWI (J7y payload3)) 4 0 payload3 s10_i1 s10_n1 12 4 to2 s42
       else fail)
      F 8 4 (payload2.length : Int) 4 0 payload2 s10_i s10_n to1 s41)
    F 5 3 (Jjl (payload1.length : Int)) 3 0 payload1 5 3 to s4
   else fail)
  F 1 4 commits 4 0 payload ([2, 0, 0, 0, 0, 0, 0, 0, 0, 0, 0, 0, 0, 0, 0, 0] : ZB) z16
def K3x {X : Type} (F : Nat) (at_ : Int) (l : List ZB) (fail : X) (ret : (Int × (Int × ((List ZB) × Unit))) → X) : X :=
 ret (0, (at_, (l, ())))
def K8h {X : Type} (F : Nat) (fail : X) (ret : (Int × (Int × ((List ZB) × Unit))) → X) : X :=
 ret (1, (0, (([] : List ZB), ())))
def J1e {X : Type} (F : Nat) (fail : X) (next ex0 ex1 : ZB → Int → Int → Int → X) (s : ZB) (s4 s7 s8 : Int) : X :=
 bif (decide (s8 < s7)) then
  bif ((decide (0 ≤ s8)) && (decide (s8 < (s.length : Int)))) then
  bif (((((List.getD s (s8).toNat 0)).toNat : Nat) : Int) != 0) then
   ex0 s s8 s7 s8
  else
  next s s4 s7 (Jat s8 1)
  else fail
 else
 ex1 s s4 s7 s8
def Jmv {X : Type} (F : Nat) (fail : X) (ex0 ex1 : ZB → Int → Int → Int → X) : Nat → ZB → Int → Int → Int → X
 | 0, _, _, _, _ => fail
 | m + 1, s, s4, s7, s8 => J1e F fail (Jmv F fail ex0 ex1 m) ex0 ex1 s s4 s7 s8
def K5s {X : Type} (F : Nat) (s : ZB) (fail : X) (ret : Bool → X) : X :=
 Jmv F fail
  (fun s1 s4 s7 s8 =>
   ret (decide (s4 ≥ 0)))
  (fun s2 s41 s71 s81 =>
   ret false)
  F s 0 (s.length : Int) 0
def Kk5 {X : Type} (F : Nat) (size : Int) (fail : X) (ret : ZL → List (Int × (Int × ((List ZB) × Unit))) → Int → X) : X :=
 bif (decide (size < 2)) then
  ret (0, (0, (0, ()))) ([] : List (Int × (Int × ((List ZB) × Unit)))) 2
 else
 bif (decide (size > 8192)) then
  ret (0, (0, (0, ()))) ([] : List (Int × (Int × ((List ZB) × Unit)))) 2
 else
 bif (((decide (0 ≤ size)) && true) && (decide (size ≤ ((big : Nat) : Int)))) then
 bif (Jjn (0 : Int) (List.replicate (size).toNat z16)) then
 bif (Jnx) then
 bif (J2x) then
 bif (Jjn 0 ([(Jx1)] : List ZB)) then
 bif (Jnx) then
 ret ((1 : Int), ((0 : Int), (size, ()))) ([(Jjo (0 : Int) (List.replicate (size).toNat z16)), (Jny), (Jjo (0 : Int) ([(Jx1)] : List ZB)), (Jny)] : List (Int × (Int × ((List ZB) × Unit)))) (0 : Int)
 else fail
 else fail
 else fail
 else fail
 else fail
 else fail
def Jr4 {X : Type} (F : Nat) (fail : X) (next ex0 : Int → ZB → Int → Int → List ZB → ZB → Int → ZL → ZL → X) (i : Int) (payload : ZB) (s6 n : Int) (parts : List ZB) (s1 : ZB) (s2 : Int) (l s4 : ZL) : X :=
 bif (decide (i < (s1.length : Int))) then
  bif ((decide (0 ≤ i)) && (decide (i ≤ (s1.length : Int)))) then
  bif ((((decide (0 ≤ i)) && (decide (i ≤ (Jat i (J97 s2 (((List.drop (i).toNat s1).length : Nat) : Int)))))) && (decide ((Jat i (J97 s2 (((List.drop (i).toNat s1).length : Nat) : Int))) ≤ (s1.length : Int)))) && ((Jat i (J97 s2 (((List.drop (i).toNat s1).length : Nat) : Int))) == (Jat i (J97 s2 (((List.drop (i).toNat s1).length : Nat) : Int))))) then
  bif (decide ((parts ++ ([((([(1 : UInt8)] : ZB) ++ (List.take (min (List.drop (i).toNat (List.take ((Jat i (J97 s2 (((List.drop (i).toNat s1).length : Nat) : Int)))).toNat s1)).length 15) (List.drop (i).toNat (List.take ((Jat i (J97 s2 (((List.drop (i).toNat s1).length : Nat) : Int)))).toNat s1)))) ++ (List.drop (1 + (min (List.drop (i).toNat (List.take ((Jat i (J97 s2 (((List.drop (i).toNat s1).length : Nat) : Int)))).toNat s1)).length 15)) ([(1 : UInt8), (0 : UInt8), (0 : UInt8), (0 : UInt8), (0 : UInt8), (0 : UInt8), (0 : UInt8), (0 : UInt8), (0 : UInt8), (0 : UInt8), (0 : UInt8), (0 : UInt8), (0 : UInt8), (0 : UInt8), (0 : UInt8), (0 : UInt8)] : ZB)))] : List ZB)).length ≤ big)) then
  next (Jat i s2) payload s6 n (parts ++ ([((([(1 : UInt8)] : ZB) ++ (List.take (min (List.drop (i).toNat (List.take ((Jat i (J97 s2 (((List.drop (i).toNat s1).length : Nat) : Int)))).toNat s1)).length 15) (List.drop (i).toNat (List.take ((Jat i (J97 s2 (((List.drop (i).toNat s1).length : Nat) : Int)))).toNat s1)))) ++ (List.drop (1 + (min (List.drop (i).toNat (List.take ((Jat i (J97 s2 (((List.drop (i).toNat s1).length : Nat) : Int)))).toNat s1)).length 15)) ([(1 : UInt8), (0 : UInt8), (0 : UInt8), (0 : UInt8), (0 : UInt8), (0 : UInt8), (0 : UInt8), (0 : UInt8), (0 : UInt8), (0 : UInt8), (0 : UInt8), (0 : UInt8), (0 : UInt8), (0 : UInt8), (0 : UInt8), (0 : UInt8)] : ZB)))] : List ZB)) s1 s2 l s4
  else fail
  else fail
  else fail
 else
 ex0 i payload s6 n parts s1 s2 l s4
def Jif {X : Type} (F : Nat) (fail : X) (ex0 : Int → ZB → Int → Int → List ZB → ZB → Int → ZL → ZL → X) : Nat → Int → ZB → Int → Int → List ZB → ZB → Int → ZL → ZL → X
 | 0, _, _, _, _, _, _, _, _, _ => fail
 | m + 1, i, payload, s6, n, parts, s1, s2, l, s4 => Jr4 F fail (Jif F fail ex0 m) ex0 i payload s6 n parts s1 s2 l s4
def Kk6 {X : Type} (F : Nat) (l : ZL) (payload : ZB) (fail : X) (ret : ZL → List (Int × (Int × ((List ZB) × Unit))) → Int → X) : X :=
 bif ((Jjm l) != 0) then
  ret (0, (0, (0, ()))) ([] : List (Int × (Int × ((List ZB) × Unit)))) (Jjm l)
 else
 bif (J1b (payload.length : Int)) then
 bif (decide ((payload.length : Int) > 65536)) then
  ret (0, (0, (0, ()))) ([] : List (Int × (Int × ((List ZB) × Unit)))) 5
 else
 bif (decide ((Jim (payload.length : Int)) > (Jdj l.2.2.1 l.1))) then
  ret (0, (0, (0, ()))) ([] : List (Int × (Int × ((List ZB) × Unit)))) 11
 else
 bif (decide ((Jim (payload.length : Int)) > 1)) then
  Jif F fail
   (fun i payload1 s6 n parts s1 s2 l1 s4 =>
    bif (Jjn l1.1 parts) then
    bif (Jnx) then
    bif (J2y payload1 (Jat l1.2.1 1)) then
    bif (Jjn (Jdj (Jat l1.1 n) 1) ([(Jvv payload1 (Jat l1.2.1 1))] : List ZB)) then
    bif (Jnx) then
    ret ((Jat l1.1 n), ((Jat l1.2.1 1), (l1.2.2.1, ()))) ([(Jjo l1.1 parts), (Jny), (Jjo (Jdj (Jat l1.1 n) 1) ([(Jvv payload1 (Jat l1.2.1 1))] : List ZB)), (Jny)] : List (Int × (Int × ((List ZB) × Unit)))) 0
    else fail
    else fail
    else fail
    else fail
    else fail)
   F 0 payload 0 (Jim (payload.length : Int)) ([] : List ZB) payload 15 l (0, (0, (0, ())))
 else
 bif (J2y payload (Jat l.2.1 1)) then
 bif (Jjn (Jdj (Jat l.1 (Jim (payload.length : Int))) 1) ([(Jvv payload (Jat l.2.1 1))] : List ZB)) then
 bif (Jnx) then
 ret ((Jat l.1 (Jim (payload.length : Int))), ((Jat l.2.1 1), (l.2.2.1, ()))) ([(Jjo (Jdj (Jat l.1 (Jim (payload.length : Int))) 1) ([(Jvv payload (Jat l.2.1 1))] : List ZB)), (Jny)] : List (Int × (Int × ((List ZB) × Unit)))) 0
 else fail
 else fail
 else fail
 else fail
def J1f {X : Type} (F : Nat) (fail : X) (next ex0 ex1 : Int → Int → List ZB → Int → Int → Int → ((List ZB) × Unit) → ZB → Bool → ZB → List ZB → X) (number count : Int) (l : List ZB) (first s5 left : Int) (r : ((List ZB) × Unit)) (payload : ZB) (ok : Bool) (p : ZB) (out : List ZB) : X :=
 bif (((((List.getD p 0 0)).toNat : Nat) : Int) == 1) then
  bif (decide ((payload ++ (List.take 15 (List.drop 1 p))).length ≤ big)) then
  bif (!(decide (((r.1.length : Nat) : Int) > 0))) then
   ex0 number (Jat count (1 : Int)) l first s5 left r (payload ++ (List.take 15 (List.drop 1 p))) ok p out
  else
  bif (decide (0 < ((r.1.length : Nat) : Int))) then
  bif (decide (1 ≤ ((r.1.length : Nat) : Int))) then
  next number (Jat count (1 : Int)) l first s5 left ((List.drop 1 r.1), r.2) (payload ++ (List.take 15 (List.drop 1 p))) ok (List.getD r.1 0 z16) out
  else fail
  else fail
  else fail
 else
 ex1 number count l first s5 left r payload ok p out
def Jmw {X : Type} (F : Nat) (fail : X) (ex0 ex1 : Int → Int → List ZB → Int → Int → Int → ((List ZB) × Unit) → ZB → Bool → ZB → List ZB → X) : Nat → Int → Int → List ZB → Int → Int → Int → ((List ZB) × Unit) → ZB → Bool → ZB → List ZB → X
 | 0, _, _, _, _, _, _, _, _, _, _, _ => fail
 | m + 1, number, count, l, first, s5, left, r, payload, ok, p, out => J1f F fail (Jmw F fail ex0 ex1 m) ex0 ex1 number count l first s5 left r payload ok p out
def J1g {X : Type} (F : Nat) (fail : X) (next ex0 : List ZB → Int → Int → List ZB → ((List ZB) × Unit) → X) (l : List ZB) (first s5 : Int) (out : List ZB) (r : ((List ZB) × Unit)) : X :=
 bif (!(decide (((r.1.length : Nat) : Int) > 0))) then
  ex0 l first (Jdj (l.length : Int) ((r.1.length : Nat) : Int)) out r
 else
 bif (decide (0 < ((r.1.length : Nat) : Int))) then
 bif (decide (1 ≤ ((r.1.length : Nat) : Int))) then
 Jmw F fail
  (fun number count l1 first1 s51 left r1 payload ok p out1 =>
   ex0 l1 first1 (Jdj (l1.length : Int) left) out1 r1)
  (fun number1 count1 l2 first2 s52 left1 r2 payload1 ok1 p1 out2 =>
   bif (Jlu (List.take 4 (List.drop 8 p1))) then
   bif (((((List.getD p1 0 0)).toNat : Nat) : Int) == 2) then
    bif (Jlu (List.take 4 (List.drop 1 p1))) then
    bif ((Jb5 (List.take 4 (List.drop 1 p1))) == number1) then
     bif (Jlu (List.take 3 (List.drop 5 p1))) then
     bif ((Jb5 (List.take 3 (List.drop 5 p1))) == count1) then
      bif (decide ((Jb5 (List.take 4 (List.drop 8 p1))) ≤ 65536)) then
       bif (Jjk (Jb5 (List.take 4 (List.drop 8 p1)))) then
       bif (!((Jjl (Jb5 (List.take 4 (List.drop 8 p1)))) == count1)) then
        ex0 l2 first2 (Jdj (l2.length : Int) left1) out2 r2
       else
       bif ((decide (0 ≤ (Jb5 (List.take 4 (List.drop 8 p1))))) && (decide ((Jb5 (List.take 4 (List.drop 8 p1))) ≤ (payload1.length : Int)))) then
       bif (((decide (0 ≤ (Jb5 (List.take 4 (List.drop 8 p1))))) && (decide ((Jb5 (List.take 4 (List.drop 8 p1))) ≤ (payload1.length : Int)))) && ((Jb5 (List.take 4 (List.drop 8 p1))) == (Jb5 (List.take 4 (List.drop 8 p1))))) then
       bif (Kr2 (List.take (payload1.length - ((Jb5 (List.take 4 (List.drop 8 p1)))).toNat) (List.drop ((Jb5 (List.take 4 (List.drop 8 p1)))).toNat payload1)) 73) then
       bif (!(Kr3 (List.take (payload1.length - ((Jb5 (List.take 4 (List.drop 8 p1)))).toNat) (List.drop ((Jb5 (List.take 4 (List.drop 8 p1)))).toNat payload1)) 73)) then
        bif (Jlu (List.take 4 (List.drop 12 p1))) then
        bif (J7x (List.take ((Jb5 (List.take 4 (List.drop 8 p1)))).toNat payload1)) then
        bif (!((Jb5 (List.take 4 (List.drop 12 p1))) == (cvWI (J7y (List.take ((Jb5 (List.take 4 (List.drop 8 p1)))).toNat payload1))))) then
         ex0 l2 first2 (Jdj (l2.length : Int) left1) out2 r2
        else
        bif (decide ((out2 ++ ([(List.take ((Jb5 (List.take 4 (List.drop 8 p1)))).toNat payload1)] : List ZB)).length ≤ big)) then
        next l2 first2 s52 (out2 ++ ([(List.take ((Jb5 (List.take 4 (List.drop 8 p1)))).toNat payload1)] : List ZB)) r2
        else fail
        else fail
        else fail
       else
       ex0 l2 first2 (Jdj (l2.length : Int) left1) out2 r2
       else fail
       else fail
       else fail
       else fail
      else
      ex0 l2 first2 (Jdj (l2.length : Int) left1) out2 r2
     else
     ex0 l2 first2 (Jdj (l2.length : Int) left1) out2 r2
     else fail
    else
    ex0 l2 first2 (Jdj (l2.length : Int) left1) out2 r2
    else fail
   else
   ex0 l2 first2 (Jdj (l2.length : Int) left1) out2 r2
   else fail)
  F (Jat first (out.length : Int)) 0 l first s5 ((r.1.length : Nat) : Int) ((List.drop 1 r.1), r.2) ([] : ZB) false (List.getD r.1 0 z16) out
 else fail
 else fail
def Jmx {X : Type} (F : Nat) (fail : X) (ex0 : List ZB → Int → Int → List ZB → ((List ZB) × Unit) → X) : Nat → List ZB → Int → Int → List ZB → ((List ZB) × Unit) → X
 | 0, _, _, _, _, _ => fail
 | m + 1, l, first, s5, out, r => J1g F fail (Jmx F fail ex0 m) ex0 l first s5 out r
def K5t {X : Type} (F : Nat) (l : List ZB) (first : Int) (fail : X) (ret : List ZB → Int → X) : X :=
 bif (decide (first < 1)) then
  ret ([] : List ZB) 0
 else
 bif (decide (first > 8192)) then
  ret ([] : List ZB) 0
 else
 Jmx F fail
  (fun l1 first1 s5 s4 r =>
   ret s4 s5)
  F l first 0 ([] : List ZB) (l, ())
def K5u {X : Type} (F : Nat) (d_ : ZD) (fail : X) (ret : ZL → List ZB → Int → X) : X :=
 bif (Kaf d_ 0 ((d_.1.length : Nat) : Int)) then
 bif ((Jro d_ 0 ((d_.1.length : Nat) : Int)) != 0) then
  ret (0, (0, (0, ()))) ([] : List ZB) (Jro d_ 0 ((d_.1.length : Nat) : Int))
 else
 bif (decide ((((Jdx d_ 0 ((d_.1.length : Nat) : Int)).length : Nat) : Int) < 2)) then
  ret (0, (0, (0, ()))) ([] : List ZB) 2
 else
 bif (decide (0 < (((Jdx d_ 0 ((d_.1.length : Nat) : Int)).length : Nat) : Int))) then
 bif (J2x) then
 bif (!(Jcu (.arr 16 (.int .u8)) (List.getD (Jdx d_ 0 ((d_.1.length : Nat) : Int)) 0 z16) (Jx1))) then
  ret (0, (0, (0, ()))) ([] : List ZB) 3
 else
 bif (decide (1 ≤ (((Jdx d_ 0 ((d_.1.length : Nat) : Int)).length : Nat) : Int))) then
 bif (Jx3 (List.take ((Jdx d_ 0 ((d_.1.length : Nat) : Int)).length - 1) (List.drop 1 (Jdx d_ 0 ((d_.1.length : Nat) : Int)))) 1) then
 ret ((Jat 1 (Jjp (List.take ((Jdx d_ 0 ((d_.1.length : Nat) : Int)).length - 1) (List.drop 1 (Jdx d_ 0 ((d_.1.length : Nat) : Int)))) 1)), ((((Jvx (List.take ((Jdx d_ 0 ((d_.1.length : Nat) : Int)).length - 1) (List.drop 1 (Jdx d_ 0 ((d_.1.length : Nat) : Int)))) 1).length : Nat) : Int), ((((Jdx d_ 0 ((d_.1.length : Nat) : Int)).length : Nat) : Int), ()))) (Jvx (List.take ((Jdx d_ 0 ((d_.1.length : Nat) : Int)).length - 1) (List.drop 1 (Jdx d_ 0 ((d_.1.length : Nat) : Int)))) 1) 0
 else fail
 else fail
 else fail
 else fail
 else fail
end Go.AI
namespace Go.AI
open Go
set_option linter.unusedVariables false
def Jwb {X : Type} (F : Nat) (fail : X) (next ex0 ex1 : Int → List ZR → Int → Int → X) (s2 : Int) (s8 : List ZR) (s9 s10 : Int) : X :=
 bif (decide (s10 < s9)) then
  bif ((decide (0 ≤ s10)) && (decide (s10 < (s8.length : Int)))) then
  bif (decide ((List.getD s8 (s10).toNat (0, (([] : ZB), ()))).1 ≥ 1)) then
   bif (!(decide ((List.getD s8 (s10).toNat (0, (([] : ZB), ()))).1 ≤ 4))) then
    ex0 1 s8 s9 s10
   else
   bif (decide ((((List.getD s8 (s10).toNat (0, (([] : ZB), ()))).2.1.length : Nat) : Int) > 65536)) then
    ex0 5 s8 s9 s10
   else
   next s2 s8 s9 (Jat s10 1)
  else
  ex0 1 s8 s9 s10
  else fail
 else
 ex1 s2 s8 s9 s10
def Jkb {X : Type} (F : Nat) (fail : X) (ex0 ex1 : Int → List ZR → Int → Int → X) : Nat → Int → List ZR → Int → Int → X
 | 0, _, _, _, _ => fail
 | m + 1, s2, s8, s9, s10 => Jwb F fail (Jkb F fail ex0 ex1 m) ex0 ex1 s2 s8 s9 s10
def Kwn {X : Type} (F : Nat) (l : List ZR) (fail : X) (ret : Int → X) : X :=
 bif (decide ((l.length : Int) > 1024)) then
  ret 6
 else
 Jkb F fail
  (fun s2 s8 s9 s10 =>
   ret s2)
  (fun s21 s81 s91 s101 =>
   ret 0)
  F 0 l (l.length : Int) 0
def Kk7 {X : Type} (F : Nat) (b : ZB) (x_ : Int) (fail : X) (ret : ZB → X) : X :=
 bif (Jfy b x_) then
 ret (Jjh b x_)
 else fail
def Kk8 {X : Type} (F : Nat) (b x_ : ZB) (fail : X) (ret : ZB → X) : X :=
 bif (Jeg b x_) then
 ret (Jhp b x_)
 else fail
def Jr5 {X : Type} (F : Nat) (fail : X) (next ex0 : List ZR → Int → Int → ZB → X) (s16 : List ZR) (s17 s18 : Int) (b : ZB) : X :=
 bif (decide (s18 < s17)) then
  bif ((decide (0 ≤ s18)) && (decide (s18 < (s16.length : Int)))) then
  bif (Jn0 b 94 (List.getD s16 (s18).toNat (0, (([] : ZB), ()))).1) then
  bif (Jt1 (Ji8 b 94 (List.getD s16 (s18).toNat (0, (([] : ZB), ()))).1) 96 (List.getD s16 (s18).toNat (0, (([] : ZB), ()))).2.1) then
  next s16 s17 (Jat s18 1) (Jp9 (Ji8 b 94 (List.getD s16 (s18).toNat (0, (([] : ZB), ()))).1) 96 (List.getD s16 (s18).toNat (0, (([] : ZB), ()))).2.1)
  else fail
  else fail
  else fail
 else
 ex0 s16 s17 s18 b
def Jfk {X : Type} (F : Nat) (fail : X) (ex0 : List ZR → Int → Int → ZB → X) : Nat → List ZR → Int → Int → ZB → X
 | 0, _, _, _, _ => fail
 | m + 1, s16, s17, s18, b => Jr5 F fail (Jfk F fail ex0 m) ex0 s16 s17 s18 b
def Kk9 {X : Type} (F : Nat) (l : List ZR) (fail : X) (ret : ZB → Int → X) : X :=
 bif (Jru l) then
 bif ((Jlx l) != 0) then
  ret ([] : ZB) (Jlx l)
 else
 bif (Jn0 ([] : ZB) 94 (l.length : Int)) then
 Jfk F fail
  (fun s16 s17 s18 b =>
   bif (decide ((b.length : Int) > 65536)) then
    ret ([] : ZB) 5
   else
   ret b 0)
  F l (l.length : Int) 0 (Ji8 ([] : ZB) 94 (l.length : Int))
 else fail
 else fail
def Jr6 {X : Type} (F : Nat) (fail : X) (next ex0 ex1 : Int → Int → Int → ZB → List ZR → X) (s3 s19 s20 : Int) (b : ZB) (out : List ZR) : X :=
 bif (decide (s20 < s19)) then
  bif (Jef b) then
  bif ((Ja9 b) == 0) then
   bif ((Ja9 b) != 0) then
    ex0 (Ja9 b) s19 s20 (Jam b) out
   else
   bif (decide ((Jan b) ≥ 1)) then
    bif (!(decide ((Jan b) ≤ 4))) then
     ex0 1 s19 s20 (Jam b) out
    else
    bif (Jff (Jam b)) then
    bif ((Jch (Jam b)) == 0) then
     bif ((Jch (Jam b)) != 0) then
      ex0 (Jch (Jam b)) s19 s20 (Jd0 (Jam b)) out
     else
     bif (decide ((out ++ ([((Jan b), ((Jdz (Jam b)), ()))] : List ZR)).length ≤ big)) then
     next s3 s19 (Jat s20 (1 : Int)) (Jd0 (Jam b)) (out ++ ([((Jan b), ((Jdz (Jam b)), ()))] : List ZR))
     else fail
    else
    bif ((Jch (Jam b)) != 0) then
     ex0 (Jch (Jam b)) s19 s20 (Jam b) out
    else
    bif (decide ((out ++ ([((Jan b), (([] : ZB), ()))] : List ZR)).length ≤ big)) then
    next s3 s19 (Jat s20 (1 : Int)) (Jam b) (out ++ ([((Jan b), (([] : ZB), ()))] : List ZR))
    else fail
    else fail
   else
   ex0 1 s19 s20 (Jam b) out
  else
  bif ((Ja9 b) != 0) then
   ex0 (Ja9 b) s19 s20 b out
  else
  ex0 1 s19 s20 b out
  else fail
 else
 ex1 s3 s19 s20 b out
def Jeu {X : Type} (F : Nat) (fail : X) (ex0 ex1 : Int → Int → Int → ZB → List ZR → X) : Nat → Int → Int → Int → ZB → List ZR → X
 | 0, _, _, _, _, _ => fail
 | m + 1, s3, s19, s20, b, out => Jr6 F fail (Jeu F fail ex0 ex1 m) ex0 ex1 s3 s19 s20 b out
def Kla {X : Type} (F : Nat) (b : ZB) (fail : X) (ret : List ZR → Int → X) : X :=
 bif (decide ((b.length : Int) > 65536)) then
  ret ([] : List ZR) 5
 else
 bif (Jef b) then
 bif ((Ja9 b) == 0) then
  bif ((Ja9 b) != 0) then
   ret ([] : List ZR) (Ja9 b)
  else
  bif (decide ((Jan b) > 1024)) then
   ret ([] : List ZR) 6
  else
  Jeu F fail
   (fun s3 s19 s20 b1 out =>
    ret ([] : List ZR) s3)
   (fun s31 s191 s201 b2 out1 =>
    bif (decide ((b2.length : Int) > 0)) then
     ret ([] : List ZR) 3
    else
    ret out1 0)
   F 0 (Jan b) 0 (Jam b) ([] : List ZR)
 else
 bif ((Ja9 b) != 0) then
  ret ([] : List ZR) (Ja9 b)
 else
 Jeu F fail
  (fun s32 s192 s202 b3 out2 =>
   ret ([] : List ZR) s32)
  (fun s33 s193 s203 b4 out3 =>
   bif (decide ((b4.length : Int) > 0)) then
    ret ([] : List ZR) 3
   else
   ret out3 0)
  F 0 0 0 b ([] : List ZR)
 else fail
def Ka2 {X : Type} (F : Nat) (fail : X) (next ex0 ex1 : List ZR → Bool → Int → X) (l : List ZR) (s2 : Bool) (i : Int) : X :=
 bif (decide (i < (l.length : Int))) then
  bif (decide (i < 60)) then
   bif ((decide (0 ≤ i)) && (decide (i < (l.length : Int)))) then
   bif (decide ((((List.getD l (i).toNat (0, (([] : ZB), ()))).2.1.length : Nat) : Int) > 300)) then
    ex0 l false i
   else
   next l s2 (Jat i 1)
   else fail
  else
  ex1 l s2 i
 else
 ex1 l s2 i
def Jr7 {X : Type} (F : Nat) (fail : X) (ex0 ex1 : List ZR → Bool → Int → X) : Nat → List ZR → Bool → Int → X
 | 0, _, _, _ => fail
 | m + 1, l, s2, i => Ka2 F fail (Jr7 F fail ex0 ex1 m) ex0 ex1 l s2 i
def uFew {X : Type} (F : Nat) (l : List ZR) (fail : X) (ret : Bool → X) : X :=
 Jr7 F fail
  (fun l1 s2 i =>
   ret s2)
  (fun l2 s21 i1 =>
   ret (decide ((l2.length : Int) ≤ 60)))
  F l false 0
def J1h {X : Type} (F : Nat) (fail : X) (next ex0 ex1 : List ZR → List ZR → Bool → Int → X) (a b : List ZR) (s4 : Bool) (i : Int) : X :=
 bif (decide (i < (a.length : Int))) then
  bif ((decide (0 ≤ i)) && (decide (i < (a.length : Int)))) then
  bif ((decide (0 ≤ i)) && (decide (i < (b.length : Int)))) then
  bif ((List.getD a (i).toNat (0, (([] : ZB), ()))).1 != (List.getD b (i).toNat (0, (([] : ZB), ()))).1) then
   ex0 a b false i
  else
  bif ((decide (0 ≤ i)) && (decide (i < (a.length : Int)))) then
  bif ((decide (0 ≤ i)) && (decide (i < (b.length : Int)))) then
  bif (!((List.getD a (i).toNat (0, (([] : ZB), ()))).2.1 == (List.getD b (i).toNat (0, (([] : ZB), ()))).2.1)) then
   ex0 a b false i
  else
  next a b s4 (Jat i 1)
  else fail
  else fail
  else fail
  else fail
 else
 ex1 a b s4 i
def Jmy {X : Type} (F : Nat) (fail : X) (ex0 ex1 : List ZR → List ZR → Bool → Int → X) : Nat → List ZR → List ZR → Bool → Int → X
 | 0, _, _, _, _ => fail
 | m + 1, a, b, s4, i => J1h F fail (Jmy F fail ex0 ex1 m) ex0 ex1 a b s4 i
def K5v {X : Type} (F : Nat) (a b : List ZR) (fail : X) (ret : Bool → X) : X :=
 bif ((a.length : Int) != (b.length : Int)) then
  ret false
 else
 Jmy F fail
  (fun a1 b1 s4 i =>
   ret s4)
  (fun a2 b2 s41 i1 =>
   ret true)
  F a b false 0
def Job {X : Type} (F : Nat) (fail : X) (next ex0 ex1 : List (List ZR) → List (List ZR) → Bool → Int → X) (a b : List (List ZR)) (s4 : Bool) (i : Int) : X :=
 bif (decide (i < (a.length : Int))) then
  bif ((decide (0 ≤ i)) && (decide (i < (a.length : Int)))) then
  bif ((decide (0 ≤ i)) && (decide (i < (b.length : Int)))) then
  bif (Kak (List.getD a (i).toNat ([] : List ZR)) (List.getD b (i).toNat ([] : List ZR))) then
  bif (!(J20 (List.getD a (i).toNat ([] : List ZR)) (List.getD b (i).toNat ([] : List ZR)))) then
   ex0 a b false i
  else
  next a b s4 (Jat i 1)
  else fail
  else fail
  else fail
 else
 ex1 a b s4 i
def Jg9 {X : Type} (F : Nat) (fail : X) (ex0 ex1 : List (List ZR) → List (List ZR) → Bool → Int → X) : Nat → List (List ZR) → List (List ZR) → Bool → Int → X
 | 0, _, _, _, _ => fail
 | m + 1, a, b, s4, i => Job F fail (Jg9 F fail ex0 ex1 m) ex0 ex1 a b s4 i
def Ka3 {X : Type} (F : Nat) (a b : List (List ZR)) (fail : X) (ret : Bool → X) : X :=
 bif ((a.length : Int) != (b.length : Int)) then
  ret false
 else
 Jg9 F fail
  (fun a1 b1 s4 i =>
   ret s4)
  (fun a2 b2 s41 i1 =>
   ret true)
  F a b false 0
end Go.AI
namespace Go.AI
open Go
set_option linter.unusedVariables false
def Klb {X : Type} (F : Nat) (l : ZL) (key : ZB) (records : List ZR) (fail : X) (ret : ZL → List (Int × (Int × ((List ZB) × Unit))) → Int → X) : X :=
 bif ((Jjm l) != 0) then
  ret (0, (0, (0, ()))) ([] : List (Int × (Int × ((List ZB) × Unit)))) (Jjm l)
 else
 bif (Jvy records) then
 bif ((Jj2 records) != 0) then
  ret (0, (0, (0, ()))) ([] : List (Int × (Int × ((List ZB) × Unit)))) (Jj2 records)
 else
 bif (decide ((key.length : Int) > 0)) then
  bif (Kaj key (Jat l.2.1 1) (Jcw records)) then
  bif ((Jrs key (Jat l.2.1 1) (Jcw records)) != 0) then
   ret (0, (0, (0, ()))) ([] : List (Int × (Int × ((List ZB) × Unit)))) (Jrs key (Jat l.2.1 1) (Jcw records))
  else
  bif (Jvw l (Jnw key (Jat l.2.1 1) (Jcw records))) then
  ret (Jmn l (Jnw key (Jat l.2.1 1) (Jcw records))) (Jmo l (Jnw key (Jat l.2.1 1) (Jcw records))) (Jmp l (Jnw key (Jat l.2.1 1) (Jcw records)))
  else fail
  else fail
 else
 bif (Jvw l (Jcw records)) then
 ret (Jmn l (Jcw records)) (Jmo l (Jcw records)) (Jmp l (Jcw records))
 else fail
 else fail
end Go.AI
namespace Go.AI
open Go
set_option linter.unusedVariables false
def Jr8 {X : Type} (F : Nat) (fail : X) (next ex0 ex1 : List ZB → Int → Int → ZB → ZL → Int → List (List ZR) → ZB → ZL → X) (s7 : List ZB) (s8 s9 : Int) (key : ZB) (s4 : ZL) (s6 : Int) (out : List (List ZR)) (s2 : ZB) (l : ZL) : X :=
 bif (decide (s9 < s8)) then
  bif ((decide (0 ≤ s9)) && (decide (s9 < (s7.length : Int)))) then
  bif (decide ((s2.length : Int) > 0)) then
   bif (Jx0 s2 (Jat s9 1) (List.getD s7 (s9).toNat ([] : ZB))) then
   bif ((Jji s2 (Jat s9 1) (List.getD s7 (s9).toNat ([] : ZB))) == 0) then
    bif (Jiw (Jhq s2 (Jat s9 1) (List.getD s7 (s9).toNat ([] : ZB)))) then
    bif ((Jej (Jhq s2 (Jat s9 1) (List.getD s7 (s9).toNat ([] : ZB)))) != 0) then
     ex0 s7 s8 s9 key (0, (0, (0, ()))) (Jej (Jhq s2 (Jat s9 1) (List.getD s7 (s9).toNat ([] : ZB)))) out s2 l
    else
    bif (decide ((out ++ ([(Jei (Jhq s2 (Jat s9 (1 : Int)) (List.getD s7 (s9).toNat ([] : ZB))))] : List (List ZR))).length ≤ big)) then
    next s7 s8 (Jat s9 (1 : Int)) key s4 s6 (out ++ ([(Jei (Jhq s2 (Jat s9 (1 : Int)) (List.getD s7 (s9).toNat ([] : ZB))))] : List (List ZR))) s2 l
    else fail
    else fail
   else
   bif ((Jji s2 (Jat s9 1) (List.getD s7 (s9).toNat ([] : ZB))) != 0) then
    ex0 s7 s8 s9 key (0, (0, (0, ()))) (Jji s2 (Jat s9 1) (List.getD s7 (s9).toNat ([] : ZB))) out s2 l
   else
   bif (decide ((out ++ ([([] : List ZR)] : List (List ZR))).length ≤ big)) then
   next s7 s8 (Jat s9 (1 : Int)) key s4 s6 (out ++ ([([] : List ZR)] : List (List ZR))) s2 l
   else fail
   else fail
  else
  bif (Jiw (List.getD s7 (s9).toNat ([] : ZB))) then
  bif ((Jej (List.getD s7 (s9).toNat ([] : ZB))) != 0) then
   ex0 s7 s8 s9 key (0, (0, (0, ()))) (Jej (List.getD s7 (s9).toNat ([] : ZB))) out s2 l
  else
  bif (decide ((out ++ ([(Jei (List.getD s7 (s9).toNat ([] : ZB)))] : List (List ZR))).length ≤ big)) then
  next s7 s8 (Jat s9 (1 : Int)) key s4 s6 (out ++ ([(Jei (List.getD s7 (s9).toNat ([] : ZB)))] : List (List ZR))) s2 l
  else fail
  else fail
  else fail
 else
 ex1 s7 s8 s9 key s4 s6 out s2 l
def Jgj {X : Type} (F : Nat) (fail : X) (ex0 ex1 : List ZB → Int → Int → ZB → ZL → Int → List (List ZR) → ZB → ZL → X) : Nat → List ZB → Int → Int → ZB → ZL → Int → List (List ZR) → ZB → ZL → X
 | 0, _, _, _, _, _, _, _, _, _ => fail
 | m + 1, s7, s8, s9, key, s4, s6, out, s2, l => Jr8 F fail (Jgj F fail ex0 ex1 m) ex0 ex1 s7 s8 s9 key s4 s6 out s2 l
def Klc {X : Type} (F : Nat) (d_ : ZD) (key : ZB) (fail : X) (ret : ZL → List (List ZR) → Int → X) : X :=
 bif (Ji7 d_) then
 bif ((Jlw d_) != 0) then
  ret (0, (0, (0, ()))) ([] : List (List ZR)) (Jlw d_)
 else
 bif (decide ((key.length : Int) > 64)) then
  ret (0, (0, (0, ()))) ([] : List (List ZR)) 1
 else
 Jgj F fail
  (fun s7 s8 s9 Jp7 s4 s6 out s2 l =>
   ret s4 ([] : List (List ZR)) s6)
  (fun s71 s81 s91 key2 s41 s61 out1 s21 l1 =>
   ret l1 out1 0)
  F (Jlv d_) (((Jlv d_).length : Nat) : Int) 0 key (0, (0, (0, ()))) 0 ([] : List (List ZR)) key (Jnz d_)
 else fail
end Go.AI
namespace Go.AI
open Go
set_option linter.unusedVariables false
def Kwo {X : Type} (F : Nat) (fail : X) (ret : ZD → ZL → Bool → X) : X :=
 bif (Kv5 200) then
 bif (J2z 200) then
 bif (Jvr (Jkq 200) (Jeh 200)) then
 bif ((J2u (200 : Int)) == (0 : Int)) then
  bif ((Jmm (200 : Int)) == (0 : Int)) then
   ret (Jdl (Jkq 200) (Jeh 200)) (Jib 200) ((Jh8 (Jkq 200) (Jeh 200)) == 0)
  else
  ret (Jdl (Jkq 200) (Jeh 200)) (Jib 200) false
 else
 ret (Jdl (Jkq 200) (Jeh 200)) (Jib 200) false
 else fail
 else fail
 else fail
def Jyb {X : Type} (F : Nat) (fail : X) (ret : Bool → X) : X :=
 bif (J1c) then
 bif (Jvz (Jd1) ([107, 101, 121] : ZB) ([(1, (([97, 98] : ZB), ()))] : List ZR)) then
 bif (Jvr (Jfg) (Jac (Jd1) ([107, 101, 121] : ZB) ([(1, (([97, 98] : ZB), ()))] : List ZR))) then
 bif (Jkv (Jdl (Jfg) (Jac (Jd1) ([107, 101, 121] : ZB) ([(1, (([97, 98] : ZB), ()))] : List ZR))) ([107, 101, 121] : ZB)) then
 bif (Jv0) then
  bif ((Jmq (Jd1) ([107, 101, 121] : ZB) ([(1, (([97, 98] : ZB), ()))] : List ZR)) == 0) then
   bif ((Jh8 (Jfg) (Jac (Jd1) ([107, 101, 121] : ZB) ([(1, (([97, 98] : ZB), ()))] : List ZR))) == 0) then
    bif ((Jic (Jdl (Jfg) (Jac (Jd1) ([107, 101, 121] : ZB) ([(1, (([97, 98] : ZB), ()))] : List ZR))) ([107, 101, 121] : ZB)) == 0) then
     bif (Jcu (.pair (.int .i64) (.pair (.int .i64) (.pair (.int .i64) .unit))) (Je4 (Jd1) ([107, 101, 121] : ZB) ([(1, (([97, 98] : ZB), ()))] : List ZR)) (Jbt (Jdl (Jfg) (Jac (Jd1) ([107, 101, 121] : ZB) ([(1, (([97, 98] : ZB), ()))] : List ZR))) ([107, 101, 121] : ZB))) then
      bif (Jek (Jbk (Jdl (Jfg) (Jac (Jd1) ([107, 101, 121] : ZB) ([(1, (([97, 98] : ZB), ()))] : List ZR))) ([107, 101, 121] : ZB)) ([([(1, (([97, 98] : ZB), ()))] : List ZR)] : List (List ZR))) then
      ret (Jel (Jbk (Jdl (Jfg) (Jac (Jd1) ([107, 101, 121] : ZB) ([(1, (([97, 98] : ZB), ()))] : List ZR))) ([107, 101, 121] : ZB)) ([([(1, (([97, 98] : ZB), ()))] : List ZR)] : List (List ZR)))
      else fail
     else
     ret false
    else
    ret false
   else
   ret false
  else
  ret false
 else
 ret false
 else fail
 else fail
 else fail
 else fail
def Joc {X : Type} (F : Nat) (fail : X) (next ex0 ex1 : List (List ZR) → Bool → Int → X) (l : List (List ZR)) (s2 : Bool) (i : Int) : X :=
 bif (decide (i < (l.length : Int))) then
  bif (decide (i < 12)) then
   bif ((decide (0 ≤ i)) && (decide (i < (l.length : Int)))) then
   bif (Kpl (List.getD l (i).toNat ([] : List ZR))) then
   bif (!(Kfi (List.getD l (i).toNat ([] : List ZR)))) then
    ex0 l false i
   else
   next l s2 (Jat i 1)
   else fail
   else fail
  else
  ex1 l s2 i
 else
 ex1 l s2 i
def Jha {X : Type} (F : Nat) (fail : X) (ex0 ex1 : List (List ZR) → Bool → Int → X) : Nat → List (List ZR) → Bool → Int → X
 | 0, _, _, _ => fail
 | m + 1, l, s2, i => Joc F fail (Jha F fail ex0 ex1 m) ex0 ex1 l s2 i
def Ka4 {X : Type} (F : Nat) (l : List (List ZR)) (fail : X) (ret : Bool → X) : X :=
 Jha F fail
  (fun l1 s2 i =>
   ret s2)
  (fun l2 s21 i1 =>
   ret (decide ((l2.length : Int) ≤ 12)))
  F l false 0
end Go.AI
namespace Go.AI
open Go
set_option linter.unusedVariables false
def Jd9 {X : Type} (F : Nat) (fail : X) (next ex0 ex1 : ZB → Bool → List Int → List (List ZR) → Int → Int → (ZB × ((List Int) × Unit)) → ZD → ZL → List (List ZR) → X) (key : ZB) (s6 : Bool) (choices : List Int) (s59 : List (List ZR)) (s60 s61 : Int) (x_ : (ZB × ((List Int) × Unit))) (d_ : ZD) (now : ZL) (done : List (List ZR)) : X :=
 bif (decide (s61 < s60)) then
  bif ((decide (0 ≤ s61)) && (decide (s61 < (s59.length : Int)))) then
  bif (Jvz now key (List.getD s59 (s61).toNat ([] : List ZR))) then
  bif ((Jmq now key (List.getD s59 (s61).toNat ([] : List ZR))) != 0) then
   next key s6 choices s59 s60 (Jat s61 1) x_ d_ now done
  else
  bif (decide (s61 < ((x_.1.length : Nat) : Int))) then
   bif ((decide (0 ≤ s61)) && (decide (s61 < ((x_.1.length : Nat) : Int)))) then
   bif (decide (done.length ≤ big)) then
   bif (decide ((done ++ ([(List.getD s59 (s61).toNat ([] : List ZR))] : List (List ZR))).length ≤ big)) then
   bif (decide ((Jl6 (List.getD x_.1 (s61).toNat 0)) > (((Jac now key (List.getD s59 (s61).toNat ([] : List ZR))).length : Nat) : Int))) then
    bif (Jvr d_ (Jac now key (List.getD s59 (s61).toNat ([] : List ZR)))) then
    bif ((Jh8 d_ (Jac now key (List.getD s59 (s61).toNat ([] : List ZR)))) != 0) then
     ex0 key false choices s59 s60 s61 x_ (Jdl d_ (Jac now key (List.getD s59 (s61).toNat ([] : List ZR)))) now done
    else
    next key s6 choices s59 s60 (Jat s61 (1 : Int)) x_ (Jdl d_ (Jac now key (List.getD s59 (s61).toNat ([] : List ZR)))) (Je4 now key (List.getD s59 (s61).toNat ([] : List ZR))) (done ++ ([(List.getD s59 (s61).toNat ([] : List ZR))] : List (List ZR)))
    else fail
   else
   bif (Jls d_ (Jac now key (List.getD s59 (s61).toNat ([] : List ZR))) (Jl6 (List.getD x_.1 (s61).toNat 0)) choices) then
   bif (Jkv (Jaj d_ (Jac now key (List.getD s59 (s61).toNat ([] : List ZR))) (Jl6 (List.getD x_.1 (s61).toNat 0)) choices) key) then
   bif ((Jfw d_ (Jac now key (List.getD s59 (s61).toNat ([] : List ZR))) (Jl6 (List.getD x_.1 (s61).toNat 0)) choices) != 0) then
    ex0 key false choices s59 s60 s61 x_ d_ now done
   else
   bif ((Jic (Jaj d_ (Jac now key (List.getD s59 (s61).toNat ([] : List ZR))) (Jl6 (List.getD x_.1 (s61).toNat 0)) choices) key) != 0) then
    ex0 key false choices s59 s60 s61 x_ d_ now done
   else
   bif (Jcu (.pair (.int .i64) (.pair (.int .i64) (.pair (.int .i64) .unit))) (Jbt (Jaj d_ (Jac now key (List.getD s59 (s61).toNat ([] : List ZR))) (Jl6 (List.getD x_.1 (s61).toNat 0)) choices) key) (Je4 now key (List.getD s59 (s61).toNat ([] : List ZR)))) then
    bif (Jek (Jbk (Jaj d_ (Jac now key (List.getD s59 (s61).toNat ([] : List ZR))) (Jl6 (List.getD x_.1 (s61).toNat (0 : UInt8))) choices) key) (done ++ ([(List.getD s59 (s61).toNat ([] : List ZR))] : List (List ZR)))) then
    bif (Jel (Jbk (Jaj d_ (Jac now key (List.getD s59 (s61).toNat ([] : List ZR))) (Jl6 (List.getD x_.1 (s61).toNat (0 : UInt8))) choices) key) (done ++ ([(List.getD s59 (s61).toNat ([] : List ZR))] : List (List ZR)))) then
     next key s6 (Jcy d_ (Jac now key (List.getD s59 (s61).toNat ([] : List ZR))) (Jl6 (List.getD x_.1 (s61).toNat (0 : UInt8))) choices) s59 s60 (Jat s61 (1 : Int)) x_ (Jaj d_ (Jac now key (List.getD s59 (s61).toNat ([] : List ZR))) (Jl6 (List.getD x_.1 (s61).toNat (0 : UInt8))) choices) (Jbt (Jaj d_ (Jac now key (List.getD s59 (s61).toNat ([] : List ZR))) (Jl6 (List.getD x_.1 (s61).toNat (0 : UInt8))) choices) key) (done ++ ([(List.getD s59 (s61).toNat ([] : List ZR))] : List (List ZR)))
    else
    bif (!(Jcu (.pair (.int .i64) (.pair (.int .i64) (.pair (.int .i64) .unit))) (Jbt (Jaj d_ (Jac now key (List.getD s59 (s61).toNat ([] : List ZR))) (Jl6 (List.getD x_.1 (s61).toNat 0)) choices) key) now)) then
     ex0 key false choices s59 s60 s61 x_ d_ now done
    else
    bif (Jek (Jbk (Jaj d_ (Jac now key (List.getD s59 (s61).toNat ([] : List ZR))) (Jl6 (List.getD x_.1 (s61).toNat 0)) choices) key) done) then
    bif (!(Jel (Jbk (Jaj d_ (Jac now key (List.getD s59 (s61).toNat ([] : List ZR))) (Jl6 (List.getD x_.1 (s61).toNat 0)) choices) key) done)) then
     ex0 key false choices s59 s60 s61 x_ d_ now done
    else
    bif ((Jl6 (List.getD x_.1 (s61).toNat 0)) == (((Jac now key (List.getD s59 (s61).toNat ([] : List ZR))).length : Nat) : Int)) then
     ex0 key false choices s59 s60 s61 x_ d_ now done
    else
    next key s6 (Jcy d_ (Jac now key (List.getD s59 (s61).toNat ([] : List ZR))) (Jl6 (List.getD x_.1 (s61).toNat 0)) choices) s59 s60 (Jat s61 1) x_ (Jaj d_ (Jac now key (List.getD s59 (s61).toNat ([] : List ZR))) (Jl6 (List.getD x_.1 (s61).toNat 0)) choices) (Jbt (Jaj d_ (Jac now key (List.getD s59 (s61).toNat ([] : List ZR))) (Jl6 (List.getD x_.1 (s61).toNat 0)) choices) key) done
    else fail
    else fail
   else
   bif (!(Jcu (.pair (.int .i64) (.pair (.int .i64) (.pair (.int .i64) .unit))) (Jbt (Jaj d_ (Jac now key (List.getD s59 (s61).toNat ([] : List ZR))) (Jl6 (List.getD x_.1 (s61).toNat 0)) choices) key) now)) then
    ex0 key false choices s59 s60 s61 x_ d_ now done
   else
   bif (Jek (Jbk (Jaj d_ (Jac now key (List.getD s59 (s61).toNat ([] : List ZR))) (Jl6 (List.getD x_.1 (s61).toNat 0)) choices) key) done) then
   bif (!(Jel (Jbk (Jaj d_ (Jac now key (List.getD s59 (s61).toNat ([] : List ZR))) (Jl6 (List.getD x_.1 (s61).toNat 0)) choices) key) done)) then
    ex0 key false choices s59 s60 s61 x_ d_ now done
   else
   bif ((Jl6 (List.getD x_.1 (s61).toNat 0)) == (((Jac now key (List.getD s59 (s61).toNat ([] : List ZR))).length : Nat) : Int)) then
    ex0 key false choices s59 s60 s61 x_ d_ now done
   else
   next key s6 (Jcy d_ (Jac now key (List.getD s59 (s61).toNat ([] : List ZR))) (Jl6 (List.getD x_.1 (s61).toNat 0)) choices) s59 s60 (Jat s61 1) x_ (Jaj d_ (Jac now key (List.getD s59 (s61).toNat ([] : List ZR))) (Jl6 (List.getD x_.1 (s61).toNat 0)) choices) (Jbt (Jaj d_ (Jac now key (List.getD s59 (s61).toNat ([] : List ZR))) (Jl6 (List.getD x_.1 (s61).toNat 0)) choices) key) done
   else fail
   else fail
   else fail
   else fail
   else fail
   else fail
  else
  bif (decide (done.length ≤ big)) then
  bif (decide ((done ++ ([(List.getD s59 (s61).toNat ([] : List ZR))] : List (List ZR))).length ≤ big)) then
  bif (decide ((Jat (((Jac now key (List.getD s59 (s61).toNat ([] : List ZR))).length : Nat) : Int) 1) > (((Jac now key (List.getD s59 (s61).toNat ([] : List ZR))).length : Nat) : Int))) then
   bif (Jvr d_ (Jac now key (List.getD s59 (s61).toNat ([] : List ZR)))) then
   bif ((Jh8 d_ (Jac now key (List.getD s59 (s61).toNat ([] : List ZR)))) != 0) then
    ex0 key false choices s59 s60 s61 x_ (Jdl d_ (Jac now key (List.getD s59 (s61).toNat ([] : List ZR)))) now done
   else
   next key s6 choices s59 s60 (Jat s61 (1 : Int)) x_ (Jdl d_ (Jac now key (List.getD s59 (s61).toNat ([] : List ZR)))) (Je4 now key (List.getD s59 (s61).toNat ([] : List ZR))) (done ++ ([(List.getD s59 (s61).toNat ([] : List ZR))] : List (List ZR)))
   else fail
  else
  bif (Jls d_ (Jac now key (List.getD s59 (s61).toNat ([] : List ZR))) (Jat (((Jac now key (List.getD s59 (s61).toNat ([] : List ZR))).length : Nat) : Int) 1) choices) then
  bif (Jkv (Jaj d_ (Jac now key (List.getD s59 (s61).toNat ([] : List ZR))) (Jat (((Jac now key (List.getD s59 (s61).toNat ([] : List ZR))).length : Nat) : Int) 1) choices) key) then
  bif ((Jfw d_ (Jac now key (List.getD s59 (s61).toNat ([] : List ZR))) (Jat (((Jac now key (List.getD s59 (s61).toNat ([] : List ZR))).length : Nat) : Int) 1) choices) != 0) then
   ex0 key false choices s59 s60 s61 x_ d_ now done
  else
  bif ((Jic (Jaj d_ (Jac now key (List.getD s59 (s61).toNat ([] : List ZR))) (Jat (((Jac now key (List.getD s59 (s61).toNat ([] : List ZR))).length : Nat) : Int) 1) choices) key) != 0) then
   ex0 key false choices s59 s60 s61 x_ d_ now done
  else
  bif (Jcu (.pair (.int .i64) (.pair (.int .i64) (.pair (.int .i64) .unit))) (Jbt (Jaj d_ (Jac now key (List.getD s59 (s61).toNat ([] : List ZR))) (Jat (((Jac now key (List.getD s59 (s61).toNat ([] : List ZR))).length : Nat) : Int) 1) choices) key) (Je4 now key (List.getD s59 (s61).toNat ([] : List ZR)))) then
   bif (Jek (Jbk (Jaj d_ (Jac now key (List.getD s59 (s61).toNat ([] : List ZR))) (Jat (((Jac now key (List.getD s59 (s61).toNat ([] : List ZR))).length : Nat) : Int) (1 : Int)) choices) key) (done ++ ([(List.getD s59 (s61).toNat ([] : List ZR))] : List (List ZR)))) then
   bif (Jel (Jbk (Jaj d_ (Jac now key (List.getD s59 (s61).toNat ([] : List ZR))) (Jat (((Jac now key (List.getD s59 (s61).toNat ([] : List ZR))).length : Nat) : Int) (1 : Int)) choices) key) (done ++ ([(List.getD s59 (s61).toNat ([] : List ZR))] : List (List ZR)))) then
    next key s6 (Jcy d_ (Jac now key (List.getD s59 (s61).toNat ([] : List ZR))) (Jat (((Jac now key (List.getD s59 (s61).toNat ([] : List ZR))).length : Nat) : Int) (1 : Int)) choices) s59 s60 (Jat s61 (1 : Int)) x_ (Jaj d_ (Jac now key (List.getD s59 (s61).toNat ([] : List ZR))) (Jat (((Jac now key (List.getD s59 (s61).toNat ([] : List ZR))).length : Nat) : Int) (1 : Int)) choices) (Jbt (Jaj d_ (Jac now key (List.getD s59 (s61).toNat ([] : List ZR))) (Jat (((Jac now key (List.getD s59 (s61).toNat ([] : List ZR))).length : Nat) : Int) (1 : Int)) choices) key) (done ++ ([(List.getD s59 (s61).toNat ([] : List ZR))] : List (List ZR)))
   else
   bif (!(Jcu (.pair (.int .i64) (.pair (.int .i64) (.pair (.int .i64) .unit))) (Jbt (Jaj d_ (Jac now key (List.getD s59 (s61).toNat ([] : List ZR))) (Jat (((Jac now key (List.getD s59 (s61).toNat ([] : List ZR))).length : Nat) : Int) 1) choices) key) now)) then
    ex0 key false choices s59 s60 s61 x_ d_ now done
   else
   bif (Jek (Jbk (Jaj d_ (Jac now key (List.getD s59 (s61).toNat ([] : List ZR))) (Jat (((Jac now key (List.getD s59 (s61).toNat ([] : List ZR))).length : Nat) : Int) 1) choices) key) done) then
   bif (!(Jel (Jbk (Jaj d_ (Jac now key (List.getD s59 (s61).toNat ([] : List ZR))) (Jat (((Jac now key (List.getD s59 (s61).toNat ([] : List ZR))).length : Nat) : Int) 1) choices) key) done)) then
    ex0 key false choices s59 s60 s61 x_ d_ now done
   else
   bif ((Jat (((Jac now key (List.getD s59 (s61).toNat ([] : List ZR))).length : Nat) : Int) 1) == (((Jac now key (List.getD s59 (s61).toNat ([] : List ZR))).length : Nat) : Int)) then
    ex0 key false choices s59 s60 s61 x_ d_ now done
   else
   next key s6 (Jcy d_ (Jac now key (List.getD s59 (s61).toNat ([] : List ZR))) (Jat (((Jac now key (List.getD s59 (s61).toNat ([] : List ZR))).length : Nat) : Int) 1) choices) s59 s60 (Jat s61 1) x_ (Jaj d_ (Jac now key (List.getD s59 (s61).toNat ([] : List ZR))) (Jat (((Jac now key (List.getD s59 (s61).toNat ([] : List ZR))).length : Nat) : Int) 1) choices) (Jbt (Jaj d_ (Jac now key (List.getD s59 (s61).toNat ([] : List ZR))) (Jat (((Jac now key (List.getD s59 (s61).toNat ([] : List ZR))).length : Nat) : Int) 1) choices) key) done
   else fail
   else fail
  else
  bif (!(Jcu (.pair (.int .i64) (.pair (.int .i64) (.pair (.int .i64) .unit))) (Jbt (Jaj d_ (Jac now key (List.getD s59 (s61).toNat ([] : List ZR))) (Jat (((Jac now key (List.getD s59 (s61).toNat ([] : List ZR))).length : Nat) : Int) 1) choices) key) now)) then
   ex0 key false choices s59 s60 s61 x_ d_ now done
  else
  bif (Jek (Jbk (Jaj d_ (Jac now key (List.getD s59 (s61).toNat ([] : List ZR))) (Jat (((Jac now key (List.getD s59 (s61).toNat ([] : List ZR))).length : Nat) : Int) 1) choices) key) done) then
  bif (!(Jel (Jbk (Jaj d_ (Jac now key (List.getD s59 (s61).toNat ([] : List ZR))) (Jat (((Jac now key (List.getD s59 (s61).toNat ([] : List ZR))).length : Nat) : Int) 1) choices) key) done)) then
   ex0 key false choices s59 s60 s61 x_ d_ now done
  else
  bif ((Jat (((Jac now key (List.getD s59 (s61).toNat ([] : List ZR))).length : Nat) : Int) 1) == (((Jac now key (List.getD s59 (s61).toNat ([] : List ZR))).length : Nat) : Int)) then
   ex0 key false choices s59 s60 s61 x_ d_ now done
  else
  next key s6 (Jcy d_ (Jac now key (List.getD s59 (s61).toNat ([] : List ZR))) (Jat (((Jac now key (List.getD s59 (s61).toNat ([] : List ZR))).length : Nat) : Int) 1) choices) s59 s60 (Jat s61 1) x_ (Jaj d_ (Jac now key (List.getD s59 (s61).toNat ([] : List ZR))) (Jat (((Jac now key (List.getD s59 (s61).toNat ([] : List ZR))).length : Nat) : Int) 1) choices) (Jbt (Jaj d_ (Jac now key (List.getD s59 (s61).toNat ([] : List ZR))) (Jat (((Jac now key (List.getD s59 (s61).toNat ([] : List ZR))).length : Nat) : Int) 1) choices) key) done
  else fail
  else fail
  else fail
  else fail
  else fail
  else fail
  else fail
 else
 ex1 key s6 choices s59 s60 s61 x_ d_ now done
def Jca {X : Type} (F : Nat) (fail : X) (ex0 ex1 : ZB → Bool → List Int → List (List ZR) → Int → Int → (ZB × ((List Int) × Unit)) → ZD → ZL → List (List ZR) → X) : Nat → ZB → Bool → List Int → List (List ZR) → Int → Int → (ZB × ((List Int) × Unit)) → ZD → ZL → List (List ZR) → X
 | 0, _, _, _, _, _, _, _, _, _, _ => fail
 | m + 1, key, s6, choices, s59, s60, s61, x_, d_, now, done => Jd9 F fail (Jca F fail ex0 ex1 m) ex0 ex1 key s6 choices s59 s60 s61 x_ d_ now done
def TopCommitsSurvive {X : Type} (F : Nat) (l : List (List ZR)) (key : ZB) (x_ : (ZB × ((List Int) × Unit))) (fail : X) (ret : Bool → X) : X :=
 bif (Jx5 l) then
 bif (!(Jj3 l)) then
  bif (Jfh) then
  ret (Jfi)
  else fail
 else
 bif (decide ((key.length : Int) > 64)) then
  bif (Jfh) then
  ret (Jfi)
  else fail
 else
 bif (decide (((x_.1.length : Nat) : Int) > 20)) then
  bif (Jfh) then
  ret (Jfi)
  else fail
 else
 bif (decide (((x_.2.1.length : Nat) : Int) > 300)) then
  bif (Jfh) then
  ret (Jfi)
  else fail
 else
 bif (J1c) then
 bif (!(Jv0)) then
  ret false
 else
 Jca F fail
  (fun Jp7 s6 choices s59 s60 s61 x_1 d_ now done =>
   ret s6)
  (fun key2 s62 choices1 s591 s601 s611 x_2 d_1 now1 done1 =>
   bif (Jkv d_1 key2) then
   bif ((Jic d_1 key2) == 0) then
    bif (Jcu (.pair (.int .i64) (.pair (.int .i64) (.pair (.int .i64) .unit))) (Jbt d_1 key2) now1) then
     bif (Jek (Jbk d_1 key2) done1) then
     bif (Jel (Jbk d_1 key2) done1) then
      bif (Jfh) then
      ret (Jfi)
      else fail
     else
     ret false
     else fail
    else
    ret false
   else
   ret false
   else fail)
  F key false x_.2.1 l (l.length : Int) 0 x_ (Jfg) (Jd1) ([] : List (List ZR))
 else fail
 else fail
end Go.AI
