/- Texts of the proof, joined: DiskG DigestG1 WireG WireG2 DigestG2 CipherG2 CipherG LogG TransG TransG2 TransG3 TopG2 TopG3 TopG4. Names of our own are shortened by program; the long ones stand in wip/. -/
import Derived.Test.YtnmidfcefljafaaGreatQpS
set_option linter.unusedVariables false
namespace Go.AI
open Go
set_option linter.unusedVariables false
def Kx5 {X : Type} (F : Nat) (s : List ZB) (fail : X) (Jmm : X → X → X) (ret : List ZB → X) : X :=
 bif (List.isEmpty s) then
  Jmm (
   ret ([] : List ZB)) (
   bif (decide (s.length ≤ big)) then
   ret s
   else fail)
 else
 bif (decide (s.length ≤ big)) then
 ret s
 else fail
def Kx6 {X : Type} (F : Nat) (s : List ZR) (fail : X) (Jmm : X → X → X) (ret : List ZR → X) : X :=
 bif (List.isEmpty s) then
  Jmm (
   ret ([] : List ZR)) (
   bif (decide (s.length ≤ big)) then
   ret s
   else fail)
 else
 bif (decide (s.length ≤ big)) then
 ret s
 else fail
def K7j {X : Type} (F : Nat) (s : List Int) (fail : X) (Jmm : X → X → X) (ret : List Int → X) : X :=
 bif (List.isEmpty s) then
  Jmm (
   ret ([] : List Int)) (
   bif (decide (s.length ≤ big)) then
   ret s
   else fail)
 else
 bif (decide (s.length ≤ big)) then
 ret s
 else fail
def K7k {X : Type} (F : Nat) (d_ : ZD) (at_ count : Int) (fail : X) (ret : Bool → X) : X :=
 bif (decide (at_ ≥ 0)) then
  bif (decide (count ≥ 0)) then
   bif (decide (at_ ≤ ((d_.1.length : Nat) : Int))) then
    ret (decide (count ≤ (Jdo ((d_.1.length : Nat) : Int) at_)))
   else
   ret false
  else
  ret false
 else
 ret false
def dNew {X : Type} (F : Nat) (pages : Int) (fail : X) (ret : ZD → Int → X) : X :=
 bif (decide (pages < 1)) then
  ret (([] : List ZB), (([] : List ZR), ())) 2
 else
 bif (decide (pages > 8192)) then
  ret (([] : List ZB), (([] : List ZR), ())) 2
 else
 bif (((decide (0 ≤ pages)) && true) && (decide (pages ≤ ((big : Nat) : Int)))) then
 ret ((List.replicate (pages).toNat z16), (([] : List ZR), ())) (0 : Int)
 else fail
def Jwe {X : Type} (F : Nat) (fail : X) (next ex0 ex1 : List ZR → Int → Int → Int → ZD → X) (s : List ZR) (s4 s7 s8 : Int) (f : ZD) : X :=
 bif (decide (s8 < s7)) then
  bif ((decide (0 ≤ s8)) && (decide (s8 < (s.length : Int)))) then
  bif (decide ((List.getD s (s8).toNat (0, (z16, ()))).1 < 0)) then
   ex0 s s8 s7 s8 f
  else
  bif (decide ((List.getD s (s8).toNat (0, (z16, ()))).1 ≥ ((f.1.length : Nat) : Int))) then
   ex0 s s8 s7 s8 f
  else
  next s s4 s7 (Jar s8 1) f
  else fail
 else
 ex1 s s4 s7 s8 f
def Jkd {X : Type} (F : Nat) (fail : X) (ex0 ex1 : List ZR → Int → Int → Int → ZD → X) : Nat → List ZR → Int → Int → Int → ZD → X
 | 0, _, _, _, _, _ => fail
 | m + 1, s, s4, s7, s8, f => Jwe F fail (Jkd F fail ex0 ex1 m) ex0 ex1 s s4 s7 s8 f
def Kx7 {X : Type} (F : Nat) (d_ : ZD) (fail : X) (ret : Int → X) : X :=
 bif (decide (((d_.1.length : Nat) : Int) < 1)) then
  ret 2
 else
 bif (decide (((d_.1.length : Nat) : Int) > 8192)) then
  ret 2
 else
 Jkd F fail
  (fun s s4 s7 s8 f =>
   bif (decide (s4 ≥ 0)) then
    ret 2
   else
   ret 0)
  (fun s1 s41 s71 s81 f1 =>
   ret 0)
  F d_.2.1 0 ((d_.2.1.length : Nat) : Int) 0 d_
def Joi {X : Type} (F : Nat) (fail : X) (next ex0 : List ZR → Int → Int → List ZB → X) (s10 : List ZR) (s11 s12 : Int) (out : List ZB) : X :=
 bif (decide (s12 < s11)) then
  bif ((decide (0 ≤ s12)) && (decide (s12 < (s10.length : Int)))) then
  bif ((decide (0 ≤ (List.getD s10 (s12).toNat (0, (z16, ()))).1)) && (decide ((List.getD s10 (s12).toNat (0, (z16, ()))).1 < (out.length : Int)))) then
  next s10 s11 (Jar s12 1) (List.set out ((List.getD s10 (s12).toNat (0, (z16, ()))).1).toNat (List.getD s10 (s12).toNat (0, (z16, ()))).2.1)
  else fail
  else fail
 else
 ex0 s10 s11 s12 out
def Jg7 {X : Type} (F : Nat) (fail : X) (ex0 : List ZR → Int → Int → List ZB → X) : Nat → List ZR → Int → Int → List ZB → X
 | 0, _, _, _, _ => fail
 | m + 1, s10, s11, s12, out => Joi F fail (Jg7 F fail ex0 m) ex0 s10 s11 s12 out
def Kbw {X : Type} (F : Nat) (d_ : ZD) (fail : X) (ret : List ZB → X) : X :=
 bif (Jho d_.1) then
 Jg7 F fail
  (fun s10 s11 s12 out =>
   ret out)
  F d_.2.1 ((d_.2.1.length : Nat) : Int) 0 (Jn5 d_.1)
 else fail
def K7l {X : Type} (F : Nat) (d_ : ZD) (at_ count : Int) (fail : X) (ret : List ZB → Int → X) : X :=
 bif (Jip d_) then
 bif ((Jes d_) != 0) then
  ret ([] : List ZB) (Jes d_)
 else
 bif (Jye d_ at_ count) then
 bif (!(Jqd d_ at_ count)) then
  ret ([] : List ZB) 2
 else
 bif (Jg3 d_) then
 bif (((decide (0 ≤ at_)) && (decide (at_ ≤ (Jar at_ count)))) && (decide ((Jar at_ count) ≤ (((Jia d_).length : Nat) : Int)))) then
 bif (Jho (List.take (((Jar at_ count)).toNat - (at_).toNat) (List.drop (at_).toNat (Jia d_)))) then
 ret (Jn5 (List.take (((Jar at_ count)).toNat - (at_).toNat) (List.drop (at_).toNat (Jia d_)))) 0
 else fail
 else fail
 else fail
 else fail
 else fail
def Kbx {X : Type} (F : Nat) (fail : X) (next ex0 : List ZB → Int → Int → List (Int × (Int × ((List ZB) × Unit))) → Int → Int → Int → List (Int × (Int × ((List ZB) × Unit))) → Int → Int → List ZB → List ZR → (Int × (Int × ((List ZB) × Unit))) → ZD → X) (s18 : List ZB) (s19 s20 : Int) (l : List (Int × (Int × ((List ZB) × Unit)))) (s5 s6 i : Int) (s22 : List (Int × (Int × ((List ZB) × Unit)))) (s23 s24 : Int) (h1 : List ZB) (h2 : List ZR) (op : (Int × (Int × ((List ZB) × Unit)))) (s4 : ZD) : X :=
 bif (decide (s20 < s19)) then
  bif ((decide (0 ≤ s20)) && (decide (s20 < (s18.length : Int)))) then
  bif (decide ((h2 ++ ([((Jar op.2.1 s20), ((List.getD s18 (s20).toNat z16), ()))] : List ZR)).length ≤ big)) then
  next s18 s19 (Jar s20 (1 : Int)) l s5 s6 i s22 s23 s24 h1 (h2 ++ ([((Jar op.2.1 s20), ((List.getD s18 (s20).toNat z16), ()))] : List ZR)) op s4
  else fail
  else fail
 else
 ex0 s18 s19 s20 l s5 s6 i s22 s23 s24 h1 h2 op s4
def Jr9 {X : Type} (F : Nat) (fail : X) (ex0 : List ZB → Int → Int → List (Int × (Int × ((List ZB) × Unit))) → Int → Int → Int → List (Int × (Int × ((List ZB) × Unit))) → Int → Int → List ZB → List ZR → (Int × (Int × ((List ZB) × Unit))) → ZD → X) : Nat → List ZB → Int → Int → List (Int × (Int × ((List ZB) × Unit))) → Int → Int → Int → List (Int × (Int × ((List ZB) × Unit))) → Int → Int → List ZB → List ZR → (Int × (Int × ((List ZB) × Unit))) → ZD → X
 | 0, _, _, _, _, _, _, _, _, _, _, _, _, _, _ => fail
 | m + 1, s18, s19, s20, l, s5, s6, i, s22, s23, s24, h1, h2, op, s4 => Kbx F fail (Jr9 F fail ex0 m) ex0 s18 s19 s20 l s5 s6 i s22 s23 s24 h1 h2 op s4
def Kby {X : Type} (F : Nat) (fail : X) (next ex0 ex1 : List (Int × (Int × ((List ZB) × Unit))) → Int → Int → List (Int × (Int × ((List ZB) × Unit))) → Int → Int → ZD → List ZB → List ZR → X) (l : List (Int × (Int × ((List ZB) × Unit)))) (s5 s6 : Int) (s22 : List (Int × (Int × ((List ZB) × Unit)))) (s23 s24 : Int) (s4 : ZD) (h2 : List ZB) (h3 : List ZR) : X :=
 bif (decide (s24 < s23)) then
  bif ((decide (0 ≤ s24)) && (decide (s24 < (s22.length : Int)))) then
  bif (decide ((List.getD s22 (s24).toNat (0, (0, (([] : List ZB), ())))).1 ≥ 0)) then
   bif (decide ((List.getD s22 (s24).toNat (0, (0, (([] : List ZB), ())))).1 < 2)) then
    bif ((decide (0 ≤ (List.getD s22 (s24).toNat (0, (0, (([] : List ZB), ())))).1)) && (decide ((List.getD s22 (s24).toNat (0, (0, (([] : List ZB), ())))).1 < (2 : Int)))) then
    bif (Nat.beq ((List.getD s22 (s24).toNat (0, (0, (([] : List ZB), ())))).1).toNat 0) then
     bif (Jye (h2, (h3, ())) (List.getD s22 (s24).toNat (0, (0, (([] : List ZB), ())))).2.1 (((List.getD s22 (s24).toNat (0, (0, (([] : List ZB), ())))).2.2.1.length : Nat) : Int)) then
     bif (!(Jqd (h2, (h3, ())) (List.getD s22 (s24).toNat (0, (0, (([] : List ZB), ())))).2.1 (((List.getD s22 (s24).toNat (0, (0, (([] : List ZB), ())))).2.2.1.length : Nat) : Int))) then
      ex0 l s24 2 s22 s23 s24 (([] : List ZB), (([] : List ZR), ())) h2 h3
     else
     Jr9 F fail
      (fun s18 s19 s20 l1 s51 s61 i s221 s231 s241 h1 h21 op s41 =>
       next l1 s51 s61 s221 s231 (Jar s241 1) s41 h1 h21)
      F (List.getD s22 (s24).toNat (0, (0, (([] : List ZB), ())))).2.2.1 (((List.getD s22 (s24).toNat (0, (0, (([] : List ZB), ())))).2.2.1.length : Nat) : Int) 0 l s5 s6 s24 s22 s23 s24 h2 h3 (List.getD s22 (s24).toNat (0, (0, (([] : List ZB), ())))) s4
     else fail
    else
    bif (Nat.beq ((List.getD s22 (s24).toNat (0, (0, (([] : List ZB), ())))).1).toNat 1) then
    bif (Jg3 (h2, (h3, ()))) then
    next l s5 s6 s22 s23 (Jar s24 1) s4 (Jia (h2, (h3, ()))) ([] : List ZR)
    else fail
    else fail
    else fail
   else
   ex0 l s24 1 s22 s23 s24 (([] : List ZB), (([] : List ZR), ())) h2 h3
  else
  ex0 l s24 1 s22 s23 s24 (([] : List ZB), (([] : List ZR), ())) h2 h3
  else fail
 else
 ex1 l s5 s6 s22 s23 s24 s4 h2 h3
def Joj {X : Type} (F : Nat) (fail : X) (ex0 ex1 : List (Int × (Int × ((List ZB) × Unit))) → Int → Int → List (Int × (Int × ((List ZB) × Unit))) → Int → Int → ZD → List ZB → List ZR → X) : Nat → List (Int × (Int × ((List ZB) × Unit))) → Int → Int → List (Int × (Int × ((List ZB) × Unit))) → Int → Int → ZD → List ZB → List ZR → X
 | 0, _, _, _, _, _, _, _, _, _ => fail
 | m + 1, l, s5, s6, s22, s23, s24, s4, h2, h3 => Kby F fail (Joj F fail ex0 ex1 m) ex0 ex1 l s5 s6 s22 s23 s24 s4 h2 h3
def dRun {X : Type} (F : Nat) (d_ : ZD) (l : List (Int × (Int × ((List ZB) × Unit)))) (fail : X) (ret : ZD → Int → Int → X) : X :=
 bif (Jip d_) then
 bif ((Jes d_) != 0) then
  ret (([] : List ZB), (([] : List ZR), ())) 0 (Jes d_)
 else
 bif (Jho d_.1) then
 bif (Jv6 d_.2.1) then
 Joj F fail
  (fun l1 s5 s6 s22 s23 s24 s4 h2 h3 =>
   ret s4 s5 s6)
  (fun l2 s51 s61 s221 s231 s241 s41 h21 h31 =>
   ret (h21, (h31, ())) (l2.length : Int) 0)
  F l 0 0 l (l.length : Int) 0 (([] : List ZB), (([] : List ZR), ())) (Jn5 d_.1) (J1y d_.2.1)
 else fail
 else fail
 else fail
def Kl8 {X : Type} (F : Nat) (choices : List Int) (n : Int) (fail : X) (ret : Int → List Int → X) : X :=
 bif ((choices.length : Int) == 0) then
  ret 0 ([] : List Int)
 else
 bif (decide (0 < (choices.length : Int))) then
 bif (n != 0) then
 bif (decide ((Jcz (List.getD choices 0 0) n) < 0)) then
  bif (decide (1 ≤ (choices.length : Int))) then
  ret (Jar (Jcz (List.getD choices 0 0) n) n) (List.drop 1 choices)
  else fail
 else
 bif (decide (1 ≤ (choices.length : Int))) then
 ret (Jcz (List.getD choices 0 0) n) (List.drop 1 choices)
 else fail
 else fail
 else fail
def Jwf {X : Type} (F : Nat) (fail : X) (next ex0 : List Int → List ZR → Int → Int → ZD → ZD → List (Int × (List ZB)) → List Int → X) (choices : List Int) (s24 : List ZR) (s25 s26 : Int) (d_ s4 : ZD) (versions : List (Int × (List ZB))) (places : List Int) : X :=
 bif (decide (s26 < s25)) then
  bif ((decide (0 ≤ s26)) && (decide (s26 < (s24.length : Int)))) then
  bif (Option.isNone (Jdj (Jct (.int .i64)) (List.getD s24 (s26).toNat (0, (z16, ()))).1 versions)) then
   bif (decide ((places ++ ([(List.getD s24 (s26).toNat ((0 : Int), (z16, ()))).1] : List Int)).length ≤ big)) then
   bif ((decide (0 ≤ (List.getD s24 (s26).toNat (0, (z16, ()))).1)) && (decide ((List.getD s24 (s26).toNat (0, (z16, ()))).1 < ((d_.1.length : Nat) : Int)))) then
   bif (decide (versions.length < big)) then
   bif (Option.isSome (Jdj (Jct (.int .i64)) (List.getD s24 (s26).toNat (0, (z16, ()))).1 (Jj8 (Jct (.int .i64)) (List.getD s24 (s26).toNat (0, (z16, ()))).1 ([(List.getD d_.1 ((List.getD s24 (s26).toNat (0, (z16, ()))).1).toNat z16)] : List ZB) versions))) then
   bif (decide (((Option.getD (Jdj (Jct (.int .i64)) (List.getD s24 (s26).toNat ((0 : Int), (z16, ()))).1 (Jj8 (Jct (.int .i64)) (List.getD s24 (s26).toNat ((0 : Int), (z16, ()))).1 ([(List.getD d_.1 ((List.getD s24 (s26).toNat ((0 : Int), (z16, ()))).1).toNat z16)] : List ZB) versions)) ([] : List ZB)) ++ ([(List.getD s24 (s26).toNat ((0 : Int), (z16, ()))).2.1] : List ZB)).length ≤ big)) then
   bif (((Jct (.int .i64) (List.getD s24 (s26).toNat ((0 : Int), (z16, ()))).1 (List.getD s24 (s26).toNat ((0 : Int), (z16, ()))).1) && (decide (0 < ((Option.getD (Jdj (Jct (.int .i64)) (List.getD s24 (s26).toNat ((0 : Int), (z16, ()))).1 (Jj8 (Jct (.int .i64)) (List.getD s24 (s26).toNat ((0 : Int), (z16, ()))).1 ([(List.getD d_.1 ((List.getD s24 (s26).toNat ((0 : Int), (z16, ()))).1).toNat z16)] : List ZB) versions)) ([] : List ZB)) ++ ([(List.getD s24 (s26).toNat ((0 : Int), (z16, ()))).2.1] : List ZB)).length))) && (decide ((Jj8 (Jct (.int .i64)) (List.getD s24 (s26).toNat ((0 : Int), (z16, ()))).1 ([(List.getD d_.1 ((List.getD s24 (s26).toNat ((0 : Int), (z16, ()))).1).toNat z16)] : List ZB) versions).length < big))) then
   next choices s24 s25 (Jar s26 (1 : Int)) d_ s4 (Jj8 (Jct (.int .i64)) (List.getD s24 (s26).toNat ((0 : Int), (z16, ()))).1 ((Option.getD (Jdj (Jct (.int .i64)) (List.getD s24 (s26).toNat ((0 : Int), (z16, ()))).1 (Jj8 (Jct (.int .i64)) (List.getD s24 (s26).toNat ((0 : Int), (z16, ()))).1 ([(List.getD d_.1 ((List.getD s24 (s26).toNat ((0 : Int), (z16, ()))).1).toNat z16)] : List ZB) versions)) ([] : List ZB)) ++ ([(List.getD s24 (s26).toNat ((0 : Int), (z16, ()))).2.1] : List ZB)) (Jj8 (Jct (.int .i64)) (List.getD s24 (s26).toNat ((0 : Int), (z16, ()))).1 ([(List.getD d_.1 ((List.getD s24 (s26).toNat ((0 : Int), (z16, ()))).1).toNat z16)] : List ZB) versions)) (places ++ ([(List.getD s24 (s26).toNat ((0 : Int), (z16, ()))).1] : List Int))
   else fail
   else fail
   else fail
   else fail
   else fail
   else fail
  else
  bif (Option.isSome (Jdj (Jct (.int .i64)) (List.getD s24 (s26).toNat (0, (z16, ()))).1 versions)) then
  bif (decide (((Option.getD (Jdj (Jct (.int .i64)) (List.getD s24 (s26).toNat ((0 : Int), (z16, ()))).1 versions) ([] : List ZB)) ++ ([(List.getD s24 (s26).toNat ((0 : Int), (z16, ()))).2.1] : List ZB)).length ≤ big)) then
  bif (((Jct (.int .i64) (List.getD s24 (s26).toNat ((0 : Int), (z16, ()))).1 (List.getD s24 (s26).toNat ((0 : Int), (z16, ()))).1) && (decide (0 < ((Option.getD (Jdj (Jct (.int .i64)) (List.getD s24 (s26).toNat ((0 : Int), (z16, ()))).1 versions) ([] : List ZB)) ++ ([(List.getD s24 (s26).toNat ((0 : Int), (z16, ()))).2.1] : List ZB)).length))) && (decide (versions.length < big))) then
  next choices s24 s25 (Jar s26 (1 : Int)) d_ s4 (Jj8 (Jct (.int .i64)) (List.getD s24 (s26).toNat ((0 : Int), (z16, ()))).1 ((Option.getD (Jdj (Jct (.int .i64)) (List.getD s24 (s26).toNat ((0 : Int), (z16, ()))).1 versions) ([] : List ZB)) ++ ([(List.getD s24 (s26).toNat ((0 : Int), (z16, ()))).2.1] : List ZB)) versions) places
  else fail
  else fail
  else fail
  else fail
 else
 ex0 choices s24 s25 s26 d_ s4 versions places
def Jke {X : Type} (F : Nat) (fail : X) (ex0 : List Int → List ZR → Int → Int → ZD → ZD → List (Int × (List ZB)) → List Int → X) : Nat → List Int → List ZR → Int → Int → ZD → ZD → List (Int × (List ZB)) → List Int → X
 | 0, _, _, _, _, _, _, _, _ => fail
 | m + 1, choices, s24, s25, s26, d_, s4, versions, places => Jwf F fail (Jke F fail ex0 m) ex0 choices s24 s25 s26 d_ s4 versions places
def Jwg {X : Type} (F : Nat) (fail : X) (next ex0 : List Int → Int → Int → ZD → List (Int × (List ZB)) → ((List ZR) × Unit) → List ZB → List Int → X) (choices : List Int) (s67 s68 : Int) (s4 : ZD) (versions : List (Int × (List ZB))) (out : ((List ZR) × Unit)) (h3 : List ZB) (s66 : List Int) : X :=
 bif (decide (s68 < s67)) then
  bif ((decide (0 ≤ s68)) && (decide (s68 < (s66.length : Int)))) then
  bif (Jqe choices (((Option.getD (Jdj (Jct (.int .i64)) (List.getD s66 (s68).toNat 0) versions) ([] : List ZB)).length : Nat) : Int)) then
  bif ((decide (0 ≤ (Jic choices (((Option.getD (Jdj (Jct (.int .i64)) (List.getD s66 (s68).toNat 0) versions) ([] : List ZB)).length : Nat) : Int)))) && (decide ((Jic choices (((Option.getD (Jdj (Jct (.int .i64)) (List.getD s66 (s68).toNat 0) versions) ([] : List ZB)).length : Nat) : Int)) < (((Option.getD (Jdj (Jct (.int .i64)) (List.getD s66 (s68).toNat 0) versions) ([] : List ZB)).length : Nat) : Int)))) then
  bif ((decide (0 ≤ (List.getD s66 (s68).toNat 0))) && (decide ((List.getD s66 (s68).toNat 0) < (h3.length : Int)))) then
  next (Jmu choices (((Option.getD (Jdj (Jct (.int .i64)) (List.getD s66 (s68).toNat 0) versions) ([] : List ZB)).length : Nat) : Int)) s67 (Jar s68 1) s4 versions out (List.set h3 ((List.getD s66 (s68).toNat 0)).toNat (List.getD (Option.getD (Jdj (Jct (.int .i64)) (List.getD s66 (s68).toNat 0) versions) ([] : List ZB)) ((Jic choices (((Option.getD (Jdj (Jct (.int .i64)) (List.getD s66 (s68).toNat 0) versions) ([] : List ZB)).length : Nat) : Int))).toNat z16)) s66
  else fail
  else fail
  else fail
  else fail
 else
 ex0 choices s67 s68 s4 versions out h3 s66
def Jkf {X : Type} (F : Nat) (fail : X) (ex0 : List Int → Int → Int → ZD → List (Int × (List ZB)) → ((List ZR) × Unit) → List ZB → List Int → X) : Nat → List Int → Int → Int → ZD → List (Int × (List ZB)) → ((List ZR) × Unit) → List ZB → List Int → X
 | 0, _, _, _, _, _, _, _, _ => fail
 | m + 1, choices, s67, s68, s4, versions, out, h3, s66 => Jwg F fail (Jkf F fail ex0 m) ex0 choices s67 s68 s4 versions out h3 s66
def Kx8 {X : Type} (F : Nat) (d_ : ZD) (choices : List Int) (fail : X) (ret : ZD → List Int → Int → X) : X :=
 bif (Jip d_) then
 bif ((Jes d_) != 0) then
  ret (([] : List ZB), (([] : List ZR), ())) ([] : List Int) (Jes d_)
 else
 Jke F fail
  (fun choices1 s24 s25 s26 d_1 s4 versions places =>
   bif (Jho d_1.1) then
   Jkf F fail
    (fun choices2 s67 s68 s41 versions1 out h3 s66 =>
     bif (J3q choices2) then
     ret (h3, out) (Kbo choices2) 0
     else fail)
    F choices1 (places.length : Int) 0 s4 versions (([] : List ZR), ()) (Jn5 d_1.1) places
   else fail)
  F choices d_.2.1 ((d_.2.1.length : Nat) : Int) 0 d_ (([] : List ZB), (([] : List ZR), ())) ([] : List (Int × (List ZB))) ([] : List Int)
 else fail
def Jyl {X : Type} (F : Nat) (d_ : ZD) (l : List (Int × (Int × ((List ZB) × Unit)))) (after : Int) (choices : List Int) (fail : X) (ret : ZD → List Int → Int → X) : X :=
 bif (Jip d_) then
 bif ((Jes d_) != 0) then
  ret (([] : List ZB), (([] : List ZR), ())) ([] : List Int) (Jes d_)
 else
 bif (decide (after < 0)) then
  ret (([] : List ZB), (([] : List ZR), ())) ([] : List Int) 2
 else
 bif (decide (after > (l.length : Int))) then
  ret (([] : List ZB), (([] : List ZR), ())) ([] : List Int) 2
 else
 bif ((decide (0 ≤ after)) && (decide (after ≤ (l.length : Int)))) then
 bif (J3s d_ (List.take (after).toNat l)) then
 bif ((Jn6 d_ (List.take (after).toNat l)) != 0) then
  ret (([] : List ZB), (([] : List ZR), ())) ([] : List Int) (Jn6 d_ (List.take (after).toNat l))
 else
 bif (Jv7 (Jib d_ (List.take (after).toNat l)) choices) then
 ret (Jqf (Jib d_ (List.take (after).toNat l)) choices) (Jqg (Jib d_ (List.take (after).toNat l)) choices) (Jqh (Jib d_ (List.take (after).toNat l)) choices)
 else fail
 else fail
 else fail
 else fail
end Go.AI
namespace Go.AI
open Go
set_option linter.unusedVariables false
def rotr {X : Type} (F : Nat) (x_ : UInt32) (n : Int) (fail : X) (ret : UInt32 → X) : X :=
 bif (decide (0 ≤ n)) then
 bif (decide (0 ≤ (Jdo 32 n))) then
 ret (orW (Jr1 x_ n) (Jxv x_ (Jdo 32 n)))
 else fail
 else fail
def shr {X : Type} (F : Nat) (x_ : UInt32) (n : Int) (fail : X) (ret : UInt32 → X) : X :=
 bif (decide (0 ≤ n)) then
 ret (Jr1 x_ n)
 else fail
def Kl9 {X : Type} (F : Nat) (x_ : UInt32) (a b c : Int) (fail : X) (ret : UInt32 → X) : X :=
 bif (Jtc x_ a) then
 bif (Jtc x_ b) then
 bif (Jtc x_ c) then
 ret (Jmf (Jmf (J3t x_ a) (J3t x_ b)) (J3t x_ c))
 else fail
 else fail
 else fail
def Kma {X : Type} (F : Nat) (x_ : UInt32) (a b c : Int) (fail : X) (ret : UInt32 → X) : X :=
 bif (Jtc x_ a) then
 bif (Jtc x_ b) then
 bif (K3q x_ c) then
 ret (Jmf (Jmf (J3t x_ a) (J3t x_ b)) (K7h x_ c))
 else fail
 else fail
 else fail
def K5t {X : Type} (F : Nat) (fail : X) (ret : ZW → X) : X :=
 ret (List.set (List.set (List.set (List.set (List.set (List.set (List.set (List.set (List.set (List.set (List.set (List.set (List.set (List.set (List.set (List.set (List.set (List.set (List.set (List.set (List.set (List.set (List.set (List.set (List.set (List.set (List.set (List.set (List.set (List.set (List.set (List.set (List.set (List.set (List.set (List.set (List.set (List.set (List.set (List.set (List.set (List.set (List.set (List.set (List.set (List.set (List.set (List.set (List.set (List.set (List.set (List.set (List.set (List.set (List.set (List.set (List.set (List.set (List.set (List.set (List.set (List.set (List.set (List.set (List.replicate 64 (0 : UInt32)) 0 (1116352408 : UInt32)) 1 (1899447441 : UInt32)) 2 (3049323471 : UInt32)) 3 (3921009573 : UInt32)) 4 (961987163 : UInt32)) 5 (1508970993 : UInt32)) 6 (2453635748 : UInt32)) 7 (2870763221 : UInt32)) 8 (3624381080 : UInt32)) 9 (310598401 : UInt32)) 10 (607225278 : UInt32)) 11 (1426881987 : UInt32)) 12 (1925078388 : UInt32)) 13 (2162078206 : UInt32)) 14 (2614888103 : UInt32)) 15 (3248222580 : UInt32)) 16 (3835390401 : UInt32)) 17 (4022224774 : UInt32)) 18 (264347078 : UInt32)) 19 (604807628 : UInt32)) 20 (770255983 : UInt32)) 21 (1249150122 : UInt32)) 22 (1555081692 : UInt32)) 23 (1996064986 : UInt32)) 24 (2554220882 : UInt32)) 25 (2821834349 : UInt32)) 26 (2952996808 : UInt32)) 27 (3210313671 : UInt32)) 28 (3336571891 : UInt32)) 29 (3584528711 : UInt32)) 30 (113926993 : UInt32)) 31 (338241895 : UInt32)) 32 (666307205 : UInt32)) 33 (773529912 : UInt32)) 34 (1294757372 : UInt32)) 35 (1396182291 : UInt32)) 36 (1695183700 : UInt32)) 37 (1986661051 : UInt32)) 38 (2177026350 : UInt32)) 39 (2456956037 : UInt32)) 40 (2730485921 : UInt32)) 41 (2820302411 : UInt32)) 42 (3259730800 : UInt32)) 43 (3345764771 : UInt32)) 44 (3516065817 : UInt32)) 45 (3600352804 : UInt32)) 46 (4094571909 : UInt32)) 47 (275423344 : UInt32)) 48 (430227734 : UInt32)) 49 (506948616 : UInt32)) 50 (659060556 : UInt32)) 51 (883997877 : UInt32)) 52 (958139571 : UInt32)) 53 (1322822218 : UInt32)) 54 (1537002063 : UInt32)) 55 (1747873779 : UInt32)) 56 (1955562222 : UInt32)) 57 (2024104815 : UInt32)) 58 (2227730452 : UInt32)) 59 (2361852424 : UInt32)) 60 (2428436474 : UInt32)) 61 (2756734187 : UInt32)) 62 (3204031479 : UInt32)) 63 (3329325298 : UInt32))
def Jwh {X : Type} (F : Nat) (fail : X) (next ex0 : Int → UInt32 → ZW → Int → ZB → Int → Int → ZW → ZB → ZW → ZW → ZW → X) (i : Int) (k : UInt32) (s10 : ZW) (s11 : Int) (s23 : ZB) (s24 s25 : Int) (x_ : ZW) (s1 : ZB) (w s s4 : ZW) : X :=
 bif (decide (s25 < s24)) then
  bif ((decide (0 ≤ s25)) && (decide (s25 < (s23.length : Int)))) then
  bif ((decide (0 ≤ i)) && (decide (i < (16 : Int)))) then
  bif ((decide (0 ≤ i)) && (decide (i < (16 : Int)))) then
  next i k s10 s11 s23 s24 (Jar s25 1) x_ s1 (List.set w (i).toNat (orW (Jxv (List.getD w (i).toNat 0) 8) (Jxw (List.getD s23 (s25).toNat 0)))) s s4
  else fail
  else fail
  else fail
 else
 ex0 i k s10 s11 s23 s24 s25 x_ s1 w s s4
def Jg8 {X : Type} (F : Nat) (fail : X) (ex0 : Int → UInt32 → ZW → Int → ZB → Int → Int → ZW → ZB → ZW → ZW → ZW → X) : Nat → Int → UInt32 → ZW → Int → ZB → Int → Int → ZW → ZB → ZW → ZW → ZW → X
 | 0, _, _, _, _, _, _, _, _, _, _, _, _ => fail
 | m + 1, i, k, s10, s11, s23, s24, s25, x_, s1, w, s, s4 => Jwh F fail (Jg8 F fail ex0 m) ex0 i k s10 s11 s23 s24 s25 x_ s1 w s s4
def Jwi {X : Type} (F : Nat) (fail : X) (next ex0 : ZW → Int → ZW → ZB → ZW → ZW → ZW → X) (s10 : ZW) (s11 : Int) (x_ : ZW) (s1 : ZB) (w s s4 : ZW) : X :=
 bif (decide (s11 < 64)) then
  bif ((decide (0 ≤ s11)) && (decide (s11 < (64 : Int)))) then
  bif (decide (s11 < 16)) then
   bif (((decide (0 ≤ (Jlu 4 s11))) && (decide ((Jlu 4 s11) ≤ (Jar (Jlu 4 s11) 4)))) && (decide ((Jar (Jlu 4 s11) 4) ≤ (s1.length : Int)))) then
   Jg8 F fail
    (fun i k s101 s111 s23 s24 s25 x_1 s12 w1 s2 s41 =>
     bif ((decide ((0 : Int) ≤ (Jcz i (16 : Int)))) && (decide ((Jcz i (16 : Int)) < ((16 : Nat) : Int)))) then
     bif (Jfi (List.getD x_1 4 0) 6 11 25 169) then
     bif (Jfi (List.getD x_1 0 0) 2 13 22 169) then
     next s101 (Jar s111 1) ([(Jc0 (Jc0 (Jc0 (Jc0 (List.getD x_1 7 0) (Jd9 (List.getD x_1 4 0) 6 11 25 169)) (Jmf (List.getD x_1 6 0) (J3m (List.getD x_1 4 0) (Jmf (List.getD x_1 5 0) (List.getD x_1 6 0))))) (Jc0 k (List.getD w1 ((Jcz i 16)).toNat 0))) (Jc0 (Jd9 (List.getD x_1 0 0) 2 13 22 169) (orW (J3m (List.getD x_1 0 0) (List.getD x_1 1 0)) (J3m (List.getD x_1 2 0) (orW (List.getD x_1 0 0) (List.getD x_1 1 0)))))), (List.getD x_1 0 0), (List.getD x_1 1 0), (List.getD x_1 2 0), (Jc0 (List.getD x_1 3 0) (Jc0 (Jc0 (Jc0 (List.getD x_1 7 0) (Jd9 (List.getD x_1 4 0) 6 11 25 169)) (Jmf (List.getD x_1 6 0) (J3m (List.getD x_1 4 0) (Jmf (List.getD x_1 5 0) (List.getD x_1 6 0))))) (Jc0 k (List.getD w1 ((Jcz i 16)).toNat 0)))), (List.getD x_1 4 0), (List.getD x_1 5 0), (List.getD x_1 6 0)] : ZW) s12 w1 s2 s41
     else fail
     else fail
     else fail)
    F s11 (List.getD s10 (s11).toNat 0) s10 s11 (List.drop ((Jlu 4 s11)).toNat (List.take ((Jar (Jlu 4 s11) 4)).toNat s1)) (((List.drop ((Jlu 4 s11)).toNat (List.take ((Jar (Jlu 4 s11) 4)).toNat s1)).length : Nat) : Int) 0 x_ s1 w s s4
   else fail
  else
  bif ((decide ((0 : Int) ≤ (Jcz (Jdo s11 (15 : Int)) (16 : Int)))) && (decide ((Jcz (Jdo s11 (15 : Int)) (16 : Int)) < ((16 : Nat) : Int)))) then
  bif (Jfi (List.getD w ((Jcz (Jdo s11 15) 16)).toNat 0) 7 18 3 177) then
  bif ((decide ((0 : Int) ≤ (Jcz (Jdo s11 (2 : Int)) (16 : Int)))) && (decide ((Jcz (Jdo s11 (2 : Int)) (16 : Int)) < ((16 : Nat) : Int)))) then
  bif (Jfi (List.getD w ((Jcz (Jdo s11 2) 16)).toNat 0) 17 19 10 177) then
  bif ((decide ((0 : Int) ≤ (Jcz s11 (16 : Int)))) && (decide ((Jcz s11 (16 : Int)) < ((16 : Nat) : Int)))) then
  bif ((decide ((0 : Int) ≤ (Jcz (Jdo s11 (7 : Int)) (16 : Int)))) && (decide ((Jcz (Jdo s11 (7 : Int)) (16 : Int)) < ((16 : Nat) : Int)))) then
  bif ((decide ((0 : Int) ≤ (Jcz s11 (16 : Int)))) && (decide ((Jcz s11 (16 : Int)) < ((16 : Nat) : Int)))) then
  bif ((decide ((0 : Int) ≤ (Jcz s11 (16 : Int)))) && (decide ((Jcz s11 (16 : Int)) < ((16 : Nat) : Int)))) then
  bif (Jfi (List.getD x_ 4 0) 6 11 25 169) then
  bif (Jfi (List.getD x_ 0 0) 2 13 22 169) then
  next s10 (Jar s11 1) ([(Jc0 (Jc0 (Jc0 (Jc0 (List.getD x_ 7 0) (Jd9 (List.getD x_ 4 0) 6 11 25 169)) (Jmf (List.getD x_ 6 0) (J3m (List.getD x_ 4 0) (Jmf (List.getD x_ 5 0) (List.getD x_ 6 0))))) (Jc0 (List.getD s10 (s11).toNat 0) (List.getD (List.set w ((Jcz s11 16)).toNat (Jc0 (List.getD w ((Jcz s11 16)).toNat 0) (Jc0 (Jc0 (Jd9 (List.getD w ((Jcz (Jdo s11 15) 16)).toNat 0) 7 18 3 177) (List.getD w ((Jcz (Jdo s11 7) 16)).toNat 0)) (Jd9 (List.getD w ((Jcz (Jdo s11 2) 16)).toNat 0) 17 19 10 177)))) ((Jcz s11 16)).toNat 0))) (Jc0 (Jd9 (List.getD x_ 0 0) 2 13 22 169) (orW (J3m (List.getD x_ 0 0) (List.getD x_ 1 0)) (J3m (List.getD x_ 2 0) (orW (List.getD x_ 0 0) (List.getD x_ 1 0)))))), (List.getD x_ 0 0), (List.getD x_ 1 0), (List.getD x_ 2 0), (Jc0 (List.getD x_ 3 0) (Jc0 (Jc0 (Jc0 (List.getD x_ 7 0) (Jd9 (List.getD x_ 4 0) 6 11 25 169)) (Jmf (List.getD x_ 6 0) (J3m (List.getD x_ 4 0) (Jmf (List.getD x_ 5 0) (List.getD x_ 6 0))))) (Jc0 (List.getD s10 (s11).toNat 0) (List.getD (List.set w ((Jcz s11 16)).toNat (Jc0 (List.getD w ((Jcz s11 16)).toNat 0) (Jc0 (Jc0 (Jd9 (List.getD w ((Jcz (Jdo s11 15) 16)).toNat 0) 7 18 3 177) (List.getD w ((Jcz (Jdo s11 7) 16)).toNat 0)) (Jd9 (List.getD w ((Jcz (Jdo s11 2) 16)).toNat 0) 17 19 10 177)))) ((Jcz s11 16)).toNat 0)))), (List.getD x_ 4 0), (List.getD x_ 5 0), (List.getD x_ 6 0)] : ZW) s1 (List.set w ((Jcz s11 16)).toNat (Jc0 (List.getD w ((Jcz s11 16)).toNat 0) (Jc0 (Jc0 (Jd9 (List.getD w ((Jcz (Jdo s11 15) 16)).toNat 0) 7 18 3 177) (List.getD w ((Jcz (Jdo s11 7) 16)).toNat 0)) (Jd9 (List.getD w ((Jcz (Jdo s11 2) 16)).toNat 0) 17 19 10 177)))) s s4
  else fail
  else fail
  else fail
  else fail
  else fail
  else fail
  else fail
  else fail
  else fail
  else fail
  else fail
 else
 ex0 s10 s11 x_ s1 w s s4
def Jkg {X : Type} (F : Nat) (fail : X) (ex0 : ZW → Int → ZW → ZB → ZW → ZW → ZW → X) : Nat → ZW → Int → ZW → ZB → ZW → ZW → ZW → X
 | 0, _, _, _, _, _, _, _ => fail
 | m + 1, s10, s11, x_, s1, w, s, s4 => Jwi F fail (Jkg F fail ex0 m) ex0 s10 s11 x_ s1 w s s4
def Kgr {X : Type} (F : Nat) (fail : X) (next ex0 : Int → ZW → ZW → ZW → X) (s71 : Int) (s s4 x_ : ZW) : X :=
 bif (decide (s71 < 8)) then
  bif ((decide (0 ≤ s71)) && (decide (s71 < (8 : Int)))) then
  bif ((decide (0 ≤ s71)) && (decide (s71 < (8 : Int)))) then
  bif ((decide (0 ≤ s71)) && (decide (s71 < (8 : Int)))) then
  next (Jar s71 1) s s4 (List.set x_ (s71).toNat (Jc0 (List.getD x_ (s71).toNat 0) (List.getD s (s71).toNat 0)))
  else fail
  else fail
  else fail
 else
 ex0 s71 s s4 x_
def Jm4 {X : Type} (F : Nat) (fail : X) (ex0 : Int → ZW → ZW → ZW → X) : Nat → Int → ZW → ZW → ZW → X
 | 0, _, _, _, _ => fail
 | m + 1, s71, s, s4, x_ => Kgr F fail (Jm4 F fail ex0 m) ex0 s71 s s4 x_
def Kx9 {X : Type} (F : Nat) (s : ZW) (block : ZB) (fail : X) (ret : ZW → X) : X :=
 bif (J1z) then
 Jkg F fail
  (fun s10 s11 x_ s1 w s2 s4 =>
   Jm4 F fail
    (fun s71 s3 s41 x_1 =>
     ret x_1)
    F 0 s2 s4 x_)
  F (Kbq) 0 s block ([0, 0, 0, 0, 0, 0, 0, 0, 0, 0, 0, 0, 0, 0, 0, 0] : ZW) s ([0, 0, 0, 0, 0, 0, 0, 0] : ZW)
 else fail
def hNew {X : Type} (F : Nat) (fail : X) (ret : ZH → X) : X :=
 ret (([1779033703, 3144134277, 1013904242, 2773480762, 1359893119, 2600822924, 528734635, 1541459225] : ZW), (([] : ZB), (0, ())))
def Kgs {X : Type} (F : Nat) (fail : X) (next ex0 : ZB → ZW → Int → ZH → ZH → ZW → X) (b : ZB) (s13 : ZW) (s14 : Int) (h s4 : ZH) (s : ZW) : X :=
 bif (decide (s14 < 8)) then
  bif ((decide (0 ≤ s14)) && (decide (s14 < (8 : Int)))) then
  bif ((decide (0 ≤ s14)) && (decide (s14 < (8 : Int)))) then
  next b s13 (Jar s14 1) h s4 (List.set s (s14).toNat (List.getD s13 (s14).toNat 0))
  else fail
  else fail
 else
 ex0 b s13 s14 h s4 s
def Jsa {X : Type} (F : Nat) (fail : X) (ex0 : ZB → ZW → Int → ZH → ZH → ZW → X) : Nat → ZB → ZW → Int → ZH → ZH → ZW → X
 | 0, _, _, _, _, _, _ => fail
 | m + 1, b, s13, s14, h, s4, s => Kgs F fail (Jsa F fail ex0 m) ex0 b s13 s14 h s4 s
def Jwj {X : Type} (F : Nat) (fail : X) (next ex0 : ZB → ZB → ZH → ZH → ZW → X) (b all : ZB) (h s4 : ZH) (s : ZW) : X :=
 bif (decide ((all.length : Int) ≥ 64)) then
  bif (Jv8 s all) then
  bif (decide (64 ≤ (all.length : Int))) then
  next b (List.drop 64 all) h s4 (Kbr s all)
  else fail
  else fail
 else
 ex0 b all h s4 s
def Jkh {X : Type} (F : Nat) (fail : X) (ex0 : ZB → ZB → ZH → ZH → ZW → X) : Nat → ZB → ZB → ZH → ZH → ZW → X
 | 0, _, _, _, _, _ => fail
 | m + 1, b, all, h, s4, s => Jwj F fail (Jkh F fail ex0 m) ex0 b all h s4 s
def Kgt {X : Type} (F : Nat) (fail : X) (next ex0 : ZW → Int → ZH → ZW → (Int × Unit) → ZB → X) (s49 : ZW) (s50 : Int) (s4 : ZH) (out : ZW) (out1 : (Int × Unit)) (h2 : ZB) : X :=
 bif (decide (s50 < 8)) then
  bif ((decide (0 ≤ s50)) && (decide (s50 < (8 : Int)))) then
  bif ((decide (0 ≤ s50)) && (decide (s50 < (8 : Int)))) then
  next s49 (Jar s50 1) s4 (List.set out (s50).toNat (List.getD s49 (s50).toNat 0)) out1 h2
  else fail
  else fail
 else
 ex0 s49 s50 s4 out out1 h2
def Jsb {X : Type} (F : Nat) (fail : X) (ex0 : ZW → Int → ZH → ZW → (Int × Unit) → ZB → X) : Nat → ZW → Int → ZH → ZW → (Int × Unit) → ZB → X
 | 0, _, _, _, _, _, _ => fail
 | m + 1, s49, s50, s4, out, out1, h2 => Kgt F fail (Jsb F fail ex0 m) ex0 s49 s50 s4 out out1 h2
def Kya {X : Type} (F : Nat) (h : ZH) (b : ZB) (fail : X) (ret : ZH → X) : X :=
 Jsa F fail
  (fun b1 s13 s14 h1 s4 s =>
   bif (((decide (0 ≤ ((h1.2.1.length : Nat) : Int))) && (decide (((h1.2.1.length : Nat) : Int) ≤ ((h1.2.1.length : Nat) : Int)))) && (((h1.2.1.length : Nat) : Int) == ((h1.2.1.length : Nat) : Int))) then
   bif (decide (((List.take h1.2.1.length h1.2.1) ++ b1).length ≤ big)) then
   Jkh F fail
    (fun b2 all h2 s41 s1 =>
     bif (decide (all.length ≤ big)) then
     Jsb F fail
      (fun s49 s50 s42 out out1 h21 =>
       ret (out, (h21, out1)))
      F s1 0 s41 ([0, 0, 0, 0, 0, 0, 0, 0] : ZW) ((Jar h2.2.2.1 (b2.length : Int)), ()) all
     else fail)
    F b1 ((List.take h1.2.1.length h1.2.1) ++ b1) h1 s4 s
   else fail
   else fail)
  F b h.1 0 h (([0, 0, 0, 0, 0, 0, 0, 0] : ZW), (([] : ZB), (0, ()))) ([0, 0, 0, 0, 0, 0, 0, 0] : ZW)
def Jsc {X : Type} (F : Nat) (fail : X) (next ex0 : Int → ZH → ZB → ZB → X) (shift : Int) (h : ZH) (s2 pad : ZB) : X :=
 bif (decide (shift ≥ 0)) then
  bif (decide (0 ≤ shift)) then
  bif (decide ((pad ++ ([(Jta (Jj9 (mulU (Ktq h.2.2.1) (8 : Int)) shift))] : ZB)).length ≤ big)) then
  next (Jdo shift (8 : Int)) h s2 (pad ++ ([(Jta (Jj9 (mulU (Ktq h.2.2.1) (8 : Int)) shift))] : ZB))
  else fail
  else fail
 else
 ex0 shift h s2 pad
def Jfk {X : Type} (F : Nat) (fail : X) (ex0 : Int → ZH → ZB → ZB → X) : Nat → Int → ZH → ZB → ZB → X
 | 0, _, _, _, _ => fail
 | m + 1, shift, h, s2, pad => Jsc F fail (Jfk F fail ex0 m) ex0 shift h s2 pad
def J88 {X : Type} (F : Nat) (fail : X) (next ex0 : Int → UInt32 → ZW → Int → Int → ZB → ZB → X) (i : Int) (x_ : UInt32) (s35 : ZW) (s36 s40 : Int) (s2 out : ZB) : X :=
 bif (decide (s40 < 4)) then
  bif (decide (0 ≤ (Jdo 24 (Jlu 8 s40)))) then
  bif ((decide (0 ≤ (Jar (Jlu 4 i) s40))) && (decide ((Jar (Jlu 4 i) s40) < (32 : Int)))) then
  next i x_ s35 s36 (Jar s40 1) s2 (List.set out ((Jar (Jlu 4 i) s40)).toNat (J3n (Jr1 x_ (Jdo 24 (Jlu 8 s40)))))
  else fail
  else fail
 else
 ex0 i x_ s35 s36 s40 s2 out
def Juh {X : Type} (F : Nat) (fail : X) (ex0 : Int → UInt32 → ZW → Int → Int → ZB → ZB → X) : Nat → Int → UInt32 → ZW → Int → Int → ZB → ZB → X
 | 0, _, _, _, _, _, _, _ => fail
 | m + 1, i, x_, s35, s36, s40, s2, out => J88 F fail (Juh F fail ex0 m) ex0 i x_ s35 s36 s40 s2 out
def J89 {X : Type} (F : Nat) (fail : X) (next ex0 : ZW → Int → ZB → ZB → X) (s35 : ZW) (s36 : Int) (s2 out : ZB) : X :=
 bif (decide (s36 < 8)) then
  bif ((decide (0 ≤ s36)) && (decide (s36 < (8 : Int)))) then
  Juh F fail
   (fun i x_ s351 s361 s40 s21 out1 =>
    next s351 (Jar s361 1) s21 out1)
   F s36 (List.getD s35 (s36).toNat 0) s35 s36 0 s2 out
  else fail
 else
 ex0 s35 s36 s2 out
def Jok {X : Type} (F : Nat) (fail : X) (ex0 : ZW → Int → ZB → ZB → X) : Nat → ZW → Int → ZB → ZB → X
 | 0, _, _, _, _ => fail
 | m + 1, s35, s36, s2, out => J89 F fail (Jok F fail ex0 m) ex0 s35 s36 s2 out
def Kmb {X : Type} (F : Nat) (h : ZH) (fail : X) (ret : ZB → X) : X :=
 bif (((decide (0 ≤ (Jar 1 (Jcz (Jdo 119 ((h.2.1.length : Nat) : Int)) 64)))) && (decide ((Jar 1 (Jcz (Jdo 119 ((h.2.1.length : Nat) : Int)) 64)) ≤ 72))) && (decide (72 ≤ ((big : Nat) : Int)))) then
 bif (decide ((0 : Int) < (((List.replicate ((Jar (1 : Int) (Jcz (Jdo (119 : Int) ((h.2.1.length : Nat) : Int)) (64 : Int)))).toNat (0 : UInt8)).length : Nat) : Int))) then
 Jfk F fail
  (fun shift h1 s2 pad =>
   bif (Jd2 h1 pad) then
   Jok F fail
    (fun s35 s36 s21 out =>
     ret out)
    F (Jcs h1 pad).1 (0 : Int) s2 (List.replicate 32 (0 : UInt8))
   else fail)
  F (56 : Int) h (List.replicate 32 (0 : UInt8)) (List.set (List.replicate ((Jar (1 : Int) (Jcz (Jdo (119 : Int) ((h.2.1.length : Nat) : Int)) (64 : Int)))).toNat (0 : UInt8)) 0 (128 : UInt8))
 else fail
 else fail
def dSum {X : Type} (F : Nat) (b : ZB) (fail : X) (ret : ZB → X) : X :=
 bif (Jz2) then
 bif (Jd2 (Jf5) b) then
 bif (Jf8 (Jcs (Jf5) b)) then
 ret (Jiy (Jcs (Jf5) b))
 else fail
 else fail
 else fail
end Go.AI
namespace Go.AI
open Go
set_option linter.unusedVariables false
def Jbn  : ZB := [0, 1, 2, 2, 3, 3, 3, 3, 4, 4, 4, 4, 4, 4, 4, 4, 5, 5, 5, 5, 5, 5, 5, 5, 5, 5, 5, 5, 5, 5, 5, 5, 6, 6, 6, 6, 6, 6, 6, 6, 6, 6, 6, 6, 6, 6, 6, 6, 6, 6, 6, 6, 6, 6, 6, 6, 6, 6, 6, 6, 6, 6, 6, 6, 7, 7, 7, 7, 7, 7, 7, 7, 7, 7, 7, 7, 7, 7, 7, 7, 7, 7, 7, 7, 7, 7, 7, 7, 7, 7, 7, 7, 7, 7, 7, 7, 7, 7, 7, 7, 7, 7, 7, 7, 7, 7, 7, 7, 7, 7, 7, 7, 7, 7, 7, 7, 7, 7, 7, 7, 7, 7, 7, 7, 7, 7, 7, 7, 8, 8, 8, 8, 8, 8, 8, 8, 8, 8, 8, 8, 8, 8, 8, 8, 8, 8, 8, 8, 8, 8, 8, 8, 8, 8, 8, 8, 8, 8, 8, 8, 8, 8, 8, 8, 8, 8, 8, 8, 8, 8, 8, 8, 8, 8, 8, 8, 8, 8, 8, 8, 8, 8, 8, 8, 8, 8, 8, 8, 8, 8, 8, 8, 8, 8, 8, 8, 8, 8, 8, 8, 8, 8, 8, 8, 8, 8, 8, 8, 8, 8, 8, 8, 8, 8, 8, 8, 8, 8, 8, 8, 8, 8, 8, 8, 8, 8, 8, 8, 8, 8, 8, 8, 8, 8, 8, 8, 8, 8, 8, 8, 8, 8, 8, 8, 8, 8, 8, 8, 8, 8, 8, 8, 8, 8, 8, 8]
def Jym {X : Type} (F : Nat) (x_ : Int) (fail : X) (ret : Int → X) : X :=
 bif (decide (x_ ≥ 4294967296)) then
  bif (decide ((Jj9 x_ (32 : Int)) ≥ (65536 : Int))) then
   bif (decide ((Jj9 (Jj9 x_ (32 : Int)) (16 : Int)) ≥ (256 : Int))) then
    bif ((decide (0 ≤ ((((Jta (Jj9 (Jj9 (Jj9 x_ 32) 16) 8))).toNat : Nat) : Int))) && (decide (((((Jta (Jj9 (Jj9 (Jj9 x_ 32) 16) 8))).toNat : Nat) : Int) < (Jbn.length : Int)))) then
    ret (Jar 56 (Jfv (List.getD Jbn ((Jta (Jj9 (Jj9 (Jj9 x_ 32) 16) 8))).toNat 0)))
    else fail
   else
   bif ((decide (0 ≤ ((((Jta (Jj9 (Jj9 x_ 32) 16))).toNat : Nat) : Int))) && (decide (((((Jta (Jj9 (Jj9 x_ 32) 16))).toNat : Nat) : Int) < (Jbn.length : Int)))) then
   ret (Jar 48 (Jfv (List.getD Jbn ((Jta (Jj9 (Jj9 x_ 32) 16))).toNat 0)))
   else fail
  else
  bif (decide ((Jj9 x_ (32 : Int)) ≥ (256 : Int))) then
   bif ((decide (0 ≤ ((((Jta (Jj9 (Jj9 x_ 32) 8))).toNat : Nat) : Int))) && (decide (((((Jta (Jj9 (Jj9 x_ 32) 8))).toNat : Nat) : Int) < (Jbn.length : Int)))) then
   ret (Jar 40 (Jfv (List.getD Jbn ((Jta (Jj9 (Jj9 x_ 32) 8))).toNat 0)))
   else fail
  else
  bif ((decide (0 ≤ ((((Jta (Jj9 x_ 32))).toNat : Nat) : Int))) && (decide (((((Jta (Jj9 x_ 32))).toNat : Nat) : Int) < (Jbn.length : Int)))) then
  ret (Jar 32 (Jfv (List.getD Jbn ((Jta (Jj9 x_ 32))).toNat 0)))
  else fail
 else
 bif (decide (x_ ≥ 65536)) then
  bif (decide ((Jj9 x_ (16 : Int)) ≥ (256 : Int))) then
   bif ((decide (0 ≤ ((((Jta (Jj9 (Jj9 x_ 16) 8))).toNat : Nat) : Int))) && (decide (((((Jta (Jj9 (Jj9 x_ 16) 8))).toNat : Nat) : Int) < (Jbn.length : Int)))) then
   ret (Jar 24 (Jfv (List.getD Jbn ((Jta (Jj9 (Jj9 x_ 16) 8))).toNat 0)))
   else fail
  else
  bif ((decide (0 ≤ ((((Jta (Jj9 x_ 16))).toNat : Nat) : Int))) && (decide (((((Jta (Jj9 x_ 16))).toNat : Nat) : Int) < (Jbn.length : Int)))) then
  ret (Jar 16 (Jfv (List.getD Jbn ((Jta (Jj9 x_ 16))).toNat 0)))
  else fail
 else
 bif (decide (x_ ≥ 256)) then
  bif ((decide (0 ≤ ((((Jta (Jj9 x_ 8))).toNat : Nat) : Int))) && (decide (((((Jta (Jj9 x_ 8))).toNat : Nat) : Int) < (Jbn.length : Int)))) then
  ret (Jar 8 (Jfv (List.getD Jbn ((Jta (Jj9 x_ 8))).toNat 0)))
  else fail
 else
 bif ((decide (0 ≤ ((((Jta x_)).toNat : Nat) : Int))) && (decide (((((Jta x_)).toNat : Nat) : Int) < (Jbn.length : Int)))) then
 ret (Jar 0 (Jfv (List.getD Jbn ((Jta x_)).toNat 0)))
 else fail
def J32 {X : Type} (F : Nat) (x_ : UInt8) (fail : X) (ret : Int → X) : X :=
 bif ((decide (0 ≤ (((x_).toNat : Nat) : Int))) && (decide ((((x_).toNat : Nat) : Int) < (Jbn.length : Int)))) then
 ret (Jfv (List.getD Jbn (x_).toNat 0))
 else fail
def Kbz {X : Type} (F : Nat) (x_ : Int) (fail : X) (ret : Int → X) : X :=
 bif (Jl1 x_) then
 ret (Jqk x_)
 else fail
def Jhs {X : Type} (F : Nat) (x_ : UInt8) (fail : X) (ret : Int → X) : X :=
 ret (Jdo 8 (Jn7 x_))
def J33 {X : Type} (F : Nat) (n : Int) (fail : X) (ret : Int → X) : X :=
 bif (decide (n < 0)) then
  ret 0
 else
 bif (decide (n > 9007199254740991)) then
  ret 0
 else
 ret n
def Jqp {X : Type} (F : Nat) (n : Int) (fail : X) (ret : Int → X) : X :=
 bif (Jr4 (Ktq n)) then
 ret (quoI (maxI 0 (Jdo (Jr5 (Ktq n)) 1)) 7)
 else fail
def J9a {X : Type} (F : Nat) (s : ZB) (fail : X) (Jmm : X → X → X) (ret : ZB → X) : X :=
 bif (List.isEmpty s) then
  Jmm (
   ret ([] : ZB)) (
   bif (decide (s.length ≤ big)) then
   ret s
   else fail)
 else
 bif (decide (s.length ≤ big)) then
 ret s
 else fail
def Jol {X : Type} (F : Nat) (fail : X) (next ex0 : Int → Int → ZB → X) (n i : Int) (dst : ZB) : X :=
 bif (decide (i ≥ 0)) then
  bif (decide (0 ≤ (Jlu 8 i))) then
  bif (decide ((dst ++ ([(Klz (Kgm n (Jlu (8 : Int) i)))] : ZB)).length ≤ big)) then
  next n (Jdo i (1 : Int)) (dst ++ ([(Klz (Kgm n (Jlu (8 : Int) i)))] : ZB))
  else fail
  else fail
 else
 ex0 n i dst
def Jg9 {X : Type} (F : Nat) (fail : X) (ex0 : Int → Int → ZB → X) : Nat → Int → Int → ZB → X
 | 0, _, _, _ => fail
 | m + 1, n, i, dst => Jol F fail (Jg9 F fail ex0 m) ex0 n i dst
def Kb0 {X : Type} (F : Nat) (dst : ZB) (n : Int) (fail : X) (ret : ZB → X) : X :=
 bif (Jdm (Jbz n)) then
 bif (decide (0 ≤ (Jdo 8 (Jbf (Jbz n))))) then
 bif (decide (0 ≤ (Jlu 8 (Jbf (Jbz n))))) then
 bif (decide ((dst ++ ([(orB (shlB (255 : UInt8) (Jdo (8 : Int) (Jbf (Jbz n)))) (Klz (Kgm (Jbz n) (Jlu (8 : Int) (Jbf (Jbz n))))))] : ZB)).length ≤ big)) then
 Jg9 F fail
  (fun n1 i dst1 =>
   ret dst1)
  F (Jbz n) (Jdo (Jbf (Jbz n)) (1 : Int)) (dst ++ ([(orB (shlB (255 : UInt8) (Jdo (8 : Int) (Jbf (Jbz n)))) (Klz (Kgm (Jbz n) (Jlu (8 : Int) (Jbf (Jbz n))))))] : ZB))
 else fail
 else fail
 else fail
 else fail
def Jui {X : Type} (F : Nat) (dst : ZB) (n : Int) (fail : X) (ret : ZB → X) : X :=
 bif (Jbh dst) then
 bif (Jka (Jb7 dst) n) then
 ret (Jmv (Jb7 dst) n)
 else fail
 else fail
def Jom {X : Type} (F : Nat) (fail : X) (next ex0 : ZB → Int → Int → ZB → Int → Int → X) (src : ZB) (k n : Int) (s33 : ZB) (s34 s35 : Int) : X :=
 bif (decide (s35 < s34)) then
  bif ((decide (0 ≤ s35)) && (decide (s35 < (s33.length : Int)))) then
  next src k (orI (K7b n 8) (Jfv (List.getD s33 (s35).toNat 0))) s33 s34 (Jar s35 1)
  else fail
 else
 ex0 src k n s33 s34 s35
def Jha {X : Type} (F : Nat) (fail : X) (ex0 : ZB → Int → Int → ZB → Int → Int → X) : Nat → ZB → Int → Int → ZB → Int → Int → X
 | 0, _, _, _, _, _, _ => fail
 | m + 1, src, k, n, s33, s34, s35 => Jom F fail (Jha F fail ex0 m) ex0 src k n s33 s34 s35
def Kb1 {X : Type} (F : Nat) (src : ZB) (fail : X) (ret : Int → ZB → Int → X) : X :=
 bif ((src.length : Int) == 0) then
  ret 0 ([] : ZB) 9
 else
 bif (decide (0 < (src.length : Int))) then
 bif (decide ((Jay (K2g (List.getD src 0 0))) > 7)) then
  ret 0 ([] : ZB) 3
 else
 bif (decide ((src.length : Int) ≤ (Jay (K2g (List.getD src 0 0))))) then
  ret 0 ([] : ZB) 9
 else
 bif (decide (0 < (src.length : Int))) then
 bif (decide (0 ≤ (Jay (K2g (List.getD src 0 0))))) then
 bif ((decide (1 ≤ (Jar (Jay (K2g (List.getD src 0 0))) 1))) && (decide ((Jar (Jay (K2g (List.getD src 0 0))) 1) ≤ (src.length : Int)))) then
 Jha F fail
  (fun src1 k n s33 s34 s35 =>
   bif (decide (n > 9007199254740991)) then
    ret 0 ([] : ZB) 3
   else
   bif (Jdm n) then
   bif ((Jbf n) != k) then
    ret 0 ([] : ZB) 3
   else
   bif ((decide (0 ≤ (Jar k 1))) && (decide ((Jar k 1) ≤ (src1.length : Int)))) then
   bif (Jbh (List.drop ((Jar k 1)).toNat src1)) then
   ret n (Jb7 (List.drop ((Jar k 1)).toNat src1)) 0
   else fail
   else fail
   else fail)
  F src (Jay (K2g (List.getD src 0 0))) (Jfv (andB (List.getD src 0 0) (shrB 127 (Jay (K2g (List.getD src 0 0)))))) (List.drop 1 (List.take ((Jar (Jay (K2g (List.getD src 0 0))) 1)).toNat src)) (((List.drop 1 (List.take ((Jar (Jay (K2g (List.getD src 0 0))) 1)).toNat src)).length : Nat) : Int) 0
 else fail
 else fail
 else fail
 else fail
end Go.AI
namespace Go.AI
open Go
set_option linter.unusedVariables false
def Jgc {X : Type} (F : Nat) (fail : X) (next ex0 : ZB → Int → Int → ZB → X) (s14 : ZB) (s15 s16 : Int) (dst : ZB) : X :=
 bif (decide (s16 < s15)) then
  bif ((decide (0 ≤ s16)) && (decide (s16 < (s14.length : Int)))) then
  bif (decide ((dst ++ ([(List.getD s14 (s16).toNat (0 : UInt8))] : ZB)).length ≤ big)) then
  next s14 s15 (Jar s16 (1 : Int)) (dst ++ ([(List.getD s14 (s16).toNat (0 : UInt8))] : ZB))
  else fail
  else fail
 else
 ex0 s14 s15 s16 dst
def Jdp {X : Type} (F : Nat) (fail : X) (ex0 : ZB → Int → Int → ZB → X) : Nat → ZB → Int → Int → ZB → X
 | 0, _, _, _, _ => fail
 | m + 1, s14, s15, s16, dst => Jgc F fail (Jdp F fail ex0 m) ex0 s14 s15 s16 dst
def Jon {X : Type} (F : Nat) (dst b : ZB) (fail : X) (ret : ZB → X) : X :=
 bif (Jbh dst) then
 bif (Jka (Jb7 dst) (b.length : Int)) then
 Jdp F fail
  (fun s14 s15 s16 dst1 =>
   ret dst1)
  F b (b.length : Int) 0 (Jmv (Jb7 dst) (b.length : Int))
 else fail
 else fail
def Jyn {X : Type} (F : Nat) (src : ZB) (fail : X) (ret : ZB → ZB → Int → X) : X :=
 bif (Jei src) then
 bif ((Ja9 src) == 0) then
  bif (decide ((Jap src) > 65536)) then
   ret ([] : ZB) ([] : ZB) 5
  else
  bif ((Ja9 src) != 0) then
   ret ([] : ZB) ([] : ZB) (Ja9 src)
  else
  bif (decide ((((Jam src).length : Nat) : Int) < (Jap src))) then
   ret ([] : ZB) ([] : ZB) 9
  else
  bif ((decide (0 ≤ (Jap src))) && (decide ((Jap src) ≤ (((Jam src).length : Nat) : Int)))) then
  bif (Jbh (List.take ((Jap src)).toNat (Jam src))) then
  bif ((decide (0 ≤ (Jap src))) && (decide ((Jap src) ≤ (((Jam src).length : Nat) : Int)))) then
  bif (Jbh (List.drop ((Jap src)).toNat (Jam src))) then
  ret (Jb7 (List.take ((Jap src)).toNat (Jam src))) (Jb7 (List.drop ((Jap src)).toNat (Jam src))) 0
  else fail
  else fail
  else fail
  else fail
 else
 bif ((Ja9 src) != 0) then
  ret ([] : ZB) ([] : ZB) (Ja9 src)
 else
 bif (decide ((((Jam src).length : Nat) : Int) < (Jap src))) then
  ret ([] : ZB) ([] : ZB) 9
 else
 bif ((decide (0 ≤ (Jap src))) && (decide ((Jap src) ≤ (((Jam src).length : Nat) : Int)))) then
 bif (Jbh (List.take ((Jap src)).toNat (Jam src))) then
 bif ((decide (0 ≤ (Jap src))) && (decide ((Jap src) ≤ (((Jam src).length : Nat) : Int)))) then
 bif (Jbh (List.drop ((Jap src)).toNat (Jam src))) then
 ret (Jb7 (List.take ((Jap src)).toNat (Jam src))) (Jb7 (List.drop ((Jap src)).toNat (Jam src))) 0
 else fail
 else fail
 else fail
 else fail
 else fail
end Go.AI
namespace Go.AI
open Go
set_option linter.unusedVariables false
def Jwk {X : Type} (F : Nat) (fail : X) (next ex0 : UInt8 → Int → Int → ZB → X) (by_ : UInt8) (s19 s20 : Int) (out : ZB) : X :=
 bif (decide (s20 < s19)) then
  bif ((decide (0 ≤ s20)) && (decide (s20 < (out.length : Int)))) then
  bif ((decide (0 ≤ s20)) && (decide (s20 < (out.length : Int)))) then
  next by_ s19 (Jar s20 1) (List.set out (s20).toNat (J6p (List.getD out (s20).toNat 0) by_))
  else fail
  else fail
 else
 ex0 by_ s19 s20 out
def Jif {X : Type} (F : Nat) (fail : X) (ex0 : UInt8 → Int → Int → ZB → X) : Nat → UInt8 → Int → Int → ZB → X
 | 0, _, _, _, _ => fail
 | m + 1, by_, s19, s20, out => Jwk F fail (Jif F fail ex0 m) ex0 by_ s19 s20 out
def Kyb {X : Type} (F : Nat) (key : ZB) (by_ : UInt8) (fail : X) (ret : ZB → X) : X :=
 bif (decide ((key.length : Int) > 64)) then
  bif (Kgo key) then
  bif (decide (64 ≤ ((big : Nat) : Int))) then
  Jif F fail
   (fun by_1 s19 s20 out =>
    ret out)
   F by_ (((((List.take 0 (List.replicate 64 (0 : UInt8))) ++ (List.take (min (List.take 32 (Jtd key)).length (List.replicate 64 (0 : UInt8)).length) (List.take 32 (Jtd key)))) ++ (List.drop (0 + (min (List.take 32 (Jtd key)).length (List.replicate 64 (0 : UInt8)).length)) (List.replicate 64 (0 : UInt8)))).length : Nat) : Int) (0 : Int) (((List.take 0 (List.replicate 64 (0 : UInt8))) ++ (List.take (min (List.take 32 (Jtd key)).length (List.replicate 64 (0 : UInt8)).length) (List.take 32 (Jtd key)))) ++ (List.drop (0 + (min (List.take 32 (Jtd key)).length (List.replicate 64 (0 : UInt8)).length)) (List.replicate 64 (0 : UInt8))))
  else fail
  else fail
 else
 bif (decide (64 ≤ ((big : Nat) : Int))) then
 Jif F fail
  (fun by_2 s191 s201 out1 =>
   ret out1)
  F by_ (((((List.take 0 (List.replicate 64 (0 : UInt8))) ++ (List.take (min key.length (List.replicate 64 (0 : UInt8)).length) key)) ++ (List.drop (0 + (min key.length (List.replicate 64 (0 : UInt8)).length)) (List.replicate 64 (0 : UInt8)))).length : Nat) : Int) (0 : Int) (((List.take 0 (List.replicate 64 (0 : UInt8))) ++ (List.take (min key.length (List.replicate 64 (0 : UInt8)).length) key)) ++ (List.drop (0 + (min key.length (List.replicate 64 (0 : UInt8)).length)) (List.replicate 64 (0 : UInt8))))
 else fail
def dMac {X : Type} (F : Nat) (key b : ZB) (fail : X) (ret : ZB → X) : X :=
 bif (Jz2) then
 bif (Jr3 key 54) then
 bif (Jd2 (Jf5) (Jeb key 54)) then
 bif (Jd2 (Jcs (Jf5) (Jeb key 54)) b) then
 bif (Jf8 (Jcs (Jcs (Jf5) (Jeb key 54)) b)) then
 bif (Jz2) then
 bif (Jr3 key 92) then
 bif (Jd2 (Jf5) (Jeb key 92)) then
 bif (Jd2 (Jcs (Jf5) (Jeb key 92)) (List.take 32 (Jiy (Jcs (Jcs (Jf5) (Jeb key 54)) b)))) then
 bif (Jf8 (Jcs (Jcs (Jf5) (Jeb key 92)) (List.take 32 (Jiy (Jcs (Jcs (Jf5) (Jeb key 54)) b))))) then
 ret (Jiy (Jcs (Jcs (Jf5) (Jeb key 92)) (List.take 32 (Jiy (Jcs (Jcs (Jf5) (Jeb key 54)) b)))))
 else fail
 else fail
 else fail
 else fail
 else fail
 else fail
 else fail
 else fail
 else fail
 else fail
end Go.AI
namespace Go.AI
open Go
set_option linter.unusedVariables false
def K7m {X : Type} (F : Nat) (key : ZB) (fail : X) (ret : ZB → ZB → X) : X :=
 bif (Jqj key ([101, 110, 99, 114, 121, 112, 116] : ZB)) then
 bif (Jqj key ([97, 117, 116, 104, 101, 110, 116, 105, 99, 97, 116, 101] : ZB)) then
 ret (Jz3 key ([101, 110, 99, 114, 121, 112, 116] : ZB)) (Jz3 key ([97, 117, 116, 104, 101, 110, 116, 105, 99, 97, 116, 101] : ZB))
 else fail
 else fail
def Kb2 {X : Type} (F : Nat) (fail : X) (next ex0 : Int → ZB → Int → ZB → ZB → X) (nonce : Int) (b : ZB) (s10 : Int) (key l : ZB) : X :=
 bif (decide (s10 < 8)) then
  bif (decide (0 ≤ (Jlu 8 s10))) then
  bif (decide ((l ++ ([(Klz (Kgm nonce (Jlu (8 : Int) s10)))] : ZB)).length ≤ big)) then
  next nonce b (Jar s10 (1 : Int)) key (l ++ ([(Klz (Kgm nonce (Jlu (8 : Int) s10)))] : ZB))
  else fail
  else fail
 else
 ex0 nonce b s10 key l
def Jsd {X : Type} (F : Nat) (fail : X) (ex0 : Int → ZB → Int → ZB → ZB → X) : Nat → Int → ZB → Int → ZB → ZB → X
 | 0, _, _, _, _, _ => fail
 | m + 1, nonce, b, s10, key, l => Kb2 F fail (Jsd F fail ex0 m) ex0 nonce b s10 key l
def cTag {X : Type} (F : Nat) (key : ZB) (nonce : Int) (b : ZB) (fail : X) (ret : ZB → X) : X :=
 Jsd F fail
  (fun nonce1 b1 s10 Jpz l =>
   bif (decide ((l ++ b1).length ≤ big)) then
   bif (Jqj (List.take 32 Jpz) (l ++ b1)) then
   ret (List.take 16 (Jz3 (List.take 32 Jpz) (l ++ b1)))
   else fail
   else fail)
  F nonce b 0 key ([] : ZB)
def Kmc {X : Type} (F : Nat) (key : ZB) (fail : X) (ret : Bool → X) : X :=
 bif (decide ((key.length : Int) ≥ 1)) then
  ret (decide ((key.length : Int) ≤ 64))
 else
 ret false
def J16 {X : Type} (F : Nat) (fail : X) (next ex0 : Int → Int → ZB → Int → ZB → ZB → ZB → ZB → ZB → X) (nonce s10 : Int) (key : ZB) (nonce1 : Int) (b b1 Jpz l authenticate : ZB) : X :=
 bif (decide (s10 < 8)) then
  bif (decide (0 ≤ (Jlu 8 s10))) then
  bif (decide ((l ++ ([(Klz (Kgm nonce (Jlu (8 : Int) s10)))] : ZB)).length ≤ big)) then
  next nonce (Jar s10 (1 : Int)) key nonce1 b b1 Jpz (l ++ ([(Klz (Kgm nonce (Jlu (8 : Int) s10)))] : ZB)) authenticate
  else fail
  else fail
 else
 ex0 nonce s10 key nonce1 b b1 Jpz l authenticate
def Jm5 {X : Type} (F : Nat) (fail : X) (ex0 : Int → Int → ZB → Int → ZB → ZB → ZB → ZB → ZB → X) : Nat → Int → Int → ZB → Int → ZB → ZB → ZB → ZB → ZB → X
 | 0, _, _, _, _, _, _, _, _, _ => fail
 | m + 1, nonce, s10, key, nonce1, b, b1, Jpz, l, authenticate => J16 F fail (Jm5 F fail ex0 m) ex0 nonce s10 key nonce1 b b1 Jpz l authenticate
def K7n {X : Type} (F : Nat) (key : ZB) (nonce : Int) (b : ZB) (fail : X) (ret : ZB → Int → X) : X :=
 bif (!(Jk1 key)) then
  ret ([] : ZB) 1
 else
 bif (decide ((b.length : Int) > 65520)) then
  ret ([] : ZB) 5
 else
 bif (Jn9 key) then
 bif (Jk0 (Jfd key) nonce b) then
 bif ((Jf0 (Jfd key) nonce b) != 0) then
  ret ([] : ZB) (Jf0 (Jfd key) nonce b)
 else
 Jm5 F fail
  (fun nonce1 s10 Jpz nonce2 b1 b2 key2 l authenticate =>
   bif (decide ((l ++ b2).length ≤ big)) then
   bif (Jqj (List.take 32 key2) (l ++ b2)) then
   bif (decide ((b2 ++ (List.take 16 (Jz3 (List.take 32 key2) (l ++ b2)))).length ≤ big)) then
   ret (b2 ++ (List.take 16 (Jz3 (List.take 32 key2) (l ++ b2)))) (0 : Int)
   else fail
   else fail
   else fail)
  F nonce 0 key nonce b (Jid (Jfd key) nonce b) (Jgb key) ([] : ZB) (Jgb key)
 else fail
 else fail
def K7o {X : Type} (F : Nat) (key : ZB) (nonce : Int) (b : ZB) (fail : X) (ret : ZB → Int → X) : X :=
 bif (!(Jk1 key)) then
  ret ([] : ZB) 1
 else
 bif (decide ((b.length : Int) > 65536)) then
  ret ([] : ZB) 5
 else
 bif (!(Jn8 nonce)) then
  ret ([] : ZB) 2
 else
 bif (decide ((Jdo ((b.length : Nat) : Int) (16 : Int)) < (0 : Int))) then
  ret ([] : ZB) 9
 else
 bif (Jn9 key) then
 bif ((decide (0 ≤ (Jdo (b.length : Int) 16))) && (decide ((Jdo (b.length : Int) 16) ≤ (b.length : Int)))) then
 bif (Jz4 (Jgb key) nonce (List.take ((Jdo (b.length : Int) 16)).toNat b)) then
 bif ((decide (0 ≤ (Jdo (b.length : Int) 16))) && (decide ((Jdo (b.length : Int) 16) ≤ (b.length : Int)))) then
 bif (Jg4 (Jz5 (Jgb key) nonce (List.take ((Jdo (b.length : Int) 16)).toNat b)) (List.drop ((Jdo (b.length : Int) 16)).toNat b)) then
 bif (!(Jg5 (Jz5 (Jgb key) nonce (List.take ((Jdo (b.length : Int) 16)).toNat b)) (List.drop ((Jdo (b.length : Int) 16)).toNat b))) then
  ret ([] : ZB) 25
 else
 bif ((decide (0 ≤ (Jdo (b.length : Int) 16))) && (decide ((Jdo (b.length : Int) 16) ≤ (b.length : Int)))) then
 bif (Jk0 (Jfd key) nonce (List.take ((Jdo (b.length : Int) 16)).toNat b)) then
 ret (Jid (Jfd key) nonce (List.take ((Jdo (b.length : Int) 16)).toNat b)) (Jf0 (Jfd key) nonce (List.take ((Jdo (b.length : Int) 16)).toNat b))
 else fail
 else fail
 else fail
 else fail
 else fail
 else fail
 else fail
def Jj0 {X : Type} (F : Nat) (fail : X) (next ex0 ex1 : ZB → ZB → Bool → Int → Int → X) (s1 s2 : ZB) (s4 : Bool) (s12 s13 : Int) : X :=
 bif (decide (s13 < s12)) then
  bif ((decide (0 ≤ s13)) && (decide (s13 < (s1.length : Int)))) then
  bif ((decide (0 ≤ s13)) && (decide (s13 < (s2.length : Int)))) then
  bif (((((List.getD s1 (s13).toNat 0)).toNat : Nat) : Int) != ((((List.getD s2 (s13).toNat 0)).toNat : Nat) : Int)) then
   ex0 s1 s2 false s12 s13
  else
  next s1 s2 s4 s12 (Jar s13 1)
  else fail
  else fail
 else
 ex1 s1 s2 s4 s12 s13
def Jfa {X : Type} (F : Nat) (fail : X) (ex0 ex1 : ZB → ZB → Bool → Int → Int → X) : Nat → ZB → ZB → Bool → Int → Int → X
 | 0, _, _, _, _, _ => fail
 | m + 1, s1, s2, s4, s12, s13 => Jj0 F fail (Jfa F fail ex0 ex1 m) ex0 ex1 s1 s2 s4 s12 s13
def Jyo {X : Type} (F : Nat) (s1 s2 : ZB) (fail : X) (ret : Bool → X) : X :=
 bif ((s1.length : Int) != (s2.length : Int)) then
  ret false
 else
 Jfa F fail
  (fun s11 s21 s4 s12 s13 =>
   ret s4)
  (fun s14 s22 s41 s121 s131 =>
   ret true)
  F s1 s2 false (s1.length : Int) 0
end Go.AI
namespace Go.AI
open Go
set_option linter.unusedVariables false
def K7p {X : Type} (F : Nat) (x_ : UInt32) (k : Int) (fail : X) (ret : UInt32 → X) : X :=
 ret (orW (Jxv x_ (K96 (Ktq k) 31)) (Jr1 x_ (subU 32 (K96 (Ktq k) 31))))
def Jwl {X : Type} (F : Nat) (fail : X) (next ex0 : Int → Int → Int → Int → Int → ZB → ZW → ZW → X) (nonce counter i s11 s14 : Int) (key : ZB) (s6 w : ZW) : X :=
 bif (decide (s14 < 4)) then
  bif ((decide (0 ≤ (Jar 4 i))) && (decide ((Jar 4 i) < (16 : Int)))) then
  bif ((decide (0 ≤ (Jar (Jlu 4 i) s14))) && (decide ((Jar (Jlu 4 i) s14) < (32 : Int)))) then
  bif (decide (0 ≤ (Jlu 8 s14))) then
  bif ((decide (0 ≤ (Jar 4 i))) && (decide ((Jar 4 i) < (16 : Int)))) then
  next nonce counter i s11 (Jar s14 1) key s6 (List.set w ((Jar 4 i)).toNat (orW (List.getD w ((Jar 4 i)).toNat 0) (Jxv (Jxw (List.getD key ((Jar (Jlu 4 i) s14)).toNat 0)) (Jlu 8 s14))))
  else fail
  else fail
  else fail
  else fail
 else
 ex0 nonce counter i s11 s14 key s6 w
def Jhb {X : Type} (F : Nat) (fail : X) (ex0 : Int → Int → Int → Int → Int → ZB → ZW → ZW → X) : Nat → Int → Int → Int → Int → Int → ZB → ZW → ZW → X
 | 0, _, _, _, _, _, _, _, _ => fail
 | m + 1, nonce, counter, i, s11, s14, key, s6, w => Jwl F fail (Jhb F fail ex0 m) ex0 nonce counter i s11 s14 key s6 w
def Jwm {X : Type} (F : Nat) (fail : X) (next ex0 : Int → Int → Int → ZB → ZW → ZW → X) (nonce counter s11 : Int) (key : ZB) (s6 w : ZW) : X :=
 bif (decide (s11 < 8)) then
  Jhb F fail
   (fun nonce1 counter1 i s111 s14 Jpz s61 w1 =>
    next nonce1 counter1 (Jar s111 1) Jpz s61 w1)
   F nonce counter s11 s11 0 key s6 w
 else
 ex0 nonce counter s11 key s6 w
def Jki {X : Type} (F : Nat) (fail : X) (ex0 : Int → Int → Int → ZB → ZW → ZW → X) : Nat → Int → Int → Int → ZB → ZW → ZW → X
 | 0, _, _, _, _, _, _ => fail
 | m + 1, nonce, counter, s11, key, s6, w => Jwm F fail (Jki F fail ex0 m) ex0 nonce counter s11 key s6 w
def Kyc {X : Type} (F : Nat) (key : ZB) (nonce counter : Int) (fail : X) (ret : ZW → X) : X :=
 Jki F fail
  (fun nonce1 counter1 s11 Jpz s6 w =>
   ret (List.set (List.set (List.set w 12 (Kvv counter1)) 14 (Kvv nonce1)) 15 (Kvv (Kgm nonce1 32))))
  F nonce counter 0 key ([0, 0, 0, 0, 0, 0, 0, 0, 0, 0, 0, 0, 0, 0, 0, 0] : ZW) ([1634760805, 857760878, 2036477234, 1797285236, 0, 0, 0, 0, 0, 0, 0, 0, 0, 0, 0, 0] : ZW)
def Kb3 {X : Type} (F : Nat) (fail : X) (next ex0 : List (Int × ZL) → Int → Int → Int → ZW → ZW → X) (s30 : List (Int × ZL)) (s31 s7 s9 : Int) (w w1 : ZW) : X :=
 bif (decide (s31 < 4)) then
  bif ((decide (0 ≤ s31)) && (decide (s31 < (4 : Int)))) then
  bif ((decide (0 ≤ (List.getD s30 (s31).toNat (0, (0, (0, (0, ()))))).1)) && (decide ((List.getD s30 (s31).toNat (0, (0, (0, (0, ()))))).1 < (16 : Int)))) then
  bif ((decide (0 ≤ (List.getD s30 (s31).toNat (0, (0, (0, (0, ()))))).2.1)) && (decide ((List.getD s30 (s31).toNat (0, (0, (0, (0, ()))))).2.1 < (16 : Int)))) then
  bif ((decide (0 ≤ (List.getD s30 (s31).toNat (0, (0, (0, (0, ()))))).1)) && (decide ((List.getD s30 (s31).toNat (0, (0, (0, (0, ()))))).1 < (16 : Int)))) then
  bif ((decide (0 ≤ (List.getD s30 (s31).toNat (0, (0, (0, (0, ()))))).2.2.1)) && (decide ((List.getD s30 (s31).toNat (0, (0, (0, (0, ()))))).2.2.1 < (16 : Int)))) then
  bif ((decide (0 ≤ (List.getD s30 (s31).toNat (0, (0, (0, (0, ()))))).1)) && (decide ((List.getD s30 (s31).toNat (0, (0, (0, (0, ()))))).1 < (16 : Int)))) then
  bif (Jyf (Jmf (List.getD (List.set w ((List.getD s30 (s31).toNat (0, (0, (0, (0, ()))))).1).toNat (Jc0 (List.getD w ((List.getD s30 (s31).toNat (0, (0, (0, (0, ()))))).1).toNat 0) (List.getD w ((List.getD s30 (s31).toNat (0, (0, (0, (0, ()))))).2.1).toNat 0))) ((List.getD s30 (s31).toNat (0, (0, (0, (0, ()))))).2.2.1).toNat 0) (List.getD (List.set w ((List.getD s30 (s31).toNat (0, (0, (0, (0, ()))))).1).toNat (Jc0 (List.getD w ((List.getD s30 (s31).toNat (0, (0, (0, (0, ()))))).1).toNat 0) (List.getD w ((List.getD s30 (s31).toNat (0, (0, (0, (0, ()))))).2.1).toNat 0))) ((List.getD s30 (s31).toNat (0, (0, (0, (0, ()))))).1).toNat 0)) (List.getD s30 (s31).toNat (0, (0, (0, (0, ()))))).2.2.2.1) then
  bif ((decide (0 ≤ (List.getD s30 (s31).toNat (0, (0, (0, (0, ()))))).2.2.1)) && (decide ((List.getD s30 (s31).toNat (0, (0, (0, (0, ()))))).2.2.1 < (16 : Int)))) then
  next s30 (Jar s31 1) s7 s9 (List.set (List.set w ((List.getD s30 (s31).toNat (0, (0, (0, (0, ()))))).1).toNat (Jc0 (List.getD w ((List.getD s30 (s31).toNat (0, (0, (0, (0, ()))))).1).toNat 0) (List.getD w ((List.getD s30 (s31).toNat (0, (0, (0, (0, ()))))).2.1).toNat 0))) ((List.getD s30 (s31).toNat (0, (0, (0, (0, ()))))).2.2.1).toNat (J3u (Jmf (List.getD (List.set w ((List.getD s30 (s31).toNat (0, (0, (0, (0, ()))))).1).toNat (Jc0 (List.getD w ((List.getD s30 (s31).toNat (0, (0, (0, (0, ()))))).1).toNat 0) (List.getD w ((List.getD s30 (s31).toNat (0, (0, (0, (0, ()))))).2.1).toNat 0))) ((List.getD s30 (s31).toNat (0, (0, (0, (0, ()))))).2.2.1).toNat 0) (List.getD (List.set w ((List.getD s30 (s31).toNat (0, (0, (0, (0, ()))))).1).toNat (Jc0 (List.getD w ((List.getD s30 (s31).toNat (0, (0, (0, (0, ()))))).1).toNat 0) (List.getD w ((List.getD s30 (s31).toNat (0, (0, (0, (0, ()))))).2.1).toNat 0))) ((List.getD s30 (s31).toNat (0, (0, (0, (0, ()))))).1).toNat 0)) (List.getD s30 (s31).toNat (0, (0, (0, (0, ()))))).2.2.2.1)) w1
  else fail
  else fail
  else fail
  else fail
  else fail
  else fail
  else fail
  else fail
 else
 ex0 s30 s31 s7 s9 w w1
def Jj1 {X : Type} (F : Nat) (fail : X) (ex0 : List (Int × ZL) → Int → Int → Int → ZW → ZW → X) : Nat → List (Int × ZL) → Int → Int → Int → ZW → ZW → X
 | 0, _, _, _, _, _, _ => fail
 | m + 1, s30, s31, s7, s9, w, w1 => Kb3 F fail (Jj1 F fail ex0 m) ex0 s30 s31 s7 s9 w w1
def Kb4 {X : Type} (F : Nat) (fail : X) (next ex0 : Int → Int → ZW → ZW → X) (s7 s9 : Int) (change w : ZW) : X :=
 bif (decide (s9 < 4)) then
  Jj1 F fail
   (fun s30 s31 s71 s91 w1 w2 =>
    next s71 (Jar s91 1) w1 w2)
   F ([(s9, ((Jar 4 s9), ((Jar 12 s9), (16, ())))), ((Jar 8 s9), ((Jar 12 s9), ((Jar 4 s9), (12, ())))), (s9, ((Jar 4 s9), ((Jar 12 s9), (8, ())))), ((Jar 8 s9), ((Jar 12 s9), ((Jar 4 s9), (7, ()))))] : List (Int × ZL)) 0 s7 s9 change w
 else
 ex0 s7 s9 change w
def Joo {X : Type} (F : Nat) (fail : X) (ex0 : Int → Int → ZW → ZW → X) : Nat → Int → Int → ZW → ZW → X
 | 0, _, _, _, _ => fail
 | m + 1, s7, s9, change, w => Kb4 F fail (Joo F fail ex0 m) ex0 s7 s9 change w
def Kb5 {X : Type} (F : Nat) (fail : X) (next ex0 : List (Int × ZL) → Int → Int → Int → ZW → ZW → X) (s30 : List (Int × ZL)) (s31 s7 s22 : Int) (w w1 : ZW) : X :=
 bif (decide (s31 < 4)) then
  bif ((decide (0 ≤ s31)) && (decide (s31 < (4 : Int)))) then
  bif ((decide (0 ≤ (List.getD s30 (s31).toNat (0, (0, (0, (0, ()))))).1)) && (decide ((List.getD s30 (s31).toNat (0, (0, (0, (0, ()))))).1 < (16 : Int)))) then
  bif ((decide (0 ≤ (List.getD s30 (s31).toNat (0, (0, (0, (0, ()))))).2.1)) && (decide ((List.getD s30 (s31).toNat (0, (0, (0, (0, ()))))).2.1 < (16 : Int)))) then
  bif ((decide (0 ≤ (List.getD s30 (s31).toNat (0, (0, (0, (0, ()))))).1)) && (decide ((List.getD s30 (s31).toNat (0, (0, (0, (0, ()))))).1 < (16 : Int)))) then
  bif ((decide (0 ≤ (List.getD s30 (s31).toNat (0, (0, (0, (0, ()))))).2.2.1)) && (decide ((List.getD s30 (s31).toNat (0, (0, (0, (0, ()))))).2.2.1 < (16 : Int)))) then
  bif ((decide (0 ≤ (List.getD s30 (s31).toNat (0, (0, (0, (0, ()))))).1)) && (decide ((List.getD s30 (s31).toNat (0, (0, (0, (0, ()))))).1 < (16 : Int)))) then
  bif (Jyf (Jmf (List.getD (List.set w ((List.getD s30 (s31).toNat (0, (0, (0, (0, ()))))).1).toNat (Jc0 (List.getD w ((List.getD s30 (s31).toNat (0, (0, (0, (0, ()))))).1).toNat 0) (List.getD w ((List.getD s30 (s31).toNat (0, (0, (0, (0, ()))))).2.1).toNat 0))) ((List.getD s30 (s31).toNat (0, (0, (0, (0, ()))))).2.2.1).toNat 0) (List.getD (List.set w ((List.getD s30 (s31).toNat (0, (0, (0, (0, ()))))).1).toNat (Jc0 (List.getD w ((List.getD s30 (s31).toNat (0, (0, (0, (0, ()))))).1).toNat 0) (List.getD w ((List.getD s30 (s31).toNat (0, (0, (0, (0, ()))))).2.1).toNat 0))) ((List.getD s30 (s31).toNat (0, (0, (0, (0, ()))))).1).toNat 0)) (List.getD s30 (s31).toNat (0, (0, (0, (0, ()))))).2.2.2.1) then
  bif ((decide (0 ≤ (List.getD s30 (s31).toNat (0, (0, (0, (0, ()))))).2.2.1)) && (decide ((List.getD s30 (s31).toNat (0, (0, (0, (0, ()))))).2.2.1 < (16 : Int)))) then
  next s30 (Jar s31 1) s7 s22 (List.set (List.set w ((List.getD s30 (s31).toNat (0, (0, (0, (0, ()))))).1).toNat (Jc0 (List.getD w ((List.getD s30 (s31).toNat (0, (0, (0, (0, ()))))).1).toNat 0) (List.getD w ((List.getD s30 (s31).toNat (0, (0, (0, (0, ()))))).2.1).toNat 0))) ((List.getD s30 (s31).toNat (0, (0, (0, (0, ()))))).2.2.1).toNat (J3u (Jmf (List.getD (List.set w ((List.getD s30 (s31).toNat (0, (0, (0, (0, ()))))).1).toNat (Jc0 (List.getD w ((List.getD s30 (s31).toNat (0, (0, (0, (0, ()))))).1).toNat 0) (List.getD w ((List.getD s30 (s31).toNat (0, (0, (0, (0, ()))))).2.1).toNat 0))) ((List.getD s30 (s31).toNat (0, (0, (0, (0, ()))))).2.2.1).toNat 0) (List.getD (List.set w ((List.getD s30 (s31).toNat (0, (0, (0, (0, ()))))).1).toNat (Jc0 (List.getD w ((List.getD s30 (s31).toNat (0, (0, (0, (0, ()))))).1).toNat 0) (List.getD w ((List.getD s30 (s31).toNat (0, (0, (0, (0, ()))))).2.1).toNat 0))) ((List.getD s30 (s31).toNat (0, (0, (0, (0, ()))))).1).toNat 0)) (List.getD s30 (s31).toNat (0, (0, (0, (0, ()))))).2.2.2.1)) w1
  else fail
  else fail
  else fail
  else fail
  else fail
  else fail
  else fail
  else fail
 else
 ex0 s30 s31 s7 s22 w w1
def Jj2 {X : Type} (F : Nat) (fail : X) (ex0 : List (Int × ZL) → Int → Int → Int → ZW → ZW → X) : Nat → List (Int × ZL) → Int → Int → Int → ZW → ZW → X
 | 0, _, _, _, _, _, _ => fail
 | m + 1, s30, s31, s7, s22, w, w1 => Kb5 F fail (Jj2 F fail ex0 m) ex0 s30 s31 s7 s22 w w1
def Kb6 {X : Type} (F : Nat) (fail : X) (next ex0 : Int → Int → ZW → ZW → X) (s7 s22 : Int) (change w : ZW) : X :=
 bif (decide (s22 < 4)) then
  Jj2 F fail
   (fun s30 s31 s71 s221 w1 w2 =>
    next s71 (Jar s221 1) w1 w2)
   F ([(s22, ((Jar 4 (Jcz (Jar s22 1) 4)), ((Jar 12 (Jcz (Jar s22 3) 4)), (16, ())))), ((Jar 8 (Jcz (Jar s22 2) 4)), ((Jar 12 (Jcz (Jar s22 3) 4)), ((Jar 4 (Jcz (Jar s22 1) 4)), (12, ())))), (s22, ((Jar 4 (Jcz (Jar s22 1) 4)), ((Jar 12 (Jcz (Jar s22 3) 4)), (8, ())))), ((Jar 8 (Jcz (Jar s22 2) 4)), ((Jar 12 (Jcz (Jar s22 3) 4)), ((Jar 4 (Jcz (Jar s22 1) 4)), (7, ()))))] : List (Int × ZL)) 0 s7 s22 change w
 else
 ex0 s7 s22 change w
def Jop {X : Type} (F : Nat) (fail : X) (ex0 : Int → Int → ZW → ZW → X) : Nat → Int → Int → ZW → ZW → X
 | 0, _, _, _, _ => fail
 | m + 1, s7, s22, change, w => Kb6 F fail (Jop F fail ex0 m) ex0 s7 s22 change w
def Kb7 {X : Type} (F : Nat) (fail : X) (next ex0 : Int → ZW → ZW → X) (s7 : Int) (change w : ZW) : X :=
 bif (decide (s7 < 10)) then
  Joo F fail
   (fun s71 s9 change1 w1 =>
    Jop F fail
     (fun s72 s22 change2 w2 =>
      next (Jar s72 1) change2 w2)
     F s71 0 change1 w1)
   F s7 0 change w
 else
 ex0 s7 change w
def Jse {X : Type} (F : Nat) (fail : X) (ex0 : Int → ZW → ZW → X) : Nat → Int → ZW → ZW → X
 | 0, _, _, _ => fail
 | m + 1, s7, change, w => Kb7 F fail (Jse F fail ex0 m) ex0 s7 change w
def Kb8 {X : Type} (F : Nat) (fail : X) (next ex0 : ZW → Int → ZW → ZB → X) (s18 : ZW) (s19 : Int) (w : ZW) (out : ZB) : X :=
 bif (decide (s19 < 16)) then
  bif ((decide (0 ≤ s19)) && (decide (s19 < (16 : Int)))) then
  bif ((decide (0 ≤ s19)) && (decide (s19 < (16 : Int)))) then
  bif (decide ((out ++ ([(J3n (Jc0 (List.getD s18 (s19).toNat (0 : UInt32)) (List.getD w (s19).toNat (0 : UInt32)))), (J3n (Jr1 (Jc0 (List.getD s18 (s19).toNat (0 : UInt32)) (List.getD w (s19).toNat (0 : UInt32))) (8 : Int))), (J3n (Jr1 (Jc0 (List.getD s18 (s19).toNat (0 : UInt32)) (List.getD w (s19).toNat (0 : UInt32))) (16 : Int))), (J3n (Jr1 (Jc0 (List.getD s18 (s19).toNat (0 : UInt32)) (List.getD w (s19).toNat (0 : UInt32))) (24 : Int)))] : ZB)).length ≤ big)) then
  next s18 (Jar s19 (1 : Int)) w (out ++ ([(J3n (Jc0 (List.getD s18 (s19).toNat (0 : UInt32)) (List.getD w (s19).toNat (0 : UInt32)))), (J3n (Jr1 (Jc0 (List.getD s18 (s19).toNat (0 : UInt32)) (List.getD w (s19).toNat (0 : UInt32))) (8 : Int))), (J3n (Jr1 (Jc0 (List.getD s18 (s19).toNat (0 : UInt32)) (List.getD w (s19).toNat (0 : UInt32))) (16 : Int))), (J3n (Jr1 (Jc0 (List.getD s18 (s19).toNat (0 : UInt32)) (List.getD w (s19).toNat (0 : UInt32))) (24 : Int)))] : ZB))
  else fail
  else fail
  else fail
 else
 ex0 s18 s19 w out
def Jsf {X : Type} (F : Nat) (fail : X) (ex0 : ZW → Int → ZW → ZB → X) : Nat → ZW → Int → ZW → ZB → X
 | 0, _, _, _, _ => fail
 | m + 1, s18, s19, w, out => Kb8 F fail (Jsf F fail ex0 m) ex0 s18 s19 w out
def cBlk {X : Type} (F : Nat) (key : ZB) (nonce counter : Int) (fail : X) (ret : ZB → X) : X :=
 bif (J10 key nonce counter) then
 Jse F fail
  (fun s7 change w =>
   Jsf F fail
    (fun s18 s19 w1 out =>
     ret out)
    F change 0 w ([] : ZB))
  F 0 (J11 key nonce counter) (J11 key nonce counter)
 else fail
def Kyd {X : Type} (F : Nat) (nonce : Int) (fail : X) (ret : Bool → X) : X :=
 bif (decide (nonce ≥ 0)) then
  ret (decide (nonce ≤ 9007199254740991))
 else
 ret false
def Jsg {X : Type} (F : Nat) (fail : X) (next ex0 : Nat → Nat → Int → Int → Int → ZB → Int → Int → ZB → ZB → ZB → Int → Int → X) (part_i part_n : Nat) (s31 s32 i : Int) (b : ZB) (s7 counter : Int) (part s key : ZB) (nonce s2 : Int) : X :=
 bif (decide (s32 < s31)) then
  bif ((decide (0 ≤ s32)) && (decide (s32 < ((part_n : Nat) : Int)))) then
  bif ((decide (0 ≤ s32)) && (decide (s32 < (s.length : Int)))) then
  bif ((decide (0 ≤ s32)) && (decide (s32 < ((part_n : Nat) : Int)))) then
  next part_i part_n s31 (Jar s32 1) i b s7 counter (List.set part (part_i + (s32).toNat) (J6p (List.getD part (part_i + (s32).toNat) 0) (List.getD s (s32).toNat 0))) s key nonce s2
  else fail
  else fail
  else fail
 else
 ex0 part_i part_n s31 s32 i b s7 counter part s key nonce s2
def Jig {X : Type} (F : Nat) (fail : X) (ex0 : Nat → Nat → Int → Int → Int → ZB → Int → Int → ZB → ZB → ZB → Int → Int → X) : Nat → Nat → Nat → Int → Int → Int → ZB → Int → Int → ZB → ZB → ZB → Int → Int → X
 | 0, _, _, _, _, _, _, _, _, _, _, _, _, _ => fail
 | m + 1, part_i, part_n, s31, s32, i, b, s7, counter, part, s, key, nonce, s2 => Jsg F fail (Jig F fail ex0 m) ex0 part_i part_n s31 s32 i b s7 counter part s key nonce s2
def Jm6 {X : Type} (F : Nat) (fail : X) (next ex0 : Int → ZB → Int → ZB → Int → Int → ZB → Int → X) (i : Int) (b : ZB) (s7 : Int) (key : ZB) (nonce counter : Int) (out : ZB) (s2 : Int) : X :=
 bif (decide (i < (out.length : Int))) then
  bif ((decide (0 ≤ i)) && (decide (i ≤ (out.length : Int)))) then
  bif ((((decide (0 ≤ i)) && (decide (i ≤ (Jar i (Kbi s2 (((out.length - (i).toNat) : Nat) : Int)))))) && (decide ((Jar i (Kbi s2 (((out.length - (i).toNat) : Nat) : Int))) ≤ (out.length : Int)))) && ((Jar i (Kbi s2 (((out.length - (i).toNat) : Nat) : Int))) == (Jar i (Kbi s2 (((out.length - (i).toNat) : Nat) : Int))))) then
  bif (Kq6 key nonce counter) then
  Jig F fail
   (fun part_i part_n s31 s32 i1 b1 s71 counter1 part s Jpz nonce1 s21 =>
    next (Jar i1 s21) b1 s71 Jpz nonce1 (Jar counter1 1) part s21)
   F (i).toNat (((Jar i (Kbi s2 (((out.length - (i).toNat) : Nat) : Int)))).toNat - (i).toNat) (((((Jar i (Kbi s2 (((out.length - (i).toNat) : Nat) : Int)))).toNat - (i).toNat) : Nat) : Int) 0 i b s7 counter out (Kq7 key nonce counter) key nonce s2
  else fail
  else fail
  else fail
 else
 ex0 i b s7 key nonce counter out s2
def Jgk {X : Type} (F : Nat) (fail : X) (ex0 : Int → ZB → Int → ZB → Int → Int → ZB → Int → X) : Nat → Int → ZB → Int → ZB → Int → Int → ZB → Int → X
 | 0, _, _, _, _, _, _, _, _ => fail
 | m + 1, i, b, s7, key, nonce, counter, out, s2 => Jm6 F fail (Jgk F fail ex0 m) ex0 i b s7 key nonce counter out s2
def Kmd {X : Type} (F : Nat) (key : ZB) (nonce : Int) (b : ZB) (fail : X) (ret : ZB → Int → X) : X :=
 bif (decide ((b.length : Int) > 65536)) then
  ret ([] : ZB) 5
 else
 bif (!(Jn8 nonce)) then
  ret ([] : ZB) 2
 else
 bif (Jbh b) then
 Jgk F fail
  (fun i b1 s7 Jpz nonce1 counter out s2 =>
   ret out 0)
  F 0 b 0 key nonce 1 (Jb7 b) 64
 else fail
end Go.AI
namespace Go.AI
open Go
set_option linter.unusedVariables false
def Jyp {X : Type} (F : Nat) (fail : X) (next ex0 : UInt32 → Int → X) (register : UInt32) (s4 : Int) : X :=
 bif (decide (s4 < 8)) then
  bif (((((J3m register 1)).toNat : Nat) : Int) == 1) then
   next (Jmf (Jr1 register 1) 3988292384) (Jar s4 1)
  else
  next (Jr1 register 1) (Jar s4 1)
 else
 ex0 register s4
def Jk3 {X : Type} (F : Nat) (fail : X) (ex0 : UInt32 → Int → X) : Nat → UInt32 → Int → X
 | 0, _, _ => fail
 | m + 1, register, s4 => Jyp F fail (Jk3 F fail ex0 m) ex0 register s4
def Kme {X : Type} (F : Nat) (register : UInt32) (fail : X) (ret : UInt32 → X) : X :=
 Jk3 F fail
  (fun register1 s4 =>
   ret register1)
  F register 0
def J34 {X : Type} (F : Nat) (fail : X) (next ex0 : Int → ZW → ZW → X) (s3 : Int) (s0 out : ZW) : X :=
 bif (decide (s3 < 256)) then
  bif (Jv9 (Kvv s3)) then
  bif ((decide (0 ≤ s3)) && (decide (s3 < (256 : Int)))) then
  next (Jar s3 1) s0 (List.set out (s3).toNat (Jiz (Kvv s3)))
  else fail
  else fail
 else
 ex0 s3 s0 out
def Jm7 {X : Type} (F : Nat) (fail : X) (ex0 : Int → ZW → ZW → X) : Nat → Int → ZW → ZW → X
 | 0, _, _, _ => fail
 | m + 1, s3, s0, out => J34 F fail (Jm7 F fail ex0 m) ex0 s3 s0 out
def Kye {X : Type} (F : Nat) (fail : X) (ret : ZW → X) : X :=
 Jm7 F fail
  (fun s3 s0 out =>
   ret out)
  F (0 : Int) (List.replicate 256 (0 : UInt32)) (List.replicate 256 (0 : UInt32))
def Kb9 {X : Type} (F : Nat) (fail : X) (next ex0 : ZB → Int → Int → UInt32 → UInt32 → UInt32 → ZW → ZB → X) (s5 : ZB) (s6 s7 : Int) (s4 s61 register : UInt32) (t : ZW) (bytes : ZB) : X :=
 bif (decide (s7 < s6)) then
  bif ((decide (0 ≤ s7)) && (decide (s7 < (s5.length : Int)))) then
  bif ((decide (0 ≤ ((((J6p (J3n register) (List.getD s5 (s7).toNat 0))).toNat : Nat) : Int))) && (decide (((((J6p (J3n register) (List.getD s5 (s7).toNat 0))).toNat : Nat) : Int) < (256 : Int)))) then
  next s5 s6 (Jar s7 1) s4 s61 (Jmf (Jr1 register 8) (List.getD t ((J6p (J3n register) (List.getD s5 (s7).toNat 0))).toNat 0)) t bytes
  else fail
  else fail
 else
 ex0 s5 s6 s7 s4 s61 register t bytes
def Jsh {X : Type} (F : Nat) (fail : X) (ex0 : ZB → Int → Int → UInt32 → UInt32 → UInt32 → ZW → ZB → X) : Nat → ZB → Int → Int → UInt32 → UInt32 → UInt32 → ZW → ZB → X
 | 0, _, _, _, _, _, _, _, _ => fail
 | m + 1, s5, s6, s7, s4, s61, register, t, bytes => Kb9 F fail (Jsh F fail ex0 m) ex0 s5 s6 s7 s4 s61 register t bytes
def cUpd {X : Type} (F : Nat) (sum : UInt32) (b : ZB) (fail : X) (ret : UInt32 → X) : X :=
 bif (J12) then
 Jsh F fail
  (fun s5 s6 s7 s4 s61 register t bytes =>
   ret (K3m register))
  F b (b.length : Int) 0 0 (K3m sum) (K3m sum) (Jjs) b
 else fail
def cSum {X : Type} (F : Nat) (b : ZB) (fail : X) (ret : UInt32 → X) : X :=
 bif (Kgp 0 b) then
 ret (Kq8 0 b)
 else fail
def Kyf {X : Type} (F : Nat) (length : Int) (fail : X) (ret : Int → X) : X :=
 ret (quoI (Jdo (Jar length 15) 1) 15)
def Kyg {X : Type} (F : Nat) (length : Int) (fail : X) (ret : Int → X) : X :=
 bif (decide (length < 0)) then
  ret 0
 else
 bif (decide (length > 65536)) then
  ret 0
 else
 bif (Jjt length) then
 ret (Jar (Jju length) 1)
 else fail
def Kyh {X : Type} (F : Nat) (l : ZL) (fail : X) (ret : Int → X) : X :=
 bif (decide (l.2.2.1 < 2)) then
  ret 2
 else
 bif (decide (l.2.2.1 > 8192)) then
  bif (decide (l.2.2.1 > 8192)) then
   ret 2
  else
  bif (decide (l.2.1 < 0)) then
   ret 3
  else
  bif (decide (l.2.1 ≥ l.1)) then
   ret 3
  else
  ret 0
 else
 bif (decide (l.1 < 1)) then
  ret 2
 else
 bif (decide (l.1 > l.2.2.1)) then
  ret 2
 else
 bif (decide (l.2.1 < 0)) then
  ret 3
 else
 bif (decide (l.2.1 ≥ l.1)) then
  ret 3
 else
 ret 0
def Qae {X : Type} (F : Nat) (fail : X) (ret : ZB → X) : X :=
 ret ((([(3 : UInt8)] : ZB) ++ (List.take (min ([(99 : UInt8), (111 : UInt8), (109 : UInt8), (112 : UInt8), (97 : UInt8), (99 : UInt8), (116 : UInt8), (111 : UInt8), (114 : UInt8), (32 : UInt8), (108 : UInt8), (111 : UInt8), (103 : UInt8), (32 : UInt8), (49 : UInt8)] : ZB).length 15) ([(99 : UInt8), (111 : UInt8), (109 : UInt8), (112 : UInt8), (97 : UInt8), (99 : UInt8), (116 : UInt8), (111 : UInt8), (114 : UInt8), (32 : UInt8), (108 : UInt8), (111 : UInt8), (103 : UInt8), (32 : UInt8), (49 : UInt8)] : ZB))) ++ (List.drop (1 + (min ([(99 : UInt8), (111 : UInt8), (109 : UInt8), (112 : UInt8), (97 : UInt8), (99 : UInt8), (116 : UInt8), (111 : UInt8), (114 : UInt8), (32 : UInt8), (108 : UInt8), (111 : UInt8), (103 : UInt8), (32 : UInt8), (49 : UInt8)] : ZB).length 15)) ([(3 : UInt8), (0 : UInt8), (0 : UInt8), (0 : UInt8), (0 : UInt8), (0 : UInt8), (0 : UInt8), (0 : UInt8), (0 : UInt8), (0 : UInt8), (0 : UInt8), (0 : UInt8), (0 : UInt8), (0 : UInt8), (0 : UInt8), (0 : UInt8)] : ZB)))
def Jwn {X : Type} (F : Nat) (fail : X) (next ex0 : Int → ZB → Int → Int → X) (n : Int) (s6 : ZB) (s7 s8 : Int) : X :=
 bif (decide (s8 < s7)) then
  bif ((decide (0 ≤ s8)) && (decide (s8 < (s6.length : Int)))) then
  next (orI (K7b n 8) (Jfv (List.getD s6 (s8).toNat 0))) s6 s7 (Jar s8 1)
  else fail
 else
 ex0 n s6 s7 s8
def Jkj {X : Type} (F : Nat) (fail : X) (ex0 : Int → ZB → Int → Int → X) : Nat → Int → ZB → Int → Int → X
 | 0, _, _, _, _ => fail
 | m + 1, n, s6, s7, s8 => Jwn F fail (Jkj F fail ex0 m) ex0 n s6 s7 s8
def Kyi {X : Type} (F : Nat) (from_ : ZB) (fail : X) (ret : Int → X) : X :=
 Jkj F fail
  (fun n s6 s7 s8 =>
   ret n)
  F 0 from_ (from_.length : Int) 0
def Kca {X : Type} (F : Nat) (fail : X) (next ex0 : Nat → Nat → Int → Int → Int → ZB → ZB → ZB → X) (to_i to_n : Nat) (n s6 s7 : Int) (payload to s4 : ZB) : X :=
 bif (decide (s7 < s6)) then
  bif (decide (0 ≤ (Jlu 8 s7))) then
  bif ((decide (0 ≤ (Jdo (Jdo ((to_n : Nat) : Int) 1) s7))) && (decide ((Jdo (Jdo ((to_n : Nat) : Int) 1) s7) < ((to_n : Nat) : Int)))) then
  next to_i to_n n s6 (Jar s7 1) payload (List.set to (to_i + ((Jdo (Jdo ((to_n : Nat) : Int) 1) s7)).toNat) (Klz (Kgm n (Jlu 8 s7)))) s4
  else fail
  else fail
 else
 ex0 to_i to_n n s6 s7 payload to s4
def Joq {X : Type} (F : Nat) (fail : X) (ex0 : Nat → Nat → Int → Int → Int → ZB → ZB → ZB → X) : Nat → Nat → Nat → Int → Int → Int → ZB → ZB → ZB → X
 | 0, _, _, _, _, _, _, _, _ => fail
 | m + 1, to_i, to_n, n, s6, s7, payload, to, s4 => Kca F fail (Joq F fail ex0 m) ex0 to_i to_n n s6 s7 payload to s4
def Kcb {X : Type} (F : Nat) (fail : X) (next ex0 : Nat → Nat → Int → Int → Int → ZB → Nat → Nat → ZB → ZB → X) (to_i to_n : Nat) (n s6 s7 : Int) (payload : ZB) (s10_i s10_n : Nat) (to s4 : ZB) : X :=
 bif (decide (s7 < s6)) then
  bif (decide (0 ≤ (Jlu 8 s7))) then
  bif ((decide (0 ≤ (Jdo (Jdo ((to_n : Nat) : Int) 1) s7))) && (decide ((Jdo (Jdo ((to_n : Nat) : Int) 1) s7) < ((to_n : Nat) : Int)))) then
  next to_i to_n n s6 (Jar s7 1) payload s10_i s10_n (List.set to (to_i + ((Jdo (Jdo ((to_n : Nat) : Int) 1) s7)).toNat) (Klz (Kgm n (Jlu 8 s7)))) s4
  else fail
  else fail
 else
 ex0 to_i to_n n s6 s7 payload s10_i s10_n to s4
def Jl7 {X : Type} (F : Nat) (fail : X) (ex0 : Nat → Nat → Int → Int → Int → ZB → Nat → Nat → ZB → ZB → X) : Nat → Nat → Nat → Int → Int → Int → ZB → Nat → Nat → ZB → ZB → X
 | 0, _, _, _, _, _, _, _, _, _, _ => fail
 | m + 1, to_i, to_n, n, s6, s7, payload, s10_i, s10_n, to, s4 => Kcb F fail (Jl7 F fail ex0 m) ex0 to_i to_n n s6 s7 payload s10_i s10_n to s4
def Kcc {X : Type} (F : Nat) (fail : X) (next ex0 : Nat → Nat → Int → Int → Int → ZB → Nat → Nat → Nat → Nat → ZB → ZB → X) (to_i to_n : Nat) (n s6 s7 : Int) (payload : ZB) (s10_i s10_n s19_i s19_n : Nat) (to s4 : ZB) : X :=
 bif (decide (s7 < s6)) then
  bif (decide (0 ≤ (Jlu 8 s7))) then
  bif ((decide (0 ≤ (Jdo (Jdo ((to_n : Nat) : Int) 1) s7))) && (decide ((Jdo (Jdo ((to_n : Nat) : Int) 1) s7) < ((to_n : Nat) : Int)))) then
  next to_i to_n n s6 (Jar s7 1) payload s10_i s10_n s19_i s19_n (List.set to (to_i + ((Jdo (Jdo ((to_n : Nat) : Int) 1) s7)).toNat) (Klz (Kgm n (Jlu 8 s7)))) s4
  else fail
  else fail
 else
 ex0 to_i to_n n s6 s7 payload s10_i s10_n s19_i s19_n to s4
def Jor {X : Type} (F : Nat) (fail : X) (ex0 : Nat → Nat → Int → Int → Int → ZB → Nat → Nat → Nat → Nat → ZB → ZB → X) : Nat → Nat → Nat → Int → Int → Int → ZB → Nat → Nat → Nat → Nat → ZB → ZB → X
 | 0, _, _, _, _, _, _, _, _, _, _, _, _ => fail
 | m + 1, to_i, to_n, n, s6, s7, payload, s10_i, s10_n, s19_i, s19_n, to, s4 => Kcc F fail (Jor F fail ex0 m) ex0 to_i to_n n s6 s7 payload s10_i s10_n s19_i s19_n to s4
def lEnd {X : Type} (F : Nat) (payload : ZB) (commits : Int) (fail : X) (ret : ZB → X) : X :=
 Joq F fail
  (fun to_i to_n n s6 s7 payload1 to s4 =>
   bif (Jjt (payload1.length : Int)) then
   Jl7 F fail
    (fun to_i1 to_n1 n1 s61 s71 payload2 s10_i s10_n to1 s41 =>
     Jl7 F fail
      (fun to_i2 to_n2 n2 s62 s72 payload3 s10_i1 s10_n1 to2 s42 =>
       bif (J84 payload3) then
       Jor F fail
        (fun to_i3 to_n3 n3 s63 s73 payload4 s10_i2 s10_n2 s19_i s19_n to3 s43 =>
         ret to3)
        F 12 4 (cvWI (J85 payload3)) 4 0 payload3 s10_i1 s10_n1 12 4 to2 s42
       else fail)
      F 8 4 (payload2.length : Int) 4 0 payload2 s10_i s10_n to1 s41)
    F 5 3 (Jju (payload1.length : Int)) 3 0 payload1 5 3 to s4
   else fail)
  F 1 4 commits 4 0 payload ([2, 0, 0, 0, 0, 0, 0, 0, 0, 0, 0, 0, 0, 0, 0, 0] : ZB) z16
def K5u {X : Type} (F : Nat) (at_ : Int) (l : List ZB) (fail : X) (ret : (Int × (Int × ((List ZB) × Unit))) → X) : X :=
 ret (0, (at_, (l, ())))
def Qaf {X : Type} (F : Nat) (fail : X) (ret : (Int × (Int × ((List ZB) × Unit))) → X) : X :=
 ret (1, (0, (([] : List ZB), ())))
def J17 {X : Type} (F : Nat) (fail : X) (next ex0 ex1 : ZB → Int → Int → Int → X) (s : ZB) (s4 s7 s8 : Int) : X :=
 bif (decide (s8 < s7)) then
  bif ((decide (0 ≤ s8)) && (decide (s8 < (s.length : Int)))) then
  bif (((((List.getD s (s8).toNat 0)).toNat : Nat) : Int) != 0) then
   ex0 s s8 s7 s8
  else
  next s s4 s7 (Jar s8 1)
  else fail
 else
 ex1 s s4 s7 s8
def Jm8 {X : Type} (F : Nat) (fail : X) (ex0 ex1 : ZB → Int → Int → Int → X) : Nat → ZB → Int → Int → Int → X
 | 0, _, _, _, _ => fail
 | m + 1, s, s4, s7, s8 => J17 F fail (Jm8 F fail ex0 ex1 m) ex0 ex1 s s4 s7 s8
def K7q {X : Type} (F : Nat) (s : ZB) (fail : X) (ret : Bool → X) : X :=
 Jm8 F fail
  (fun s1 s4 s7 s8 =>
   ret (decide (s4 ≥ 0)))
  (fun s2 s41 s71 s81 =>
   ret false)
  F s 0 (s.length : Int) 0
def Kmf {X : Type} (F : Nat) (size : Int) (fail : X) (ret : ZL → List (Int × (Int × ((List ZB) × Unit))) → Int → X) : X :=
 bif (decide (size < 2)) then
  ret (0, (0, (0, ()))) ([] : List (Int × (Int × ((List ZB) × Unit)))) 2
 else
 bif (decide (size > 8192)) then
  ret (0, (0, (0, ()))) ([] : List (Int × (Int × ((List ZB) × Unit)))) 2
 else
 bif (((decide (0 ≤ size)) && true) && (decide (size ≤ ((big : Nat) : Int)))) then
 bif (Jjw (0 : Int) (List.replicate (size).toNat z16)) then
 bif (Job) then
 bif (J3v) then
 bif (Jjw 0 ([(Jyh)] : List ZB)) then
 bif (Job) then
 ret ((1 : Int), ((0 : Int), (size, ()))) ([(Jjx (0 : Int) (List.replicate (size).toNat z16)), (Joc), (Jjx (0 : Int) ([(Jyh)] : List ZB)), (Joc)] : List (Int × (Int × ((List ZB) × Unit)))) (0 : Int)
 else fail
 else fail
 else fail
 else fail
 else fail
 else fail
def Jsi {X : Type} (F : Nat) (fail : X) (next ex0 : Int → ZB → Int → Int → List ZB → ZB → Int → ZL → ZL → X) (i : Int) (payload : ZB) (s6 n : Int) (parts : List ZB) (s1 : ZB) (s2 : Int) (l s4 : ZL) : X :=
 bif (decide (i < (s1.length : Int))) then
  bif ((decide (0 ≤ i)) && (decide (i ≤ (s1.length : Int)))) then
  bif ((((decide (0 ≤ i)) && (decide (i ≤ (Jar i (Kbi s2 (((List.drop (i).toNat s1).length : Nat) : Int)))))) && (decide ((Jar i (Kbi s2 (((List.drop (i).toNat s1).length : Nat) : Int))) ≤ (s1.length : Int)))) && ((Jar i (Kbi s2 (((List.drop (i).toNat s1).length : Nat) : Int))) == (Jar i (Kbi s2 (((List.drop (i).toNat s1).length : Nat) : Int))))) then
  bif (decide ((parts ++ ([((([(1 : UInt8)] : ZB) ++ (List.take (min (List.drop (i).toNat (List.take ((Jar i (Kbi s2 (((List.drop (i).toNat s1).length : Nat) : Int)))).toNat s1)).length 15) (List.drop (i).toNat (List.take ((Jar i (Kbi s2 (((List.drop (i).toNat s1).length : Nat) : Int)))).toNat s1)))) ++ (List.drop (1 + (min (List.drop (i).toNat (List.take ((Jar i (Kbi s2 (((List.drop (i).toNat s1).length : Nat) : Int)))).toNat s1)).length 15)) ([(1 : UInt8), (0 : UInt8), (0 : UInt8), (0 : UInt8), (0 : UInt8), (0 : UInt8), (0 : UInt8), (0 : UInt8), (0 : UInt8), (0 : UInt8), (0 : UInt8), (0 : UInt8), (0 : UInt8), (0 : UInt8), (0 : UInt8), (0 : UInt8)] : ZB)))] : List ZB)).length ≤ big)) then
  next (Jar i s2) payload s6 n (parts ++ ([((([(1 : UInt8)] : ZB) ++ (List.take (min (List.drop (i).toNat (List.take ((Jar i (Kbi s2 (((List.drop (i).toNat s1).length : Nat) : Int)))).toNat s1)).length 15) (List.drop (i).toNat (List.take ((Jar i (Kbi s2 (((List.drop (i).toNat s1).length : Nat) : Int)))).toNat s1)))) ++ (List.drop (1 + (min (List.drop (i).toNat (List.take ((Jar i (Kbi s2 (((List.drop (i).toNat s1).length : Nat) : Int)))).toNat s1)).length 15)) ([(1 : UInt8), (0 : UInt8), (0 : UInt8), (0 : UInt8), (0 : UInt8), (0 : UInt8), (0 : UInt8), (0 : UInt8), (0 : UInt8), (0 : UInt8), (0 : UInt8), (0 : UInt8), (0 : UInt8), (0 : UInt8), (0 : UInt8), (0 : UInt8)] : ZB)))] : List ZB)) s1 s2 l s4
  else fail
  else fail
  else fail
 else
 ex0 i payload s6 n parts s1 s2 l s4
def Jih {X : Type} (F : Nat) (fail : X) (ex0 : Int → ZB → Int → Int → List ZB → ZB → Int → ZL → ZL → X) : Nat → Int → ZB → Int → Int → List ZB → ZB → Int → ZL → ZL → X
 | 0, _, _, _, _, _, _, _, _, _ => fail
 | m + 1, i, payload, s6, n, parts, s1, s2, l, s4 => Jsi F fail (Jih F fail ex0 m) ex0 i payload s6 n parts s1 s2 l s4
def Kmg {X : Type} (F : Nat) (l : ZL) (payload : ZB) (fail : X) (ret : ZL → List (Int × (Int × ((List ZB) × Unit))) → Int → X) : X :=
 bif ((Jjv l) != 0) then
  ret (0, (0, (0, ()))) ([] : List (Int × (Int × ((List ZB) × Unit)))) (Jjv l)
 else
 bif (J13 (payload.length : Int)) then
 bif (decide ((payload.length : Int) > 65536)) then
  ret (0, (0, (0, ()))) ([] : List (Int × (Int × ((List ZB) × Unit)))) 5
 else
 bif (decide ((Jiq (payload.length : Int)) > (Jdo l.2.2.1 l.1))) then
  ret (0, (0, (0, ()))) ([] : List (Int × (Int × ((List ZB) × Unit)))) 11
 else
 bif (decide ((Jiq (payload.length : Int)) > 1)) then
  Jih F fail
   (fun i payload1 s6 n parts s1 s2 l1 s4 =>
    bif (Jjw l1.1 parts) then
    bif (Job) then
    bif (J3w payload1 (Jar l1.2.1 1)) then
    bif (Jjw (Jdo (Jar l1.1 n) 1) ([(Jwa payload1 (Jar l1.2.1 1))] : List ZB)) then
    bif (Job) then
    ret ((Jar l1.1 n), ((Jar l1.2.1 1), (l1.2.2.1, ()))) ([(Jjx l1.1 parts), (Joc), (Jjx (Jdo (Jar l1.1 n) 1) ([(Jwa payload1 (Jar l1.2.1 1))] : List ZB)), (Joc)] : List (Int × (Int × ((List ZB) × Unit)))) 0
    else fail
    else fail
    else fail
    else fail
    else fail)
   F 0 payload 0 (Jiq (payload.length : Int)) ([] : List ZB) payload 15 l (0, (0, (0, ())))
 else
 bif (J3w payload (Jar l.2.1 1)) then
 bif (Jjw (Jdo (Jar l.1 (Jiq (payload.length : Int))) 1) ([(Jwa payload (Jar l.2.1 1))] : List ZB)) then
 bif (Job) then
 ret ((Jar l.1 (Jiq (payload.length : Int))), ((Jar l.2.1 1), (l.2.2.1, ()))) ([(Jjx (Jdo (Jar l.1 (Jiq (payload.length : Int))) 1) ([(Jwa payload (Jar l.2.1 1))] : List ZB)), (Joc)] : List (Int × (Int × ((List ZB) × Unit)))) 0
 else fail
 else fail
 else fail
 else fail
def J18 {X : Type} (F : Nat) (fail : X) (next ex0 ex1 : Int → Int → List ZB → Int → Int → Int → ((List ZB) × Unit) → ZB → Bool → ZB → List ZB → X) (number count : Int) (l : List ZB) (first s5 left : Int) (r : ((List ZB) × Unit)) (payload : ZB) (ok : Bool) (p : ZB) (out : List ZB) : X :=
 bif (((((List.getD p 0 0)).toNat : Nat) : Int) == 1) then
  bif (decide ((payload ++ (List.take 15 (List.drop 1 p))).length ≤ big)) then
  bif (!(decide (((r.1.length : Nat) : Int) > 0))) then
   ex0 number (Jar count (1 : Int)) l first s5 left r (payload ++ (List.take 15 (List.drop 1 p))) ok p out
  else
  bif (decide (0 < ((r.1.length : Nat) : Int))) then
  bif (decide (1 ≤ ((r.1.length : Nat) : Int))) then
  next number (Jar count (1 : Int)) l first s5 left ((List.drop 1 r.1), r.2) (payload ++ (List.take 15 (List.drop 1 p))) ok (List.getD r.1 0 z16) out
  else fail
  else fail
  else fail
 else
 ex1 number count l first s5 left r payload ok p out
def Jm9 {X : Type} (F : Nat) (fail : X) (ex0 ex1 : Int → Int → List ZB → Int → Int → Int → ((List ZB) × Unit) → ZB → Bool → ZB → List ZB → X) : Nat → Int → Int → List ZB → Int → Int → Int → ((List ZB) × Unit) → ZB → Bool → ZB → List ZB → X
 | 0, _, _, _, _, _, _, _, _, _, _, _ => fail
 | m + 1, number, count, l, first, s5, left, r, payload, ok, p, out => J18 F fail (Jm9 F fail ex0 ex1 m) ex0 ex1 number count l first s5 left r payload ok p out
def J19 {X : Type} (F : Nat) (fail : X) (next ex0 : List ZB → Int → Int → List ZB → ((List ZB) × Unit) → X) (l : List ZB) (first s5 : Int) (out : List ZB) (r : ((List ZB) × Unit)) : X :=
 bif (!(decide (((r.1.length : Nat) : Int) > 0))) then
  ex0 l first (Jdo (l.length : Int) ((r.1.length : Nat) : Int)) out r
 else
 bif (decide (0 < ((r.1.length : Nat) : Int))) then
 bif (decide (1 ≤ ((r.1.length : Nat) : Int))) then
 Jm9 F fail
  (fun number count l1 first1 s51 left r1 payload ok p out1 =>
   ex0 l1 first1 (Jdo (l1.length : Int) left) out1 r1)
  (fun number1 count1 l2 first2 s52 left1 r2 payload1 ok1 p1 out2 =>
   bif (Jl2 (List.take 4 (List.drop 8 p1))) then
   bif (((((List.getD p1 0 0)).toNat : Nat) : Int) == 2) then
    bif (Jl2 (List.take 4 (List.drop 1 p1))) then
    bif ((Jb8 (List.take 4 (List.drop 1 p1))) == number1) then
     bif (Jl2 (List.take 3 (List.drop 5 p1))) then
     bif ((Jb8 (List.take 3 (List.drop 5 p1))) == count1) then
      bif (decide ((Jb8 (List.take 4 (List.drop 8 p1))) ≤ 65536)) then
       bif (Jjt (Jb8 (List.take 4 (List.drop 8 p1)))) then
       bif (!((Jju (Jb8 (List.take 4 (List.drop 8 p1)))) == count1)) then
        ex0 l2 first2 (Jdo (l2.length : Int) left1) out2 r2
       else
       bif ((decide (0 ≤ (Jb8 (List.take 4 (List.drop 8 p1))))) && (decide ((Jb8 (List.take 4 (List.drop 8 p1))) ≤ (payload1.length : Int)))) then
       bif (((decide (0 ≤ (Jb8 (List.take 4 (List.drop 8 p1))))) && (decide ((Jb8 (List.take 4 (List.drop 8 p1))) ≤ (payload1.length : Int)))) && ((Jb8 (List.take 4 (List.drop 8 p1))) == (Jb8 (List.take 4 (List.drop 8 p1))))) then
       bif (Ktx (List.take (payload1.length - ((Jb8 (List.take 4 (List.drop 8 p1)))).toNat) (List.drop ((Jb8 (List.take 4 (List.drop 8 p1)))).toNat payload1)) 73) then
       bif (!(Kty (List.take (payload1.length - ((Jb8 (List.take 4 (List.drop 8 p1)))).toNat) (List.drop ((Jb8 (List.take 4 (List.drop 8 p1)))).toNat payload1)) 73)) then
        bif (Jl2 (List.take 4 (List.drop 12 p1))) then
        bif (J84 (List.take ((Jb8 (List.take 4 (List.drop 8 p1)))).toNat payload1)) then
        bif (!((Jb8 (List.take 4 (List.drop 12 p1))) == (cvWI (J85 (List.take ((Jb8 (List.take 4 (List.drop 8 p1)))).toNat payload1))))) then
         ex0 l2 first2 (Jdo (l2.length : Int) left1) out2 r2
        else
        bif (decide ((out2 ++ ([(List.take ((Jb8 (List.take 4 (List.drop 8 p1)))).toNat payload1)] : List ZB)).length ≤ big)) then
        next l2 first2 s52 (out2 ++ ([(List.take ((Jb8 (List.take 4 (List.drop 8 p1)))).toNat payload1)] : List ZB)) r2
        else fail
        else fail
        else fail
       else
       ex0 l2 first2 (Jdo (l2.length : Int) left1) out2 r2
       else fail
       else fail
       else fail
       else fail
      else
      ex0 l2 first2 (Jdo (l2.length : Int) left1) out2 r2
     else
     ex0 l2 first2 (Jdo (l2.length : Int) left1) out2 r2
     else fail
    else
    ex0 l2 first2 (Jdo (l2.length : Int) left1) out2 r2
    else fail
   else
   ex0 l2 first2 (Jdo (l2.length : Int) left1) out2 r2
   else fail)
  F (Jar first (out.length : Int)) 0 l first s5 ((r.1.length : Nat) : Int) ((List.drop 1 r.1), r.2) ([] : ZB) false (List.getD r.1 0 z16) out
 else fail
 else fail
def Jna {X : Type} (F : Nat) (fail : X) (ex0 : List ZB → Int → Int → List ZB → ((List ZB) × Unit) → X) : Nat → List ZB → Int → Int → List ZB → ((List ZB) × Unit) → X
 | 0, _, _, _, _, _ => fail
 | m + 1, l, first, s5, out, r => J19 F fail (Jna F fail ex0 m) ex0 l first s5 out r
def K7r {X : Type} (F : Nat) (l : List ZB) (first : Int) (fail : X) (ret : List ZB → Int → X) : X :=
 bif (decide (first < 1)) then
  ret ([] : List ZB) 0
 else
 bif (decide (first > 8192)) then
  ret ([] : List ZB) 0
 else
 Jna F fail
  (fun l1 first1 s5 s4 r =>
   ret s4 s5)
  F l first 0 ([] : List ZB) (l, ())
def K7s {X : Type} (F : Nat) (d_ : ZD) (fail : X) (ret : ZL → List ZB → Int → X) : X :=
 bif (Kbp d_ 0 ((d_.1.length : Nat) : Int)) then
 bif ((Jr2 d_ 0 ((d_.1.length : Nat) : Int)) != 0) then
  ret (0, (0, (0, ()))) ([] : List ZB) (Jr2 d_ 0 ((d_.1.length : Nat) : Int))
 else
 bif (decide ((((Jd1 d_ 0 ((d_.1.length : Nat) : Int)).length : Nat) : Int) < 2)) then
  ret (0, (0, (0, ()))) ([] : List ZB) 2
 else
 bif (decide (0 < (((Jd1 d_ 0 ((d_.1.length : Nat) : Int)).length : Nat) : Int))) then
 bif (J3v) then
 bif (!(Jct (.arr 16 (.int .u8)) (List.getD (Jd1 d_ 0 ((d_.1.length : Nat) : Int)) 0 z16) (Jyh))) then
  ret (0, (0, (0, ()))) ([] : List ZB) 3
 else
 bif (decide (1 ≤ (((Jd1 d_ 0 ((d_.1.length : Nat) : Int)).length : Nat) : Int))) then
 bif (Jyj (List.take ((Jd1 d_ 0 ((d_.1.length : Nat) : Int)).length - 1) (List.drop 1 (Jd1 d_ 0 ((d_.1.length : Nat) : Int)))) 1) then
 ret ((Jar 1 (Jjy (List.take ((Jd1 d_ 0 ((d_.1.length : Nat) : Int)).length - 1) (List.drop 1 (Jd1 d_ 0 ((d_.1.length : Nat) : Int)))) 1)), ((((Jwc (List.take ((Jd1 d_ 0 ((d_.1.length : Nat) : Int)).length - 1) (List.drop 1 (Jd1 d_ 0 ((d_.1.length : Nat) : Int)))) 1).length : Nat) : Int), ((((Jd1 d_ 0 ((d_.1.length : Nat) : Int)).length : Nat) : Int), ()))) (Jwc (List.take ((Jd1 d_ 0 ((d_.1.length : Nat) : Int)).length - 1) (List.drop 1 (Jd1 d_ 0 ((d_.1.length : Nat) : Int)))) 1) 0
 else fail
 else fail
 else fail
 else fail
 else fail
end Go.AI
namespace Go.AI
open Go
set_option linter.unusedVariables false
def Jwo {X : Type} (F : Nat) (fail : X) (next ex0 ex1 : Int → List ZR → Int → Int → X) (s2 : Int) (s8 : List ZR) (s9 s10 : Int) : X :=
 bif (decide (s10 < s9)) then
  bif ((decide (0 ≤ s10)) && (decide (s10 < (s8.length : Int)))) then
  bif (decide ((List.getD s8 (s10).toNat (0, (([] : ZB), ()))).1 ≥ 1)) then
   bif (!(decide ((List.getD s8 (s10).toNat (0, (([] : ZB), ()))).1 ≤ 4))) then
    ex0 1 s8 s9 s10
   else
   bif (decide ((((List.getD s8 (s10).toNat (0, (([] : ZB), ()))).2.1.length : Nat) : Int) > 65536)) then
    ex0 5 s8 s9 s10
   else
   next s2 s8 s9 (Jar s10 1)
  else
  ex0 1 s8 s9 s10
  else fail
 else
 ex1 s2 s8 s9 s10
def Jkk {X : Type} (F : Nat) (fail : X) (ex0 ex1 : Int → List ZR → Int → Int → X) : Nat → Int → List ZR → Int → Int → X
 | 0, _, _, _, _ => fail
 | m + 1, s2, s8, s9, s10 => Jwo F fail (Jkk F fail ex0 ex1 m) ex0 ex1 s2 s8 s9 s10
def Kyj {X : Type} (F : Nat) (l : List ZR) (fail : X) (ret : Int → X) : X :=
 bif (decide ((l.length : Int) > 1024)) then
  ret 6
 else
 Jkk F fail
  (fun s2 s8 s9 s10 =>
   ret s2)
  (fun s21 s81 s91 s101 =>
   ret 0)
  F 0 l (l.length : Int) 0
def Kmh {X : Type} (F : Nat) (b : ZB) (x_ : Int) (fail : X) (ret : ZB → X) : X :=
 bif (Jfz b x_) then
 ret (Jjq b x_)
 else fail
def Kmi {X : Type} (F : Nat) (b x_ : ZB) (fail : X) (ret : ZB → X) : X :=
 bif (Jej b x_) then
 ret (Jhp b x_)
 else fail
def Jsj {X : Type} (F : Nat) (fail : X) (next ex0 : List ZR → Int → Int → ZB → X) (s16 : List ZR) (s17 s18 : Int) (b : ZB) : X :=
 bif (decide (s18 < s17)) then
  bif ((decide (0 ≤ s18)) && (decide (s18 < (s16.length : Int)))) then
  bif (Jof b 94 (List.getD s16 (s18).toNat (0, (([] : ZB), ()))).1) then
  bif (Jug (Jjc b 94 (List.getD s16 (s18).toNat (0, (([] : ZB), ()))).1) 96 (List.getD s16 (s18).toNat (0, (([] : ZB), ()))).2.1) then
  next s16 s17 (Jar s18 1) (Jqn (Jjc b 94 (List.getD s16 (s18).toNat (0, (([] : ZB), ()))).1) 96 (List.getD s16 (s18).toNat (0, (([] : ZB), ()))).2.1)
  else fail
  else fail
  else fail
 else
 ex0 s16 s17 s18 b
def Jfl {X : Type} (F : Nat) (fail : X) (ex0 : List ZR → Int → Int → ZB → X) : Nat → List ZR → Int → Int → ZB → X
 | 0, _, _, _, _ => fail
 | m + 1, s16, s17, s18, b => Jsj F fail (Jfl F fail ex0 m) ex0 s16 s17 s18 b
def Kmj {X : Type} (F : Nat) (l : List ZR) (fail : X) (ret : ZB → Int → X) : X :=
 bif (Jr8 l) then
 bif ((Jl5 l) != 0) then
  ret ([] : ZB) (Jl5 l)
 else
 bif (Jof ([] : ZB) 94 (l.length : Int)) then
 Jfl F fail
  (fun s16 s17 s18 b =>
   bif (decide ((b.length : Int) > 65536)) then
    ret ([] : ZB) 5
   else
   ret b 0)
  F l (l.length : Int) 0 (Jjc ([] : ZB) 94 (l.length : Int))
 else fail
 else fail
def Jsk {X : Type} (F : Nat) (fail : X) (next ex0 ex1 : Int → Int → Int → ZB → List ZR → X) (s3 s19 s20 : Int) (b : ZB) (out : List ZR) : X :=
 bif (decide (s20 < s19)) then
  bif (Jei b) then
  bif ((Ja9 b) == 0) then
   bif ((Ja9 b) != 0) then
    ex0 (Ja9 b) s19 s20 (Jam b) out
   else
   bif (decide ((Jap b) ≥ 1)) then
    bif (!(decide ((Jap b) ≤ 4))) then
     ex0 1 s19 s20 (Jam b) out
    else
    bif (Jfj (Jam b)) then
    bif ((Jcj (Jam b)) == 0) then
     bif ((Jcj (Jam b)) != 0) then
      ex0 (Jcj (Jam b)) s19 s20 (Jd4 (Jam b)) out
     else
     bif (decide ((out ++ ([((Jap b), ((Jd3 (Jam b)), ()))] : List ZR)).length ≤ big)) then
     next s3 s19 (Jar s20 (1 : Int)) (Jd4 (Jam b)) (out ++ ([((Jap b), ((Jd3 (Jam b)), ()))] : List ZR))
     else fail
    else
    bif ((Jcj (Jam b)) != 0) then
     ex0 (Jcj (Jam b)) s19 s20 (Jam b) out
    else
    bif (decide ((out ++ ([((Jap b), (([] : ZB), ()))] : List ZR)).length ≤ big)) then
    next s3 s19 (Jar s20 (1 : Int)) (Jam b) (out ++ ([((Jap b), (([] : ZB), ()))] : List ZR))
    else fail
    else fail
   else
   ex0 1 s19 s20 (Jam b) out
  else
  bif ((Ja9 b) != 0) then
   ex0 (Ja9 b) s19 s20 b out
  else
  ex0 1 s19 s20 b out
  else fail
 else
 ex1 s3 s19 s20 b out
def Jev {X : Type} (F : Nat) (fail : X) (ex0 ex1 : Int → Int → Int → ZB → List ZR → X) : Nat → Int → Int → Int → ZB → List ZR → X
 | 0, _, _, _, _, _ => fail
 | m + 1, s3, s19, s20, b, out => Jsk F fail (Jev F fail ex0 ex1 m) ex0 ex1 s3 s19 s20 b out
def Kmk {X : Type} (F : Nat) (b : ZB) (fail : X) (ret : List ZR → Int → X) : X :=
 bif (decide ((b.length : Int) > 65536)) then
  ret ([] : List ZR) 5
 else
 bif (Jei b) then
 bif ((Ja9 b) == 0) then
  bif ((Ja9 b) != 0) then
   ret ([] : List ZR) (Ja9 b)
  else
  bif (decide ((Jap b) > 1024)) then
   ret ([] : List ZR) 6
  else
  Jev F fail
   (fun s3 s19 s20 b1 out =>
    ret ([] : List ZR) s3)
   (fun s31 s191 s201 b2 out1 =>
    bif (decide ((b2.length : Int) > 0)) then
     ret ([] : List ZR) 3
    else
    ret out1 0)
   F 0 (Jap b) 0 (Jam b) ([] : List ZR)
 else
 bif ((Ja9 b) != 0) then
  ret ([] : List ZR) (Ja9 b)
 else
 Jev F fail
  (fun s32 s192 s202 b3 out2 =>
   ret ([] : List ZR) s32)
  (fun s33 s193 s203 b4 out3 =>
   bif (decide ((b4.length : Int) > 0)) then
    ret ([] : List ZR) 3
   else
   ret out3 0)
  F 0 0 0 b ([] : List ZR)
 else fail
def K7t {X : Type} (F : Nat) (n : Int) (fail : X) (ret : Int → X) : X :=
 bif (decide (n < 1)) then
  ret 1
 else
 bif (decide (n > 4)) then
  ret 1
 else
 ret 0
def Jwp {X : Type} (F : Nat) (fail : X) (next ex0 ex1 : List ZR → Int → Int → X) (l : List ZR) (s2 i : Int) : X :=
 bif (decide (i < (l.length : Int))) then
  bif ((decide (0 ≤ i)) && (decide (i < (l.length : Int)))) then
  bif ((Jqm (List.getD l (i).toNat (0, (([] : ZB), ()))).1) != 0) then
   ex0 l (Jqm (List.getD l (i).toNat (0, (([] : ZB), ()))).1) i
  else
  bif ((decide (0 ≤ i)) && (decide (i < (l.length : Int)))) then
  bif (decide ((((List.getD l (i).toNat (0, (([] : ZB), ()))).2.1.length : Nat) : Int) > 65536)) then
   ex0 l 5 i
  else
  next l s2 (Jar i 1)
  else fail
  else fail
 else
 ex1 l s2 i
def Jkl {X : Type} (F : Nat) (fail : X) (ex0 ex1 : List ZR → Int → Int → X) : Nat → List ZR → Int → Int → X
 | 0, _, _, _ => fail
 | m + 1, l, s2, i => Jwp F fail (Jkl F fail ex0 ex1 m) ex0 ex1 l s2 i
def Kyk {X : Type} (F : Nat) (l : List ZR) (fail : X) (ret : Int → X) : X :=
 bif (decide ((l.length : Int) > 1024)) then
  ret 6
 else
 Jkl F fail
  (fun l1 s2 i =>
   ret s2)
  (fun l2 s21 i1 =>
   ret 0)
  F l 0 0
def Kcd {X : Type} (F : Nat) (fail : X) (next ex0 ex1 : List ZR → Bool → Int → X) (l : List ZR) (s2 : Bool) (i : Int) : X :=
 bif (decide (i < (l.length : Int))) then
  bif (decide (i < 60)) then
   bif ((decide (0 ≤ i)) && (decide (i < (l.length : Int)))) then
   bif (decide ((((List.getD l (i).toNat (0, (([] : ZB), ()))).2.1.length : Nat) : Int) > 300)) then
    ex0 l false i
   else
   next l s2 (Jar i 1)
   else fail
  else
  ex1 l s2 i
 else
 ex1 l s2 i
def Jsl {X : Type} (F : Nat) (fail : X) (ex0 ex1 : List ZR → Bool → Int → X) : Nat → List ZR → Bool → Int → X
 | 0, _, _, _ => fail
 | m + 1, l, s2, i => Kcd F fail (Jsl F fail ex0 ex1 m) ex0 ex1 l s2 i
def uFew {X : Type} (F : Nat) (l : List ZR) (fail : X) (ret : Bool → X) : X :=
 Jsl F fail
  (fun l1 s2 i =>
   ret s2)
  (fun l2 s21 i1 =>
   ret (decide ((l2.length : Int) ≤ 60)))
  F l false 0
def J2a {X : Type} (F : Nat) (fail : X) (next ex0 ex1 : List ZR → List ZR → Bool → Int → X) (a b : List ZR) (s4 : Bool) (i : Int) : X :=
 bif (decide (i < (a.length : Int))) then
  bif ((decide (0 ≤ i)) && (decide (i < (a.length : Int)))) then
  bif ((decide (0 ≤ i)) && (decide (i < (b.length : Int)))) then
  bif ((List.getD a (i).toNat (0, (([] : ZB), ()))).1 != (List.getD b (i).toNat (0, (([] : ZB), ()))).1) then
   ex0 a b false i
  else
  bif ((decide (0 ≤ i)) && (decide (i < (a.length : Int)))) then
  bif ((decide (0 ≤ i)) && (decide (i < (b.length : Int)))) then
  bif (!((List.getD a (i).toNat (0, (([] : ZB), ()))).2.1 == (List.getD b (i).toNat (0, (([] : ZB), ()))).2.1)) then
   ex0 a b false i
  else
  next a b s4 (Jar i 1)
  else fail
  else fail
  else fail
  else fail
 else
 ex1 a b s4 i
def Jnb {X : Type} (F : Nat) (fail : X) (ex0 ex1 : List ZR → List ZR → Bool → Int → X) : Nat → List ZR → List ZR → Bool → Int → X
 | 0, _, _, _, _ => fail
 | m + 1, a, b, s4, i => J2a F fail (Jnb F fail ex0 ex1 m) ex0 ex1 a b s4 i
def K7u {X : Type} (F : Nat) (a b : List ZR) (fail : X) (ret : Bool → X) : X :=
 bif ((a.length : Int) != (b.length : Int)) then
  ret false
 else
 Jnb F fail
  (fun a1 b1 s4 i =>
   ret s4)
  (fun a2 b2 s41 i1 =>
   ret true)
  F a b false 0
def Jos {X : Type} (F : Nat) (fail : X) (next ex0 ex1 : List (List ZR) → List (List ZR) → Bool → Int → X) (a b : List (List ZR)) (s4 : Bool) (i : Int) : X :=
 bif (decide (i < (a.length : Int))) then
  bif ((decide (0 ≤ i)) && (decide (i < (a.length : Int)))) then
  bif ((decide (0 ≤ i)) && (decide (i < (b.length : Int)))) then
  bif (Kbu (List.getD a (i).toNat ([] : List ZR)) (List.getD b (i).toNat ([] : List ZR))) then
  bif (!(J3z (List.getD a (i).toNat ([] : List ZR)) (List.getD b (i).toNat ([] : List ZR)))) then
   ex0 a b false i
  else
  next a b s4 (Jar i 1)
  else fail
  else fail
  else fail
 else
 ex1 a b s4 i
def Jhc {X : Type} (F : Nat) (fail : X) (ex0 ex1 : List (List ZR) → List (List ZR) → Bool → Int → X) : Nat → List (List ZR) → List (List ZR) → Bool → Int → X
 | 0, _, _, _, _ => fail
 | m + 1, a, b, s4, i => Jos F fail (Jhc F fail ex0 ex1 m) ex0 ex1 a b s4 i
def Kce {X : Type} (F : Nat) (a b : List (List ZR)) (fail : X) (ret : Bool → X) : X :=
 bif ((a.length : Int) != (b.length : Int)) then
  ret false
 else
 Jhc F fail
  (fun a1 b1 s4 i =>
   ret s4)
  (fun a2 b2 s41 i1 =>
   ret true)
  F a b false 0
end Go.AI
namespace Go.AI
open Go
set_option linter.unusedVariables false
def Kml {X : Type} (F : Nat) (l : ZL) (key : ZB) (records : List ZR) (fail : X) (ret : ZL → List (Int × (Int × ((List ZB) × Unit))) → Int → X) : X :=
 bif ((Jjv l) != 0) then
  ret (0, (0, (0, ()))) ([] : List (Int × (Int × ((List ZB) × Unit)))) (Jjv l)
 else
 bif (Jwd records) then
 bif ((Jkb records) != 0) then
  ret (0, (0, (0, ()))) ([] : List (Int × (Int × ((List ZB) × Unit)))) (Jkb records)
 else
 bif (decide ((key.length : Int) > 0)) then
  bif (Kbt key (Jar l.2.1 1) (Jc1 records)) then
  bif ((Jr6 key (Jar l.2.1 1) (Jc1 records)) != 0) then
   ret (0, (0, (0, ()))) ([] : List (Int × (Int × ((List ZB) × Unit)))) (Jr6 key (Jar l.2.1 1) (Jc1 records))
  else
  bif (Jwb l (Joa key (Jar l.2.1 1) (Jc1 records))) then
  ret (Jmx l (Joa key (Jar l.2.1 1) (Jc1 records))) (Jmy l (Joa key (Jar l.2.1 1) (Jc1 records))) (Jmz l (Joa key (Jar l.2.1 1) (Jc1 records)))
  else fail
  else fail
 else
 bif (Jwb l (Jc1 records)) then
 ret (Jmx l (Jc1 records)) (Jmy l (Jc1 records)) (Jmz l (Jc1 records))
 else fail
 else fail
end Go.AI
namespace Go.AI
open Go
set_option linter.unusedVariables false
def Jsm {X : Type} (F : Nat) (fail : X) (next ex0 ex1 : List ZB → Int → Int → ZB → ZL → Int → List (List ZR) → ZB → ZL → X) (s7 : List ZB) (s8 s9 : Int) (key : ZB) (s4 : ZL) (s6 : Int) (out : List (List ZR)) (s2 : ZB) (l : ZL) : X :=
 bif (decide (s9 < s8)) then
  bif ((decide (0 ≤ s9)) && (decide (s9 < (s7.length : Int)))) then
  bif (decide ((s2.length : Int) > 0)) then
   bif (Jyg s2 (Jar s9 1) (List.getD s7 (s9).toNat ([] : ZB))) then
   bif ((Jjr s2 (Jar s9 1) (List.getD s7 (s9).toNat ([] : ZB))) == 0) then
    bif (Ji0 (Jhq s2 (Jar s9 1) (List.getD s7 (s9).toNat ([] : ZB)))) then
    bif ((Jem (Jhq s2 (Jar s9 1) (List.getD s7 (s9).toNat ([] : ZB)))) != 0) then
     ex0 s7 s8 s9 key (0, (0, (0, ()))) (Jem (Jhq s2 (Jar s9 1) (List.getD s7 (s9).toNat ([] : ZB)))) out s2 l
    else
    bif (decide ((out ++ ([(Jel (Jhq s2 (Jar s9 (1 : Int)) (List.getD s7 (s9).toNat ([] : ZB))))] : List (List ZR))).length ≤ big)) then
    next s7 s8 (Jar s9 (1 : Int)) key s4 s6 (out ++ ([(Jel (Jhq s2 (Jar s9 (1 : Int)) (List.getD s7 (s9).toNat ([] : ZB))))] : List (List ZR))) s2 l
    else fail
    else fail
   else
   bif ((Jjr s2 (Jar s9 1) (List.getD s7 (s9).toNat ([] : ZB))) != 0) then
    ex0 s7 s8 s9 key (0, (0, (0, ()))) (Jjr s2 (Jar s9 1) (List.getD s7 (s9).toNat ([] : ZB))) out s2 l
   else
   bif (decide ((out ++ ([([] : List ZR)] : List (List ZR))).length ≤ big)) then
   next s7 s8 (Jar s9 (1 : Int)) key s4 s6 (out ++ ([([] : List ZR)] : List (List ZR))) s2 l
   else fail
   else fail
  else
  bif (Ji0 (List.getD s7 (s9).toNat ([] : ZB))) then
  bif ((Jem (List.getD s7 (s9).toNat ([] : ZB))) != 0) then
   ex0 s7 s8 s9 key (0, (0, (0, ()))) (Jem (List.getD s7 (s9).toNat ([] : ZB))) out s2 l
  else
  bif (decide ((out ++ ([(Jel (List.getD s7 (s9).toNat ([] : ZB)))] : List (List ZR))).length ≤ big)) then
  next s7 s8 (Jar s9 (1 : Int)) key s4 s6 (out ++ ([(Jel (List.getD s7 (s9).toNat ([] : ZB)))] : List (List ZR))) s2 l
  else fail
  else fail
  else fail
 else
 ex1 s7 s8 s9 key s4 s6 out s2 l
def Jgl {X : Type} (F : Nat) (fail : X) (ex0 ex1 : List ZB → Int → Int → ZB → ZL → Int → List (List ZR) → ZB → ZL → X) : Nat → List ZB → Int → Int → ZB → ZL → Int → List (List ZR) → ZB → ZL → X
 | 0, _, _, _, _, _, _, _, _, _ => fail
 | m + 1, s7, s8, s9, key, s4, s6, out, s2, l => Jsm F fail (Jgl F fail ex0 ex1 m) ex0 ex1 s7 s8 s9 key s4 s6 out s2 l
def Kmm {X : Type} (F : Nat) (d_ : ZD) (key : ZB) (fail : X) (ret : ZL → List (List ZR) → Int → X) : X :=
 bif (Jeu d_) then
 bif ((Jl4 d_) != 0) then
  ret (0, (0, (0, ()))) ([] : List (List ZR)) (Jl4 d_)
 else
 bif (decide ((key.length : Int) > 64)) then
  ret (0, (0, (0, ()))) ([] : List (List ZR)) 1
 else
 Jgl F fail
  (fun s7 s8 s9 Jpz s4 s6 out s2 l =>
   ret s4 ([] : List (List ZR)) s6)
  (fun s71 s81 s91 key2 s41 s61 out1 s21 l1 =>
   ret l1 out1 0)
  F (Jl3 d_) (((Jl3 d_).length : Nat) : Int) 0 key (0, (0, (0, ()))) 0 ([] : List (List ZR)) key (Jod d_)
 else fail
end Go.AI
namespace Go.AI
open Go
set_option linter.unusedVariables false
def Kmn {X : Type} (F : Nat) (fail : X) (ret : (ZD × (ZL × ((List (List ZR)) × Unit))) → Bool → X) : X :=
 bif (J3x 300) then
 bif (Kx0 300) then
 bif (J3s (Jkz 300) (Jek 300)) then
 bif ((Jmw (300 : Int)) == (0 : Int)) then
  bif ((J3r (300 : Int)) == (0 : Int)) then
   ret ((Jib (Jkz 300) (Jek 300)), ((Jie 300), (([] : List (List ZR)), ()))) ((Jn6 (Jkz 300) (Jek 300)) == 0)
  else
  ret ((Jib (Jkz 300) (Jek 300)), ((Jie 300), (([] : List (List ZR)), ()))) false
 else
 ret ((Jib (Jkz 300) (Jek 300)), ((Jie 300), (([] : List (List ZR)), ()))) false
 else fail
 else fail
 else fail
def Kyl {X : Type} (F : Nat) (s : (ZD × (ZL × ((List (List ZR)) × Unit)))) (key : ZB) (fail : X) (ret : Bool → X) : X :=
 bif (Ji1 s.1 key) then
 bif ((Jg6 s.1 key) == 0) then
  bif (Jct (.pair (.int .i64) (.pair (.int .i64) (.pair (.int .i64) .unit))) (Jb5 s.1 key) s.2.1) then
   bif (Je8 (Jbg s.1 key) s.2.2.1) then
   ret (Je9 (Jbg s.1 key) s.2.2.1)
   else fail
  else
  ret false
 else
 ret false
 else fail
def Jwq {X : Type} (F : Nat) (fail : X) (next ex0 ex1 : List ((List ZR) × (Bool × (UInt8 × Unit))) → ZB → List Int → Bool → Int → X) (l : List ((List ZR) × (Bool × (UInt8 × Unit)))) (key : ZB) (choices : List Int) (s6 : Bool) (i : Int) : X :=
 bif (decide (i < (l.length : Int))) then
  bif (decide (i < 20)) then
   bif ((decide (0 ≤ i)) && (decide (i < (l.length : Int)))) then
   bif (Kq9 (List.getD l (i).toNat (([] : List ZR), (false, (0, ())))).1) then
   bif (!(J3y (List.getD l (i).toNat (([] : List ZR), (false, (0, ())))).1)) then
    ex0 l key choices false i
   else
   bif ((decide (0 ≤ i)) && (decide (i < (l.length : Int)))) then
   bif (J14 (List.getD l (i).toNat (([] : List ZR), (false, (0, ())))).1) then
   bif ((Joe (List.getD l (i).toNat (([] : List ZR), (false, (0, ())))).1) != 0) then
    ex0 l key choices false i
   else
   next l key choices s6 (Jar i 1)
   else fail
   else fail
   else fail
   else fail
  else
  ex1 l key choices s6 i
 else
 ex1 l key choices s6 i
def Jkm {X : Type} (F : Nat) (fail : X) (ex0 ex1 : List ((List ZR) × (Bool × (UInt8 × Unit))) → ZB → List Int → Bool → Int → X) : Nat → List ((List ZR) × (Bool × (UInt8 × Unit))) → ZB → List Int → Bool → Int → X
 | 0, _, _, _, _, _ => fail
 | m + 1, l, key, choices, s6, i => Jwq F fail (Jkm F fail ex0 ex1 m) ex0 ex1 l key choices s6 i
def Kym {X : Type} (F : Nat) (l : List ((List ZR) × (Bool × (UInt8 × Unit)))) (key : ZB) (choices : List Int) (fail : X) (ret : Bool → X) : X :=
 Jkm F fail
  (fun l1 Jpz choices1 s6 i =>
   ret s6)
  (fun l2 key2 choices2 s61 i1 =>
   bif (decide ((l2.length : Int) ≤ 16)) then
    bif (decide ((key2.length : Int) ≤ 64)) then
     ret (decide ((choices2.length : Int) ≤ 200))
    else
    ret false
   else
   ret false)
  F l key choices false 0
def Kmo {X : Type} (F : Nat) (s : (ZD × (ZL × ((List (List ZR)) × Unit)))) (key : ZB) (x_ : ((List ZR) × (Bool × (UInt8 × Unit)))) (choices : List Int) (fail : X) (ret : (ZD × (ZL × ((List (List ZR)) × Unit))) → List Int → Bool → X) : X :=
 bif (J31 s.2.1 key x_.1) then
 bif ((Jm0 s.2.1 key x_.1) != 0) then
  ret s choices ((Jm0 s.2.1 key x_.1) == 11)
 else
 bif (decide (s.2.2.1.length ≤ big)) then
 bif (decide ((s.2.2.1 ++ ([x_.1] : List (List ZR))).length ≤ big)) then
 bif (!x_.2.1) then
  bif (J3s s.1 (Jac s.2.1 key x_.1)) then
  ret ((Jib s.1 (Jac s.2.1 key x_.1)), ((Jkc s.2.1 key x_.1), ((s.2.2.1 ++ ([x_.1] : List (List ZR))), ()))) choices ((Jn6 s.1 (Jac s.2.1 key x_.1)) == (0 : Int))
  else fail
 else
 bif ((Jar (((Jac s.2.1 key x_.1).length : Nat) : Int) (1 : Int)) != (0 : Int)) then
 bif (Jqi s.1 (Jac s.2.1 key x_.1) (Jcz (Jfv x_.2.2.1) (Jar (((Jac s.2.1 key x_.1).length : Nat) : Int) 1)) choices) then
 bif (Ji1 (Jaj s.1 (Jac s.2.1 key x_.1) (Jcz (Jfv x_.2.2.1) (Jar (((Jac s.2.1 key x_.1).length : Nat) : Int) 1)) choices) key) then
 bif ((Jjp s.1 (Jac s.2.1 key x_.1) (Jcz (Jfv x_.2.2.1) (Jar (((Jac s.2.1 key x_.1).length : Nat) : Int) 1)) choices) != 0) then
  ret s (Jbq s.1 (Jac s.2.1 key x_.1) (Jcz (Jfv x_.2.2.1) (Jar (((Jac s.2.1 key x_.1).length : Nat) : Int) 1)) choices) false
 else
 bif ((Jg6 (Jaj s.1 (Jac s.2.1 key x_.1) (Jcz (Jfv x_.2.2.1) (Jar (((Jac s.2.1 key x_.1).length : Nat) : Int) 1)) choices) key) != 0) then
  ret s (Jbq s.1 (Jac s.2.1 key x_.1) (Jcz (Jfv x_.2.2.1) (Jar (((Jac s.2.1 key x_.1).length : Nat) : Int) 1)) choices) false
 else
 bif (Je8 (Jbg (Jaj s.1 (Jac s.2.1 key x_.1) (Jcz (Jfv x_.2.2.1) (Jar (((Jac s.2.1 key x_.1).length : Nat) : Int) (1 : Int))) choices) key) (s.2.2.1 ++ ([x_.1] : List (List ZR)))) then
 bif (Je9 (Jbg (Jaj s.1 (Jac s.2.1 key x_.1) (Jcz (Jfv x_.2.2.1) (Jar (((Jac s.2.1 key x_.1).length : Nat) : Int) (1 : Int))) choices) key) (s.2.2.1 ++ ([x_.1] : List (List ZR)))) then
  bif (decide ((Jcz (Jfv x_.2.2.1) (Jar (((Jac s.2.1 key x_.1).length : Nat) : Int) 1)) > 0)) then
   bif (Jct (.pair (.int .i64) (.pair (.int .i64) (.pair (.int .i64) .unit))) (Jb5 (Jaj s.1 (Jac s.2.1 key x_.1) (Jcz (Jfv x_.2.2.1) (Jar (((Jac s.2.1 key x_.1).length : Nat) : Int) 1)) choices) key) (Jkc s.2.1 key x_.1)) then
    ret ((Jaj s.1 (Jac s.2.1 key x_.1) (Jcz (Jfv x_.2.2.1) (Jar (((Jac s.2.1 key x_.1).length : Nat) : Int) (1 : Int))) choices), ((Jb5 (Jaj s.1 (Jac s.2.1 key x_.1) (Jcz (Jfv x_.2.2.1) (Jar (((Jac s.2.1 key x_.1).length : Nat) : Int) (1 : Int))) choices) key), ((s.2.2.1 ++ ([x_.1] : List (List ZR))), ()))) (Jbq s.1 (Jac s.2.1 key x_.1) (Jcz (Jfv x_.2.2.1) (Jar (((Jac s.2.1 key x_.1).length : Nat) : Int) (1 : Int))) choices) true
   else
   bif (Je8 (Jbg (Jaj s.1 (Jac s.2.1 key x_.1) (Jcz (Jfv x_.2.2.1) (Jar (((Jac s.2.1 key x_.1).length : Nat) : Int) 1)) choices) key) s.2.2.1) then
   bif (Je9 (Jbg (Jaj s.1 (Jac s.2.1 key x_.1) (Jcz (Jfv x_.2.2.1) (Jar (((Jac s.2.1 key x_.1).length : Nat) : Int) 1)) choices) key) s.2.2.1) then
    bif (decide ((Jcz (Jfv x_.2.2.1) (Jar (((Jac s.2.1 key x_.1).length : Nat) : Int) 1)) < (((Jac s.2.1 key x_.1).length : Nat) : Int))) then
     ret ((Jaj s.1 (Jac s.2.1 key x_.1) (Jcz (Jfv x_.2.2.1) (Jar (((Jac s.2.1 key x_.1).length : Nat) : Int) 1)) choices), ((Jb5 (Jaj s.1 (Jac s.2.1 key x_.1) (Jcz (Jfv x_.2.2.1) (Jar (((Jac s.2.1 key x_.1).length : Nat) : Int) 1)) choices) key), (s.2.2.1, ()))) (Jbq s.1 (Jac s.2.1 key x_.1) (Jcz (Jfv x_.2.2.1) (Jar (((Jac s.2.1 key x_.1).length : Nat) : Int) 1)) choices) (Jct (.pair (.int .i64) (.pair (.int .i64) (.pair (.int .i64) .unit))) (Jb5 (Jaj s.1 (Jac s.2.1 key x_.1) (Jcz (Jfv x_.2.2.1) (Jar (((Jac s.2.1 key x_.1).length : Nat) : Int) 1)) choices) key) s.2.1)
    else
    ret ((Jaj s.1 (Jac s.2.1 key x_.1) (Jcz (Jfv x_.2.2.1) (Jar (((Jac s.2.1 key x_.1).length : Nat) : Int) 1)) choices), ((Jb5 (Jaj s.1 (Jac s.2.1 key x_.1) (Jcz (Jfv x_.2.2.1) (Jar (((Jac s.2.1 key x_.1).length : Nat) : Int) 1)) choices) key), (s.2.2.1, ()))) (Jbq s.1 (Jac s.2.1 key x_.1) (Jcz (Jfv x_.2.2.1) (Jar (((Jac s.2.1 key x_.1).length : Nat) : Int) 1)) choices) false
   else
   ret ((Jaj s.1 (Jac s.2.1 key x_.1) (Jcz (Jfv x_.2.2.1) (Jar (((Jac s.2.1 key x_.1).length : Nat) : Int) 1)) choices), ((Jb5 (Jaj s.1 (Jac s.2.1 key x_.1) (Jcz (Jfv x_.2.2.1) (Jar (((Jac s.2.1 key x_.1).length : Nat) : Int) 1)) choices) key), (s.2.2.1, ()))) (Jbq s.1 (Jac s.2.1 key x_.1) (Jcz (Jfv x_.2.2.1) (Jar (((Jac s.2.1 key x_.1).length : Nat) : Int) 1)) choices) false
   else fail
  else
  bif (Je8 (Jbg (Jaj s.1 (Jac s.2.1 key x_.1) (Jcz (Jfv x_.2.2.1) (Jar (((Jac s.2.1 key x_.1).length : Nat) : Int) 1)) choices) key) s.2.2.1) then
  bif (Je9 (Jbg (Jaj s.1 (Jac s.2.1 key x_.1) (Jcz (Jfv x_.2.2.1) (Jar (((Jac s.2.1 key x_.1).length : Nat) : Int) 1)) choices) key) s.2.2.1) then
   bif (decide ((Jcz (Jfv x_.2.2.1) (Jar (((Jac s.2.1 key x_.1).length : Nat) : Int) 1)) < (((Jac s.2.1 key x_.1).length : Nat) : Int))) then
    ret ((Jaj s.1 (Jac s.2.1 key x_.1) (Jcz (Jfv x_.2.2.1) (Jar (((Jac s.2.1 key x_.1).length : Nat) : Int) 1)) choices), ((Jb5 (Jaj s.1 (Jac s.2.1 key x_.1) (Jcz (Jfv x_.2.2.1) (Jar (((Jac s.2.1 key x_.1).length : Nat) : Int) 1)) choices) key), (s.2.2.1, ()))) (Jbq s.1 (Jac s.2.1 key x_.1) (Jcz (Jfv x_.2.2.1) (Jar (((Jac s.2.1 key x_.1).length : Nat) : Int) 1)) choices) (Jct (.pair (.int .i64) (.pair (.int .i64) (.pair (.int .i64) .unit))) (Jb5 (Jaj s.1 (Jac s.2.1 key x_.1) (Jcz (Jfv x_.2.2.1) (Jar (((Jac s.2.1 key x_.1).length : Nat) : Int) 1)) choices) key) s.2.1)
   else
   ret ((Jaj s.1 (Jac s.2.1 key x_.1) (Jcz (Jfv x_.2.2.1) (Jar (((Jac s.2.1 key x_.1).length : Nat) : Int) 1)) choices), ((Jb5 (Jaj s.1 (Jac s.2.1 key x_.1) (Jcz (Jfv x_.2.2.1) (Jar (((Jac s.2.1 key x_.1).length : Nat) : Int) 1)) choices) key), (s.2.2.1, ()))) (Jbq s.1 (Jac s.2.1 key x_.1) (Jcz (Jfv x_.2.2.1) (Jar (((Jac s.2.1 key x_.1).length : Nat) : Int) 1)) choices) false
  else
  ret ((Jaj s.1 (Jac s.2.1 key x_.1) (Jcz (Jfv x_.2.2.1) (Jar (((Jac s.2.1 key x_.1).length : Nat) : Int) 1)) choices), ((Jb5 (Jaj s.1 (Jac s.2.1 key x_.1) (Jcz (Jfv x_.2.2.1) (Jar (((Jac s.2.1 key x_.1).length : Nat) : Int) 1)) choices) key), (s.2.2.1, ()))) (Jbq s.1 (Jac s.2.1 key x_.1) (Jcz (Jfv x_.2.2.1) (Jar (((Jac s.2.1 key x_.1).length : Nat) : Int) 1)) choices) false
  else fail
 else
 bif (Je8 (Jbg (Jaj s.1 (Jac s.2.1 key x_.1) (Jcz (Jfv x_.2.2.1) (Jar (((Jac s.2.1 key x_.1).length : Nat) : Int) 1)) choices) key) s.2.2.1) then
 bif (Je9 (Jbg (Jaj s.1 (Jac s.2.1 key x_.1) (Jcz (Jfv x_.2.2.1) (Jar (((Jac s.2.1 key x_.1).length : Nat) : Int) 1)) choices) key) s.2.2.1) then
  bif (decide ((Jcz (Jfv x_.2.2.1) (Jar (((Jac s.2.1 key x_.1).length : Nat) : Int) 1)) < (((Jac s.2.1 key x_.1).length : Nat) : Int))) then
   ret ((Jaj s.1 (Jac s.2.1 key x_.1) (Jcz (Jfv x_.2.2.1) (Jar (((Jac s.2.1 key x_.1).length : Nat) : Int) 1)) choices), ((Jb5 (Jaj s.1 (Jac s.2.1 key x_.1) (Jcz (Jfv x_.2.2.1) (Jar (((Jac s.2.1 key x_.1).length : Nat) : Int) 1)) choices) key), (s.2.2.1, ()))) (Jbq s.1 (Jac s.2.1 key x_.1) (Jcz (Jfv x_.2.2.1) (Jar (((Jac s.2.1 key x_.1).length : Nat) : Int) 1)) choices) (Jct (.pair (.int .i64) (.pair (.int .i64) (.pair (.int .i64) .unit))) (Jb5 (Jaj s.1 (Jac s.2.1 key x_.1) (Jcz (Jfv x_.2.2.1) (Jar (((Jac s.2.1 key x_.1).length : Nat) : Int) 1)) choices) key) s.2.1)
  else
  ret ((Jaj s.1 (Jac s.2.1 key x_.1) (Jcz (Jfv x_.2.2.1) (Jar (((Jac s.2.1 key x_.1).length : Nat) : Int) 1)) choices), ((Jb5 (Jaj s.1 (Jac s.2.1 key x_.1) (Jcz (Jfv x_.2.2.1) (Jar (((Jac s.2.1 key x_.1).length : Nat) : Int) 1)) choices) key), (s.2.2.1, ()))) (Jbq s.1 (Jac s.2.1 key x_.1) (Jcz (Jfv x_.2.2.1) (Jar (((Jac s.2.1 key x_.1).length : Nat) : Int) 1)) choices) false
 else
 ret ((Jaj s.1 (Jac s.2.1 key x_.1) (Jcz (Jfv x_.2.2.1) (Jar (((Jac s.2.1 key x_.1).length : Nat) : Int) 1)) choices), ((Jb5 (Jaj s.1 (Jac s.2.1 key x_.1) (Jcz (Jfv x_.2.2.1) (Jar (((Jac s.2.1 key x_.1).length : Nat) : Int) 1)) choices) key), (s.2.2.1, ()))) (Jbq s.1 (Jac s.2.1 key x_.1) (Jcz (Jfv x_.2.2.1) (Jar (((Jac s.2.1 key x_.1).length : Nat) : Int) 1)) choices) false
 else fail
 else fail
 else fail
 else fail
 else fail
 else fail
 else fail
 else fail
end Go.AI
namespace Go.AI
open Go
set_option linter.unusedVariables false
def Kyn {X : Type} (F : Nat) (fail : X) (ret : Bool → X) : X :=
 bif (Jqo) then
 bif (Je4 (Jen) ([] : ZB) (([(1, (([100, 97, 116, 97] : ZB), ()))] : List ZR), (false, (0, ()))) ([] : List Int)) then
 bif (Je4 (Jan (Jen) ([] : ZB) (([(1, (([100, 97, 116, 97] : ZB), ()))] : List ZR), (false, (0, ()))) ([] : List Int)) ([] : ZB) (([(1, (([100, 97, 116, 97] : ZB), ()))] : List ZR), (true, (3, ()))) ([] : List Int)) then
 bif (Jm1) then
  bif (Jb6 (Jen) ([] : ZB) (([(1, (([100, 97, 116, 97] : ZB), ()))] : List ZR), (false, (0, ()))) ([] : List Int)) then
   bif (Jb6 (Jan (Jen) ([] : ZB) (([(1, (([100, 97, 116, 97] : ZB), ()))] : List ZR), (false, (0, ()))) ([] : List Int)) ([] : ZB) (([(1, (([100, 97, 116, 97] : ZB), ()))] : List ZR), (true, (3, ()))) ([] : List Int)) then
    bif ((((Jan (Jan (Jen) ([] : ZB) (([(1, (([100, 97, 116, 97] : ZB), ()))] : List ZR), (false, (0, ()))) ([] : List Int)) ([] : ZB) (([(1, (([100, 97, 116, 97] : ZB), ()))] : List ZR), (true, (3, ()))) ([] : List Int)).2.2.1.length : Nat) : Int) == 1) then
     bif (Jog (Jan (Jan (Jen) ([] : ZB) (([(1, (([100, 97, 116, 97] : ZB), ()))] : List ZR), (false, (0, ()))) ([] : List Int)) ([] : ZB) (([(1, (([100, 97, 116, 97] : ZB), ()))] : List ZR), (true, (3, ()))) ([] : List Int)) ([] : ZB)) then
     ret (Joh (Jan (Jan (Jen) ([] : ZB) (([(1, (([100, 97, 116, 97] : ZB), ()))] : List ZR), (false, (0, ()))) ([] : List Int)) ([] : ZB) (([(1, (([100, 97, 116, 97] : ZB), ()))] : List ZR), (true, (3, ()))) ([] : List Int)) ([] : ZB))
     else fail
    else
    ret false
   else
   ret false
  else
  ret false
 else
 ret false
 else fail
 else fail
 else fail
end Go.AI
namespace Go.AI
open Go
set_option linter.unusedVariables false
def Jht {X : Type} (F : Nat) (fail : X) (next ex0 : List ((List ZR) × (Bool × (UInt8 × Unit))) → ZB → List Int → Bool → Int → (ZD × (ZL × ((List (List ZR)) × Unit))) → X) (l : List ((List ZR) × (Bool × (UInt8 × Unit)))) (key : ZB) (choices : List Int) (ok : Bool) (i : Int) (s : (ZD × (ZL × ((List (List ZR)) × Unit)))) : X :=
 bif (decide (i < (l.length : Int))) then
  bif ok then
   bif ((decide (0 ≤ i)) && (decide (i < (l.length : Int)))) then
   bif (Je4 s key (List.getD l (i).toNat (([] : List ZR), (false, (0, ())))) choices) then
   bif (Jb6 s key (List.getD l (i).toNat (([] : List ZR), (false, (0, ())))) choices) then
    bif (Jog (Jan s key (List.getD l (i).toNat (([] : List ZR), (false, (0, ())))) choices) key) then
    next l key (Jcn s key (List.getD l (i).toNat (([] : List ZR), (false, (0, ())))) choices) (Joh (Jan s key (List.getD l (i).toNat (([] : List ZR), (false, (0, ())))) choices) key) (Jar i 1) (Jan s key (List.getD l (i).toNat (([] : List ZR), (false, (0, ())))) choices)
    else fail
   else
   next l key (Jcn s key (List.getD l (i).toNat (([] : List ZR), (false, (0, ())))) choices) false (Jar i 1) (Jan s key (List.getD l (i).toNat (([] : List ZR), (false, (0, ())))) choices)
   else fail
   else fail
  else
  ex0 l key choices ok i s
 else
 ex0 l key choices ok i s
def Jdd {X : Type} (F : Nat) (fail : X) (ex0 : List ((List ZR) × (Bool × (UInt8 × Unit))) → ZB → List Int → Bool → Int → (ZD × (ZL × ((List (List ZR)) × Unit))) → X) : Nat → List ((List ZR) × (Bool × (UInt8 × Unit))) → ZB → List Int → Bool → Int → (ZD × (ZL × ((List (List ZR)) × Unit))) → X
 | 0, _, _, _, _, _, _ => fail
 | m + 1, l, key, choices, ok, i, s => Jht F fail (Jdd F fail ex0 m) ex0 l key choices ok i s
def TopLogPrefix {X : Type} (F : Nat) (l : List ((List ZR) × (Bool × (UInt8 × Unit)))) (key : ZB) (choices : List Int) (fail : X) (ret : Bool → X) : X :=
 bif (J15 l key choices) then
 bif (!(Jjz l key choices)) then
  bif (Jm2) then
  ret (Jm3)
  else fail
 else
 bif (Jqo) then
 Jdd F fail
  (fun l1 Jpz choices1 ok i s =>
   bif ok then
    bif (Jm2) then
    ret (Jm3)
    else fail
   else
   ret false)
  F l key choices (Jm1) 0 (Jen)
 else fail
 else fail
def Jgd {X : Type} (F : Nat) (fail : X) (next ex0 ex1 : List ((List ZR) × (Bool × (UInt8 × Unit))) → ZB → List Int → Bool → Bool → List (List ZR) → Int → (ZD × (ZL × ((List (List ZR)) × Unit))) → X) (l : List ((List ZR) × (Bool × (UInt8 × Unit)))) (key : ZB) (choices : List Int) (s6 ok : Bool) (before : List (List ZR)) (i : Int) (s : (ZD × (ZL × ((List (List ZR)) × Unit)))) : X :=
 bif (decide (i < (l.length : Int))) then
  bif ok then
   bif ((decide (0 ≤ i)) && (decide (i < (l.length : Int)))) then
   bif (Je4 s key (List.getD l (i).toNat (([] : List ZR), (false, (0, ())))) choices) then
   bif (Ji1 (Jan s key (List.getD l (i).toNat (([] : List ZR), (false, (0, ())))) choices).1 key) then
   bif (!(Jb6 s key (List.getD l (i).toNat (([] : List ZR), (false, (0, ())))) choices)) then
    ex0 l key (Jcn s key (List.getD l (i).toNat (([] : List ZR), (false, (0, ())))) choices) false (Jb6 s key (List.getD l (i).toNat (([] : List ZR), (false, (0, ())))) choices) before i (Jan s key (List.getD l (i).toNat (([] : List ZR), (false, (0, ())))) choices)
   else
   bif ((Jg6 (Jan s key (List.getD l (i).toNat (([] : List ZR), (false, (0, ())))) choices).1 key) != 0) then
    ex0 l key (Jcn s key (List.getD l (i).toNat (([] : List ZR), (false, (0, ())))) choices) false (Jb6 s key (List.getD l (i).toNat (([] : List ZR), (false, (0, ())))) choices) before i (Jan s key (List.getD l (i).toNat (([] : List ZR), (false, (0, ())))) choices)
   else
   bif (decide ((((Jbg (Jan s key (List.getD l (i).toNat (([] : List ZR), (false, (0, ())))) choices).1 key).length : Nat) : Int) < (before.length : Int))) then
    ex0 l key (Jcn s key (List.getD l (i).toNat (([] : List ZR), (false, (0, ())))) choices) false (Jb6 s key (List.getD l (i).toNat (([] : List ZR), (false, (0, ())))) choices) before i (Jan s key (List.getD l (i).toNat (([] : List ZR), (false, (0, ())))) choices)
   else
   bif ((decide (0 ≤ (before.length : Int))) && (decide ((before.length : Int) ≤ (((Jbg (Jan s key (List.getD l (i).toNat (([] : List ZR), (false, (0, ())))) choices).1 key).length : Nat) : Int)))) then
   bif (Je8 (List.take before.length (Jbg (Jan s key (List.getD l (i).toNat (([] : List ZR), (false, (0, ())))) choices).1 key)) before) then
   bif (!(Je9 (List.take before.length (Jbg (Jan s key (List.getD l (i).toNat (([] : List ZR), (false, (0, ())))) choices).1 key)) before)) then
    ex0 l key (Jcn s key (List.getD l (i).toNat (([] : List ZR), (false, (0, ())))) choices) false (Jb6 s key (List.getD l (i).toNat (([] : List ZR), (false, (0, ())))) choices) before i (Jan s key (List.getD l (i).toNat (([] : List ZR), (false, (0, ())))) choices)
   else
   next l key (Jcn s key (List.getD l (i).toNat (([] : List ZR), (false, (0, ())))) choices) s6 (Jb6 s key (List.getD l (i).toNat (([] : List ZR), (false, (0, ())))) choices) (Jbg (Jan s key (List.getD l (i).toNat (([] : List ZR), (false, (0, ())))) choices).1 key) (Jar i 1) (Jan s key (List.getD l (i).toNat (([] : List ZR), (false, (0, ())))) choices)
   else fail
   else fail
   else fail
   else fail
   else fail
  else
  ex1 l key choices s6 ok before i s
 else
 ex1 l key choices s6 ok before i s
def Jc2 {X : Type} (F : Nat) (fail : X) (ex0 ex1 : List ((List ZR) × (Bool × (UInt8 × Unit))) → ZB → List Int → Bool → Bool → List (List ZR) → Int → (ZD × (ZL × ((List (List ZR)) × Unit))) → X) : Nat → List ((List ZR) × (Bool × (UInt8 × Unit))) → ZB → List Int → Bool → Bool → List (List ZR) → Int → (ZD × (ZL × ((List (List ZR)) × Unit))) → X
 | 0, _, _, _, _, _, _, _, _ => fail
 | m + 1, l, key, choices, s6, ok, before, i, s => Jgd F fail (Jc2 F fail ex0 ex1 m) ex0 ex1 l key choices s6 ok before i s
def TopLogDurable {X : Type} (F : Nat) (l : List ((List ZR) × (Bool × (UInt8 × Unit)))) (key : ZB) (choices : List Int) (fail : X) (ret : Bool → X) : X :=
 bif (J15 l key choices) then
 bif (!(Jjz l key choices)) then
  bif (Jm2) then
  ret (Jm3)
  else fail
 else
 bif (Jqo) then
 Jc2 F fail
  (fun l1 Jpz choices1 s6 ok before i s =>
   ret s6)
  (fun l2 key2 choices2 s61 ok1 before1 i1 s1 =>
   bif ok1 then
    bif (Jm2) then
    ret (Jm3)
    else fail
   else
   ret false)
  F l key choices false (Jm1) ([] : List (List ZR)) 0 (Jen)
 else fail
 else fail
end Go.AI
