/- Texts of the proof, joined: DiskG DigestG1 WireG WireG2 DigestG2 CipherG2 CipherG LogG TransG TransG2 TransG3 TransG9 TransG12. Names of our own are shortened by program; the long ones stand in wip/. -/
import Derived.Test.YtcdajbmgoafnkaaGreatQvS
set_option linter.unusedVariables false
namespace Go.AI
open Go
set_option linter.unusedVariables false
def Kxb {X : Type} (F : Nat) (s : List ZB) (fail : X) (Jmt : X → X → X) (ret : List ZB → X) : X :=
 bif (List.isEmpty s) then
  Jmt (
   ret ([] : List ZB)) (
   bif (decide (s.length ≤ big)) then
   ret s
   else fail)
 else
 bif (decide (s.length ≤ big)) then
 ret s
 else fail
def Kxc {X : Type} (F : Nat) (s : List ZR) (fail : X) (Jmt : X → X → X) (ret : List ZR → X) : X :=
 bif (List.isEmpty s) then
  Jmt (
   ret ([] : List ZR)) (
   bif (decide (s.length ≤ big)) then
   ret s
   else fail)
 else
 bif (decide (s.length ≤ big)) then
 ret s
 else fail
def K61 {X : Type} (F : Nat) (s : List Int) (fail : X) (Jmt : X → X → X) (ret : List Int → X) : X :=
 bif (List.isEmpty s) then
  Jmt (
   ret ([] : List Int)) (
   bif (decide (s.length ≤ big)) then
   ret s
   else fail)
 else
 bif (decide (s.length ≤ big)) then
 ret s
 else fail
def K62 {X : Type} (F : Nat) (d_ : ZD) (at_ count : Int) (fail : X) (ret : Bool → X) : X :=
 bif (decide (at_ ≥ 0)) then
  bif (decide (count ≥ 0)) then
   bif (decide (at_ ≤ ((d_.1.length : Nat) : Int))) then
    ret (decide (count ≤ (Jb3 ((d_.1.length : Nat) : Int) at_)))
   else
   ret false
  else
  ret false
 else
 ret false
def dNew {X : Type} (F : Nat) (pages : Int) (fail : X) (ret : ZD → Int → X) : X :=
 bif (decide (pages < 1)) then
  ret (([] : List ZB), (([] : List ZR), ())) 2
 else
 bif (decide (pages > 8192)) then
  ret (([] : List ZB), (([] : List ZR), ())) 2
 else
 bif (((decide (0 ≤ pages)) && true) && (decide (pages ≤ ((big : Nat) : Int)))) then
 ret ((List.replicate (pages).toNat z16), (([] : List ZR), ())) (0 : Int)
 else fail
def Jwl {X : Type} (F : Nat) (fail : X) (next ex0 ex1 : List ZR → Int → Int → Int → ZD → X) (s : List ZR) (s4 s7 s8 : Int) (f : ZD) : X :=
 bif (decide (s8 < s7)) then
  bif ((decide (0 ≤ s8)) && (decide (s8 < (s.length : Int)))) then
  bif (decide ((List.getD s (s8).toNat (0, (z16, ()))).1 < 0)) then
   ex0 s s8 s7 s8 f
  else
  bif (decide ((List.getD s (s8).toNat (0, (z16, ()))).1 ≥ ((f.1.length : Nat) : Int))) then
   ex0 s s8 s7 s8 f
  else
  next s s4 s7 (Jay s8 1) f
  else fail
 else
 ex1 s s4 s7 s8 f
def Jkm {X : Type} (F : Nat) (fail : X) (ex0 ex1 : List ZR → Int → Int → Int → ZD → X) : Nat → List ZR → Int → Int → Int → ZD → X
 | 0, _, _, _, _, _ => fail
 | m + 1, s, s4, s7, s8, f => Jwl F fail (Jkm F fail ex0 ex1 m) ex0 ex1 s s4 s7 s8 f
def Kxd {X : Type} (F : Nat) (d_ : ZD) (fail : X) (ret : Int → X) : X :=
 bif (decide (((d_.1.length : Nat) : Int) < 1)) then
  ret 2
 else
 bif (decide (((d_.1.length : Nat) : Int) > 8192)) then
  ret 2
 else
 Jkm F fail
  (fun s s4 s7 s8 f =>
   bif (decide (s4 ≥ 0)) then
    ret 2
   else
   ret 0)
  (fun s1 s41 s71 s81 f1 =>
   ret 0)
  F d_.2.1 0 ((d_.2.1.length : Nat) : Int) 0 d_
def Jol {X : Type} (F : Nat) (fail : X) (next ex0 : List ZR → Int → Int → List ZB → X) (s10 : List ZR) (s11 s12 : Int) (out : List ZB) : X :=
 bif (decide (s12 < s11)) then
  bif ((decide (0 ≤ s12)) && (decide (s12 < (s10.length : Int)))) then
  bif ((decide (0 ≤ (List.getD s10 (s12).toNat (0, (z16, ()))).1)) && (decide ((List.getD s10 (s12).toNat (0, (z16, ()))).1 < (out.length : Int)))) then
  next s10 s11 (Jay s12 1) (List.set out ((List.getD s10 (s12).toNat (0, (z16, ()))).1).toNat (List.getD s10 (s12).toNat (0, (z16, ()))).2.1)
  else fail
  else fail
 else
 ex0 s10 s11 s12 out
def Jhh {X : Type} (F : Nat) (fail : X) (ex0 : List ZR → Int → Int → List ZB → X) : Nat → List ZR → Int → Int → List ZB → X
 | 0, _, _, _, _ => fail
 | m + 1, s10, s11, s12, out => Jol F fail (Jhh F fail ex0 m) ex0 s10 s11 s12 out
def Kbg {X : Type} (F : Nat) (d_ : ZD) (fail : X) (ret : List ZB → X) : X :=
 bif (Jhy d_.1) then
 Jhh F fail
  (fun s10 s11 s12 out =>
   ret out)
  F d_.2.1 ((d_.2.1.length : Nat) : Int) 0 (Joa d_.1)
 else fail
def K63 {X : Type} (F : Nat) (d_ : ZD) (at_ count : Int) (fail : X) (ret : List ZB → Int → X) : X :=
 bif (Jiw d_) then
 bif ((Je4 d_) != 0) then
  ret ([] : List ZB) (Je4 d_)
 else
 bif (Jyj d_ at_ count) then
 bif (!(Jqj d_ at_ count)) then
  ret ([] : List ZB) 2
 else
 bif (Jhd d_) then
 bif (((decide (0 ≤ at_)) && (decide (at_ ≤ (Jay at_ count)))) && (decide ((Jay at_ count) ≤ (((Jii d_).length : Nat) : Int)))) then
 bif (Jhy (List.take (((Jay at_ count)).toNat - (at_).toNat) (List.drop (at_).toNat (Jii d_)))) then
 ret (Joa (List.take (((Jay at_ count)).toNat - (at_).toNat) (List.drop (at_).toNat (Jii d_)))) 0
 else fail
 else fail
 else fail
 else fail
 else fail
def Kbh {X : Type} (F : Nat) (fail : X) (next ex0 : List ZB → Int → Int → List (Int × (Int × ((List ZB) × Unit))) → Int → Int → Int → List (Int × (Int × ((List ZB) × Unit))) → Int → Int → List ZB → List ZR → (Int × (Int × ((List ZB) × Unit))) → ZD → X) (s18 : List ZB) (s19 s20 : Int) (l : List (Int × (Int × ((List ZB) × Unit)))) (s5 s6 i : Int) (s22 : List (Int × (Int × ((List ZB) × Unit)))) (s23 s24 : Int) (h1 : List ZB) (h2 : List ZR) (op : (Int × (Int × ((List ZB) × Unit)))) (s4 : ZD) : X :=
 bif (decide (s20 < s19)) then
  bif ((decide (0 ≤ s20)) && (decide (s20 < (s18.length : Int)))) then
  bif (decide ((h2 ++ ([((Jay op.2.1 s20), ((List.getD s18 (s20).toNat z16), ()))] : List ZR)).length ≤ big)) then
  next s18 s19 (Jay s20 (1 : Int)) l s5 s6 i s22 s23 s24 h1 (h2 ++ ([((Jay op.2.1 s20), ((List.getD s18 (s20).toNat z16), ()))] : List ZR)) op s4
  else fail
  else fail
 else
 ex0 s18 s19 s20 l s5 s6 i s22 s23 s24 h1 h2 op s4
def Jse {X : Type} (F : Nat) (fail : X) (ex0 : List ZB → Int → Int → List (Int × (Int × ((List ZB) × Unit))) → Int → Int → Int → List (Int × (Int × ((List ZB) × Unit))) → Int → Int → List ZB → List ZR → (Int × (Int × ((List ZB) × Unit))) → ZD → X) : Nat → List ZB → Int → Int → List (Int × (Int × ((List ZB) × Unit))) → Int → Int → Int → List (Int × (Int × ((List ZB) × Unit))) → Int → Int → List ZB → List ZR → (Int × (Int × ((List ZB) × Unit))) → ZD → X
 | 0, _, _, _, _, _, _, _, _, _, _, _, _, _, _ => fail
 | m + 1, s18, s19, s20, l, s5, s6, i, s22, s23, s24, h1, h2, op, s4 => Kbh F fail (Jse F fail ex0 m) ex0 s18 s19 s20 l s5 s6 i s22 s23 s24 h1 h2 op s4
def Kbi {X : Type} (F : Nat) (fail : X) (next ex0 ex1 : List (Int × (Int × ((List ZB) × Unit))) → Int → Int → List (Int × (Int × ((List ZB) × Unit))) → Int → Int → ZD → List ZB → List ZR → X) (l : List (Int × (Int × ((List ZB) × Unit)))) (s5 s6 : Int) (s22 : List (Int × (Int × ((List ZB) × Unit)))) (s23 s24 : Int) (s4 : ZD) (h2 : List ZB) (h3 : List ZR) : X :=
 bif (decide (s24 < s23)) then
  bif ((decide (0 ≤ s24)) && (decide (s24 < (s22.length : Int)))) then
  bif (decide ((List.getD s22 (s24).toNat (0, (0, (([] : List ZB), ())))).1 ≥ 0)) then
   bif (decide ((List.getD s22 (s24).toNat (0, (0, (([] : List ZB), ())))).1 < 2)) then
    bif ((decide (0 ≤ (List.getD s22 (s24).toNat (0, (0, (([] : List ZB), ())))).1)) && (decide ((List.getD s22 (s24).toNat (0, (0, (([] : List ZB), ())))).1 < (2 : Int)))) then
    bif (Nat.beq ((List.getD s22 (s24).toNat (0, (0, (([] : List ZB), ())))).1).toNat 0) then
     bif (Jyj (h2, (h3, ())) (List.getD s22 (s24).toNat (0, (0, (([] : List ZB), ())))).2.1 (((List.getD s22 (s24).toNat (0, (0, (([] : List ZB), ())))).2.2.1.length : Nat) : Int)) then
     bif (!(Jqj (h2, (h3, ())) (List.getD s22 (s24).toNat (0, (0, (([] : List ZB), ())))).2.1 (((List.getD s22 (s24).toNat (0, (0, (([] : List ZB), ())))).2.2.1.length : Nat) : Int))) then
      ex0 l s24 2 s22 s23 s24 (([] : List ZB), (([] : List ZR), ())) h2 h3
     else
     Jse F fail
      (fun s18 s19 s20 l1 s51 s61 i s221 s231 s241 h1 h21 op s41 =>
       next l1 s51 s61 s221 s231 (Jay s241 1) s41 h1 h21)
      F (List.getD s22 (s24).toNat (0, (0, (([] : List ZB), ())))).2.2.1 (((List.getD s22 (s24).toNat (0, (0, (([] : List ZB), ())))).2.2.1.length : Nat) : Int) 0 l s5 s6 s24 s22 s23 s24 h2 h3 (List.getD s22 (s24).toNat (0, (0, (([] : List ZB), ())))) s4
     else fail
    else
    bif (Nat.beq ((List.getD s22 (s24).toNat (0, (0, (([] : List ZB), ())))).1).toNat 1) then
    bif (Jhd (h2, (h3, ()))) then
    next l s5 s6 s22 s23 (Jay s24 1) s4 (Jii (h2, (h3, ()))) ([] : List ZR)
    else fail
    else fail
    else fail
   else
   ex0 l s24 1 s22 s23 s24 (([] : List ZB), (([] : List ZR), ())) h2 h3
  else
  ex0 l s24 1 s22 s23 s24 (([] : List ZB), (([] : List ZR), ())) h2 h3
  else fail
 else
 ex1 l s5 s6 s22 s23 s24 s4 h2 h3
def Jom {X : Type} (F : Nat) (fail : X) (ex0 ex1 : List (Int × (Int × ((List ZB) × Unit))) → Int → Int → List (Int × (Int × ((List ZB) × Unit))) → Int → Int → ZD → List ZB → List ZR → X) : Nat → List (Int × (Int × ((List ZB) × Unit))) → Int → Int → List (Int × (Int × ((List ZB) × Unit))) → Int → Int → ZD → List ZB → List ZR → X
 | 0, _, _, _, _, _, _, _, _, _ => fail
 | m + 1, l, s5, s6, s22, s23, s24, s4, h2, h3 => Kbi F fail (Jom F fail ex0 ex1 m) ex0 ex1 l s5 s6 s22 s23 s24 s4 h2 h3
def dRun {X : Type} (F : Nat) (d_ : ZD) (l : List (Int × (Int × ((List ZB) × Unit)))) (fail : X) (ret : ZD → Int → Int → X) : X :=
 bif (Jiw d_) then
 bif ((Je4 d_) != 0) then
  ret (([] : List ZB), (([] : List ZR), ())) 0 (Je4 d_)
 else
 bif (Jhy d_.1) then
 bif (Jwe d_.2.1) then
 Jom F fail
  (fun l1 s5 s6 s22 s23 s24 s4 h2 h3 =>
   ret s4 s5 s6)
  (fun l2 s51 s61 s221 s231 s241 s41 h21 h31 =>
   ret (h21, (h31, ())) (l2.length : Int) 0)
  F l 0 0 l (l.length : Int) 0 (([] : List ZB), (([] : List ZR), ())) (Joa d_.1) (J1r d_.2.1)
 else fail
 else fail
 else fail
def Kll {X : Type} (F : Nat) (choices : List Int) (n : Int) (fail : X) (ret : Int → List Int → X) : X :=
 bif ((choices.length : Int) == 0) then
  ret 0 ([] : List Int)
 else
 bif (decide (0 < (choices.length : Int))) then
 bif (n != 0) then
 bif (decide ((Jgg (List.getD choices 0 0) n) < 0)) then
  bif (decide (1 ≤ (choices.length : Int))) then
  ret (Jay (Jgg (List.getD choices 0 0) n) n) (List.drop 1 choices)
  else fail
 else
 bif (decide (1 ≤ (choices.length : Int))) then
 ret (Jgg (List.getD choices 0 0) n) (List.drop 1 choices)
 else fail
 else fail
 else fail
def Jwm {X : Type} (F : Nat) (fail : X) (next ex0 : List Int → List ZR → Int → Int → ZD → ZD → List (Int × (List ZB)) → List Int → X) (choices : List Int) (s24 : List ZR) (s25 s26 : Int) (d_ s4 : ZD) (versions : List (Int × (List ZB))) (places : List Int) : X :=
 bif (decide (s26 < s25)) then
  bif ((decide (0 ≤ s26)) && (decide (s26 < (s24.length : Int)))) then
  bif (Option.isNone (Jdu (Jdc (.int .i64)) (List.getD s24 (s26).toNat (0, (z16, ()))).1 versions)) then
   bif (decide ((places ++ ([(List.getD s24 (s26).toNat ((0 : Int), (z16, ()))).1] : List Int)).length ≤ big)) then
   bif ((decide (0 ≤ (List.getD s24 (s26).toNat (0, (z16, ()))).1)) && (decide ((List.getD s24 (s26).toNat (0, (z16, ()))).1 < ((d_.1.length : Nat) : Int)))) then
   bif (decide (versions.length < big)) then
   bif (Option.isSome (Jdu (Jdc (.int .i64)) (List.getD s24 (s26).toNat (0, (z16, ()))).1 (Jki (Jdc (.int .i64)) (List.getD s24 (s26).toNat (0, (z16, ()))).1 ([(List.getD d_.1 ((List.getD s24 (s26).toNat (0, (z16, ()))).1).toNat z16)] : List ZB) versions))) then
   bif (decide (((Option.getD (Jdu (Jdc (.int .i64)) (List.getD s24 (s26).toNat ((0 : Int), (z16, ()))).1 (Jki (Jdc (.int .i64)) (List.getD s24 (s26).toNat ((0 : Int), (z16, ()))).1 ([(List.getD d_.1 ((List.getD s24 (s26).toNat ((0 : Int), (z16, ()))).1).toNat z16)] : List ZB) versions)) ([] : List ZB)) ++ ([(List.getD s24 (s26).toNat ((0 : Int), (z16, ()))).2.1] : List ZB)).length ≤ big)) then
   bif (((Jdc (.int .i64) (List.getD s24 (s26).toNat ((0 : Int), (z16, ()))).1 (List.getD s24 (s26).toNat ((0 : Int), (z16, ()))).1) && (decide (0 < ((Option.getD (Jdu (Jdc (.int .i64)) (List.getD s24 (s26).toNat ((0 : Int), (z16, ()))).1 (Jki (Jdc (.int .i64)) (List.getD s24 (s26).toNat ((0 : Int), (z16, ()))).1 ([(List.getD d_.1 ((List.getD s24 (s26).toNat ((0 : Int), (z16, ()))).1).toNat z16)] : List ZB) versions)) ([] : List ZB)) ++ ([(List.getD s24 (s26).toNat ((0 : Int), (z16, ()))).2.1] : List ZB)).length))) && (decide ((Jki (Jdc (.int .i64)) (List.getD s24 (s26).toNat ((0 : Int), (z16, ()))).1 ([(List.getD d_.1 ((List.getD s24 (s26).toNat ((0 : Int), (z16, ()))).1).toNat z16)] : List ZB) versions).length < big))) then
   next choices s24 s25 (Jay s26 (1 : Int)) d_ s4 (Jki (Jdc (.int .i64)) (List.getD s24 (s26).toNat ((0 : Int), (z16, ()))).1 ((Option.getD (Jdu (Jdc (.int .i64)) (List.getD s24 (s26).toNat ((0 : Int), (z16, ()))).1 (Jki (Jdc (.int .i64)) (List.getD s24 (s26).toNat ((0 : Int), (z16, ()))).1 ([(List.getD d_.1 ((List.getD s24 (s26).toNat ((0 : Int), (z16, ()))).1).toNat z16)] : List ZB) versions)) ([] : List ZB)) ++ ([(List.getD s24 (s26).toNat ((0 : Int), (z16, ()))).2.1] : List ZB)) (Jki (Jdc (.int .i64)) (List.getD s24 (s26).toNat ((0 : Int), (z16, ()))).1 ([(List.getD d_.1 ((List.getD s24 (s26).toNat ((0 : Int), (z16, ()))).1).toNat z16)] : List ZB) versions)) (places ++ ([(List.getD s24 (s26).toNat ((0 : Int), (z16, ()))).1] : List Int))
   else fail
   else fail
   else fail
   else fail
   else fail
   else fail
  else
  bif (Option.isSome (Jdu (Jdc (.int .i64)) (List.getD s24 (s26).toNat (0, (z16, ()))).1 versions)) then
  bif (decide (((Option.getD (Jdu (Jdc (.int .i64)) (List.getD s24 (s26).toNat ((0 : Int), (z16, ()))).1 versions) ([] : List ZB)) ++ ([(List.getD s24 (s26).toNat ((0 : Int), (z16, ()))).2.1] : List ZB)).length ≤ big)) then
  bif (((Jdc (.int .i64) (List.getD s24 (s26).toNat ((0 : Int), (z16, ()))).1 (List.getD s24 (s26).toNat ((0 : Int), (z16, ()))).1) && (decide (0 < ((Option.getD (Jdu (Jdc (.int .i64)) (List.getD s24 (s26).toNat ((0 : Int), (z16, ()))).1 versions) ([] : List ZB)) ++ ([(List.getD s24 (s26).toNat ((0 : Int), (z16, ()))).2.1] : List ZB)).length))) && (decide (versions.length < big))) then
  next choices s24 s25 (Jay s26 (1 : Int)) d_ s4 (Jki (Jdc (.int .i64)) (List.getD s24 (s26).toNat ((0 : Int), (z16, ()))).1 ((Option.getD (Jdu (Jdc (.int .i64)) (List.getD s24 (s26).toNat ((0 : Int), (z16, ()))).1 versions) ([] : List ZB)) ++ ([(List.getD s24 (s26).toNat ((0 : Int), (z16, ()))).2.1] : List ZB)) versions) places
  else fail
  else fail
  else fail
  else fail
 else
 ex0 choices s24 s25 s26 d_ s4 versions places
def Jkn {X : Type} (F : Nat) (fail : X) (ex0 : List Int → List ZR → Int → Int → ZD → ZD → List (Int × (List ZB)) → List Int → X) : Nat → List Int → List ZR → Int → Int → ZD → ZD → List (Int × (List ZB)) → List Int → X
 | 0, _, _, _, _, _, _, _, _ => fail
 | m + 1, choices, s24, s25, s26, d_, s4, versions, places => Jwm F fail (Jkn F fail ex0 m) ex0 choices s24 s25 s26 d_ s4 versions places
def Jwn {X : Type} (F : Nat) (fail : X) (next ex0 : List Int → Int → Int → ZD → List (Int × (List ZB)) → ((List ZR) × Unit) → List ZB → List Int → X) (choices : List Int) (s67 s68 : Int) (s4 : ZD) (versions : List (Int × (List ZB))) (out : ((List ZR) × Unit)) (h3 : List ZB) (s66 : List Int) : X :=
 bif (decide (s68 < s67)) then
  bif ((decide (0 ≤ s68)) && (decide (s68 < (s66.length : Int)))) then
  bif (Jqk choices (((Option.getD (Jdu (Jdc (.int .i64)) (List.getD s66 (s68).toNat 0) versions) ([] : List ZB)).length : Nat) : Int)) then
  bif ((decide (0 ≤ (Jij choices (((Option.getD (Jdu (Jdc (.int .i64)) (List.getD s66 (s68).toNat 0) versions) ([] : List ZB)).length : Nat) : Int)))) && (decide ((Jij choices (((Option.getD (Jdu (Jdc (.int .i64)) (List.getD s66 (s68).toNat 0) versions) ([] : List ZB)).length : Nat) : Int)) < (((Option.getD (Jdu (Jdc (.int .i64)) (List.getD s66 (s68).toNat 0) versions) ([] : List ZB)).length : Nat) : Int)))) then
  bif ((decide (0 ≤ (List.getD s66 (s68).toNat 0))) && (decide ((List.getD s66 (s68).toNat 0) < (h3.length : Int)))) then
  next (Jm0 choices (((Option.getD (Jdu (Jdc (.int .i64)) (List.getD s66 (s68).toNat 0) versions) ([] : List ZB)).length : Nat) : Int)) s67 (Jay s68 1) s4 versions out (List.set h3 ((List.getD s66 (s68).toNat 0)).toNat (List.getD (Option.getD (Jdu (Jdc (.int .i64)) (List.getD s66 (s68).toNat 0) versions) ([] : List ZB)) ((Jij choices (((Option.getD (Jdu (Jdc (.int .i64)) (List.getD s66 (s68).toNat 0) versions) ([] : List ZB)).length : Nat) : Int))).toNat z16)) s66
  else fail
  else fail
  else fail
  else fail
 else
 ex0 choices s67 s68 s4 versions out h3 s66
def Jko {X : Type} (F : Nat) (fail : X) (ex0 : List Int → Int → Int → ZD → List (Int × (List ZB)) → ((List ZR) × Unit) → List ZB → List Int → X) : Nat → List Int → Int → Int → ZD → List (Int × (List ZB)) → ((List ZR) × Unit) → List ZB → List Int → X
 | 0, _, _, _, _, _, _, _, _ => fail
 | m + 1, choices, s67, s68, s4, versions, out, h3, s66 => Jwn F fail (Jko F fail ex0 m) ex0 choices s67 s68 s4 versions out h3 s66
def Kxe {X : Type} (F : Nat) (d_ : ZD) (choices : List Int) (fail : X) (ret : ZD → List Int → Int → X) : X :=
 bif (Jiw d_) then
 bif ((Je4 d_) != 0) then
  ret (([] : List ZB), (([] : List ZR), ())) ([] : List Int) (Je4 d_)
 else
 Jkn F fail
  (fun choices1 s24 s25 s26 d_1 s4 versions places =>
   bif (Jhy d_1.1) then
   Jko F fail
    (fun choices2 s67 s68 s41 versions1 out h3 s66 =>
     bif (J3h choices2) then
     ret (h3, out) (Ka8 choices2) 0
     else fail)
    F choices1 (places.length : Int) 0 s4 versions (([] : List ZR), ()) (Joa d_1.1) places
   else fail)
  F choices d_.2.1 ((d_.2.1.length : Nat) : Int) 0 d_ (([] : List ZB), (([] : List ZR), ())) ([] : List (Int × (List ZB))) ([] : List Int)
 else fail
def Jyp {X : Type} (F : Nat) (d_ : ZD) (l : List (Int × (Int × ((List ZB) × Unit)))) (after : Int) (choices : List Int) (fail : X) (ret : ZD → List Int → Int → X) : X :=
 bif (Jiw d_) then
 bif ((Je4 d_) != 0) then
  ret (([] : List ZB), (([] : List ZR), ())) ([] : List Int) (Je4 d_)
 else
 bif (decide (after < 0)) then
  ret (([] : List ZB), (([] : List ZR), ())) ([] : List Int) 2
 else
 bif (decide (after > (l.length : Int))) then
  ret (([] : List ZB), (([] : List ZR), ())) ([] : List Int) 2
 else
 bif ((decide (0 ≤ after)) && (decide (after ≤ (l.length : Int)))) then
 bif (Jz0 d_ (List.take (after).toNat l)) then
 bif ((Jk8 d_ (List.take (after).toNat l)) != 0) then
  ret (([] : List ZB), (([] : List ZR), ())) ([] : List Int) (Jk8 d_ (List.take (after).toNat l))
 else
 bif (Jwf (Jgi d_ (List.take (after).toNat l)) choices) then
 ret (Jql (Jgi d_ (List.take (after).toNat l)) choices) (Jqm (Jgi d_ (List.take (after).toNat l)) choices) (Jqn (Jgi d_ (List.take (after).toNat l)) choices)
 else fail
 else fail
 else fail
 else fail
end Go.AI
namespace Go.AI
open Go
set_option linter.unusedVariables false
def rotr {X : Type} (F : Nat) (x_ : UInt32) (n : Int) (fail : X) (ret : UInt32 → X) : X :=
 bif (decide (0 ≤ n)) then
 bif (decide (0 ≤ (Jb3 32 n))) then
 ret (orW (Jr7 x_ n) (Jxz x_ (Jb3 32 n)))
 else fail
 else fail
def shr {X : Type} (F : Nat) (x_ : UInt32) (n : Int) (fail : X) (ret : UInt32 → X) : X :=
 bif (decide (0 ≤ n)) then
 ret (Jr7 x_ n)
 else fail
def Klm {X : Type} (F : Nat) (x_ : UInt32) (a b c : Int) (fail : X) (ret : UInt32 → X) : X :=
 bif (Jtj x_ a) then
 bif (Jtj x_ b) then
 bif (Jtj x_ c) then
 ret (Jmm (Jmm (J3j x_ a) (J3j x_ b)) (J3j x_ c))
 else fail
 else fail
 else fail
def Kln {X : Type} (F : Nat) (x_ : UInt32) (a b c : Int) (fail : X) (ret : UInt32 → X) : X :=
 bif (Jtj x_ a) then
 bif (Jtj x_ b) then
 bif (K24 x_ c) then
 ret (Jmm (Jmm (J3j x_ a) (J3j x_ b)) (K60 x_ c))
 else fail
 else fail
 else fail
def K5e {X : Type} (F : Nat) (fail : X) (ret : ZW → X) : X :=
 ret (List.set (List.set (List.set (List.set (List.set (List.set (List.set (List.set (List.set (List.set (List.set (List.set (List.set (List.set (List.set (List.set (List.set (List.set (List.set (List.set (List.set (List.set (List.set (List.set (List.set (List.set (List.set (List.set (List.set (List.set (List.set (List.set (List.set (List.set (List.set (List.set (List.set (List.set (List.set (List.set (List.set (List.set (List.set (List.set (List.set (List.set (List.set (List.set (List.set (List.set (List.set (List.set (List.set (List.set (List.set (List.set (List.set (List.set (List.set (List.set (List.set (List.set (List.set (List.set (List.replicate 64 (0 : UInt32)) 0 (1116352408 : UInt32)) 1 (1899447441 : UInt32)) 2 (3049323471 : UInt32)) 3 (3921009573 : UInt32)) 4 (961987163 : UInt32)) 5 (1508970993 : UInt32)) 6 (2453635748 : UInt32)) 7 (2870763221 : UInt32)) 8 (3624381080 : UInt32)) 9 (310598401 : UInt32)) 10 (607225278 : UInt32)) 11 (1426881987 : UInt32)) 12 (1925078388 : UInt32)) 13 (2162078206 : UInt32)) 14 (2614888103 : UInt32)) 15 (3248222580 : UInt32)) 16 (3835390401 : UInt32)) 17 (4022224774 : UInt32)) 18 (264347078 : UInt32)) 19 (604807628 : UInt32)) 20 (770255983 : UInt32)) 21 (1249150122 : UInt32)) 22 (1555081692 : UInt32)) 23 (1996064986 : UInt32)) 24 (2554220882 : UInt32)) 25 (2821834349 : UInt32)) 26 (2952996808 : UInt32)) 27 (3210313671 : UInt32)) 28 (3336571891 : UInt32)) 29 (3584528711 : UInt32)) 30 (113926993 : UInt32)) 31 (338241895 : UInt32)) 32 (666307205 : UInt32)) 33 (773529912 : UInt32)) 34 (1294757372 : UInt32)) 35 (1396182291 : UInt32)) 36 (1695183700 : UInt32)) 37 (1986661051 : UInt32)) 38 (2177026350 : UInt32)) 39 (2456956037 : UInt32)) 40 (2730485921 : UInt32)) 41 (2820302411 : UInt32)) 42 (3259730800 : UInt32)) 43 (3345764771 : UInt32)) 44 (3516065817 : UInt32)) 45 (3600352804 : UInt32)) 46 (4094571909 : UInt32)) 47 (275423344 : UInt32)) 48 (430227734 : UInt32)) 49 (506948616 : UInt32)) 50 (659060556 : UInt32)) 51 (883997877 : UInt32)) 52 (958139571 : UInt32)) 53 (1322822218 : UInt32)) 54 (1537002063 : UInt32)) 55 (1747873779 : UInt32)) 56 (1955562222 : UInt32)) 57 (2024104815 : UInt32)) 58 (2227730452 : UInt32)) 59 (2361852424 : UInt32)) 60 (2428436474 : UInt32)) 61 (2756734187 : UInt32)) 62 (3204031479 : UInt32)) 63 (3329325298 : UInt32))
def Jwo {X : Type} (F : Nat) (fail : X) (next ex0 : Int → UInt32 → ZW → Int → ZB → Int → Int → ZW → ZB → ZW → ZW → ZW → X) (i : Int) (k : UInt32) (s10 : ZW) (s11 : Int) (s23 : ZB) (s24 s25 : Int) (x_ : ZW) (s1 : ZB) (w s s4 : ZW) : X :=
 bif (decide (s25 < s24)) then
  bif ((decide (0 ≤ s25)) && (decide (s25 < (s23.length : Int)))) then
  bif ((decide (0 ≤ i)) && (decide (i < (16 : Int)))) then
  bif ((decide (0 ≤ i)) && (decide (i < (16 : Int)))) then
  next i k s10 s11 s23 s24 (Jay s25 1) x_ s1 (List.set w (i).toNat (orW (Jxz (List.getD w (i).toNat 0) 8) (Jx0 (List.getD s23 (s25).toNat 0)))) s s4
  else fail
  else fail
  else fail
 else
 ex0 i k s10 s11 s23 s24 s25 x_ s1 w s s4
def Jhi {X : Type} (F : Nat) (fail : X) (ex0 : Int → UInt32 → ZW → Int → ZB → Int → Int → ZW → ZB → ZW → ZW → ZW → X) : Nat → Int → UInt32 → ZW → Int → ZB → Int → Int → ZW → ZB → ZW → ZW → ZW → X
 | 0, _, _, _, _, _, _, _, _, _, _, _, _ => fail
 | m + 1, i, k, s10, s11, s23, s24, s25, x_, s1, w, s, s4 => Jwo F fail (Jhi F fail ex0 m) ex0 i k s10 s11 s23 s24 s25 x_ s1 w s s4
def Jwp {X : Type} (F : Nat) (fail : X) (next ex0 : ZW → Int → ZW → ZB → ZW → ZW → ZW → X) (s10 : ZW) (s11 : Int) (x_ : ZW) (s1 : ZB) (w s s4 : ZW) : X :=
 bif (decide (s11 < 64)) then
  bif ((decide (0 ≤ s11)) && (decide (s11 < (64 : Int)))) then
  bif (decide (s11 < 16)) then
   bif (((decide (0 ≤ (Jl4 4 s11))) && (decide ((Jl4 4 s11) ≤ (Jay (Jl4 4 s11) 4)))) && (decide ((Jay (Jl4 4 s11) 4) ≤ (s1.length : Int)))) then
   Jhi F fail
    (fun i k s101 s111 s23 s24 s25 x_1 s12 w1 s2 s41 =>
     bif ((decide ((0 : Int) ≤ (Jgg i (16 : Int)))) && (decide ((Jgg i (16 : Int)) < ((16 : Nat) : Int)))) then
     bif (Jft (List.getD x_1 4 0) 6 11 25 168) then
     bif (Jft (List.getD x_1 0 0) 2 13 22 168) then
     next s101 (Jay s111 1) ([(Jdb (Jdb (Jdb (Jdb (List.getD x_1 7 0) (Jel (List.getD x_1 4 0) 6 11 25 168)) (Jmm (List.getD x_1 6 0) (J3d (List.getD x_1 4 0) (Jmm (List.getD x_1 5 0) (List.getD x_1 6 0))))) (Jdb k (List.getD w1 ((Jgg i 16)).toNat 0))) (Jdb (Jel (List.getD x_1 0 0) 2 13 22 168) (orW (J3d (List.getD x_1 0 0) (List.getD x_1 1 0)) (J3d (List.getD x_1 2 0) (orW (List.getD x_1 0 0) (List.getD x_1 1 0)))))), (List.getD x_1 0 0), (List.getD x_1 1 0), (List.getD x_1 2 0), (Jdb (List.getD x_1 3 0) (Jdb (Jdb (Jdb (List.getD x_1 7 0) (Jel (List.getD x_1 4 0) 6 11 25 168)) (Jmm (List.getD x_1 6 0) (J3d (List.getD x_1 4 0) (Jmm (List.getD x_1 5 0) (List.getD x_1 6 0))))) (Jdb k (List.getD w1 ((Jgg i 16)).toNat 0)))), (List.getD x_1 4 0), (List.getD x_1 5 0), (List.getD x_1 6 0)] : ZW) s12 w1 s2 s41
     else fail
     else fail
     else fail)
    F s11 (List.getD s10 (s11).toNat 0) s10 s11 (List.drop ((Jl4 4 s11)).toNat (List.take ((Jay (Jl4 4 s11) 4)).toNat s1)) (((List.drop ((Jl4 4 s11)).toNat (List.take ((Jay (Jl4 4 s11) 4)).toNat s1)).length : Nat) : Int) 0 x_ s1 w s s4
   else fail
  else
  bif ((decide ((0 : Int) ≤ (Jgg (Jb3 s11 (15 : Int)) (16 : Int)))) && (decide ((Jgg (Jb3 s11 (15 : Int)) (16 : Int)) < ((16 : Nat) : Int)))) then
  bif (Jft (List.getD w ((Jgg (Jb3 s11 15) 16)).toNat 0) 7 18 3 177) then
  bif ((decide ((0 : Int) ≤ (Jgg (Jb3 s11 (2 : Int)) (16 : Int)))) && (decide ((Jgg (Jb3 s11 (2 : Int)) (16 : Int)) < ((16 : Nat) : Int)))) then
  bif (Jft (List.getD w ((Jgg (Jb3 s11 2) 16)).toNat 0) 17 19 10 177) then
  bif ((decide ((0 : Int) ≤ (Jgg s11 (16 : Int)))) && (decide ((Jgg s11 (16 : Int)) < ((16 : Nat) : Int)))) then
  bif ((decide ((0 : Int) ≤ (Jgg (Jb3 s11 (7 : Int)) (16 : Int)))) && (decide ((Jgg (Jb3 s11 (7 : Int)) (16 : Int)) < ((16 : Nat) : Int)))) then
  bif ((decide ((0 : Int) ≤ (Jgg s11 (16 : Int)))) && (decide ((Jgg s11 (16 : Int)) < ((16 : Nat) : Int)))) then
  bif ((decide ((0 : Int) ≤ (Jgg s11 (16 : Int)))) && (decide ((Jgg s11 (16 : Int)) < ((16 : Nat) : Int)))) then
  bif (Jft (List.getD x_ 4 0) 6 11 25 168) then
  bif (Jft (List.getD x_ 0 0) 2 13 22 168) then
  next s10 (Jay s11 1) ([(Jdb (Jdb (Jdb (Jdb (List.getD x_ 7 0) (Jel (List.getD x_ 4 0) 6 11 25 168)) (Jmm (List.getD x_ 6 0) (J3d (List.getD x_ 4 0) (Jmm (List.getD x_ 5 0) (List.getD x_ 6 0))))) (Jdb (List.getD s10 (s11).toNat 0) (List.getD (List.set w ((Jgg s11 16)).toNat (Jdb (List.getD w ((Jgg s11 16)).toNat 0) (Jdb (Jdb (Jel (List.getD w ((Jgg (Jb3 s11 15) 16)).toNat 0) 7 18 3 177) (List.getD w ((Jgg (Jb3 s11 7) 16)).toNat 0)) (Jel (List.getD w ((Jgg (Jb3 s11 2) 16)).toNat 0) 17 19 10 177)))) ((Jgg s11 16)).toNat 0))) (Jdb (Jel (List.getD x_ 0 0) 2 13 22 168) (orW (J3d (List.getD x_ 0 0) (List.getD x_ 1 0)) (J3d (List.getD x_ 2 0) (orW (List.getD x_ 0 0) (List.getD x_ 1 0)))))), (List.getD x_ 0 0), (List.getD x_ 1 0), (List.getD x_ 2 0), (Jdb (List.getD x_ 3 0) (Jdb (Jdb (Jdb (List.getD x_ 7 0) (Jel (List.getD x_ 4 0) 6 11 25 168)) (Jmm (List.getD x_ 6 0) (J3d (List.getD x_ 4 0) (Jmm (List.getD x_ 5 0) (List.getD x_ 6 0))))) (Jdb (List.getD s10 (s11).toNat 0) (List.getD (List.set w ((Jgg s11 16)).toNat (Jdb (List.getD w ((Jgg s11 16)).toNat 0) (Jdb (Jdb (Jel (List.getD w ((Jgg (Jb3 s11 15) 16)).toNat 0) 7 18 3 177) (List.getD w ((Jgg (Jb3 s11 7) 16)).toNat 0)) (Jel (List.getD w ((Jgg (Jb3 s11 2) 16)).toNat 0) 17 19 10 177)))) ((Jgg s11 16)).toNat 0)))), (List.getD x_ 4 0), (List.getD x_ 5 0), (List.getD x_ 6 0)] : ZW) s1 (List.set w ((Jgg s11 16)).toNat (Jdb (List.getD w ((Jgg s11 16)).toNat 0) (Jdb (Jdb (Jel (List.getD w ((Jgg (Jb3 s11 15) 16)).toNat 0) 7 18 3 177) (List.getD w ((Jgg (Jb3 s11 7) 16)).toNat 0)) (Jel (List.getD w ((Jgg (Jb3 s11 2) 16)).toNat 0) 17 19 10 177)))) s s4
  else fail
  else fail
  else fail
  else fail
  else fail
  else fail
  else fail
  else fail
  else fail
  else fail
  else fail
 else
 ex0 s10 s11 x_ s1 w s s4
def Jkp {X : Type} (F : Nat) (fail : X) (ex0 : ZW → Int → ZW → ZB → ZW → ZW → ZW → X) : Nat → ZW → Int → ZW → ZB → ZW → ZW → ZW → X
 | 0, _, _, _, _, _, _, _ => fail
 | m + 1, s10, s11, x_, s1, w, s, s4 => Jwp F fail (Jkp F fail ex0 m) ex0 s10 s11 x_ s1 w s s4
def Kgb {X : Type} (F : Nat) (fail : X) (next ex0 : Int → ZW → ZW → ZW → X) (s71 : Int) (s s4 x_ : ZW) : X :=
 bif (decide (s71 < 8)) then
  bif ((decide (0 ≤ s71)) && (decide (s71 < (8 : Int)))) then
  bif ((decide (0 ≤ s71)) && (decide (s71 < (8 : Int)))) then
  bif ((decide (0 ≤ s71)) && (decide (s71 < (8 : Int)))) then
  next (Jay s71 1) s s4 (List.set x_ (s71).toNat (Jdb (List.getD x_ (s71).toNat 0) (List.getD s (s71).toNat 0)))
  else fail
  else fail
  else fail
 else
 ex0 s71 s s4 x_
def Jna {X : Type} (F : Nat) (fail : X) (ex0 : Int → ZW → ZW → ZW → X) : Nat → Int → ZW → ZW → ZW → X
 | 0, _, _, _, _ => fail
 | m + 1, s71, s, s4, x_ => Kgb F fail (Jna F fail ex0 m) ex0 s71 s s4 x_
def Kxf {X : Type} (F : Nat) (s : ZW) (block : ZB) (fail : X) (ret : ZW → X) : X :=
 bif (J1s) then
 Jkp F fail
  (fun s10 s11 x_ s1 w s2 s4 =>
   Jna F fail
    (fun s71 s3 s41 x_1 =>
     ret x_1)
    F 0 s2 s4 x_)
  F (Kba) 0 s block ([0, 0, 0, 0, 0, 0, 0, 0, 0, 0, 0, 0, 0, 0, 0, 0] : ZW) s ([0, 0, 0, 0, 0, 0, 0, 0] : ZW)
 else fail
def hNew {X : Type} (F : Nat) (fail : X) (ret : ZH → X) : X :=
 ret (([1779033703, 3144134277, 1013904242, 2773480762, 1359893119, 2600822924, 528734635, 1541459225] : ZW), (([] : ZB), (0, ())))
def Kgc {X : Type} (F : Nat) (fail : X) (next ex0 : ZB → ZW → Int → ZH → ZH → ZW → X) (b : ZB) (s13 : ZW) (s14 : Int) (h s4 : ZH) (s : ZW) : X :=
 bif (decide (s14 < 8)) then
  bif ((decide (0 ≤ s14)) && (decide (s14 < (8 : Int)))) then
  bif ((decide (0 ≤ s14)) && (decide (s14 < (8 : Int)))) then
  next b s13 (Jay s14 1) h s4 (List.set s (s14).toNat (List.getD s13 (s14).toNat 0))
  else fail
  else fail
 else
 ex0 b s13 s14 h s4 s
def Jsf {X : Type} (F : Nat) (fail : X) (ex0 : ZB → ZW → Int → ZH → ZH → ZW → X) : Nat → ZB → ZW → Int → ZH → ZH → ZW → X
 | 0, _, _, _, _, _, _ => fail
 | m + 1, b, s13, s14, h, s4, s => Kgc F fail (Jsf F fail ex0 m) ex0 b s13 s14 h s4 s
def Jwq {X : Type} (F : Nat) (fail : X) (next ex0 : ZB → ZB → ZH → ZH → ZW → X) (b all : ZB) (h s4 : ZH) (s : ZW) : X :=
 bif (decide ((all.length : Int) ≥ 64)) then
  bif (Jwg s all) then
  bif (decide (64 ≤ (all.length : Int))) then
  next b (List.drop 64 all) h s4 (Kbb s all)
  else fail
  else fail
 else
 ex0 b all h s4 s
def Jkq {X : Type} (F : Nat) (fail : X) (ex0 : ZB → ZB → ZH → ZH → ZW → X) : Nat → ZB → ZB → ZH → ZH → ZW → X
 | 0, _, _, _, _, _ => fail
 | m + 1, b, all, h, s4, s => Jwq F fail (Jkq F fail ex0 m) ex0 b all h s4 s
def Kgd {X : Type} (F : Nat) (fail : X) (next ex0 : ZW → Int → ZH → ZW → (Int × Unit) → ZB → X) (s49 : ZW) (s50 : Int) (s4 : ZH) (out : ZW) (out1 : (Int × Unit)) (h2 : ZB) : X :=
 bif (decide (s50 < 8)) then
  bif ((decide (0 ≤ s50)) && (decide (s50 < (8 : Int)))) then
  bif ((decide (0 ≤ s50)) && (decide (s50 < (8 : Int)))) then
  next s49 (Jay s50 1) s4 (List.set out (s50).toNat (List.getD s49 (s50).toNat 0)) out1 h2
  else fail
  else fail
 else
 ex0 s49 s50 s4 out out1 h2
def Jsg {X : Type} (F : Nat) (fail : X) (ex0 : ZW → Int → ZH → ZW → (Int × Unit) → ZB → X) : Nat → ZW → Int → ZH → ZW → (Int × Unit) → ZB → X
 | 0, _, _, _, _, _, _ => fail
 | m + 1, s49, s50, s4, out, out1, h2 => Kgd F fail (Jsg F fail ex0 m) ex0 s49 s50 s4 out out1 h2
def Kxg {X : Type} (F : Nat) (h : ZH) (b : ZB) (fail : X) (ret : ZH → X) : X :=
 Jsf F fail
  (fun b1 s13 s14 h1 s4 s =>
   bif (((decide (0 ≤ ((h1.2.1.length : Nat) : Int))) && (decide (((h1.2.1.length : Nat) : Int) ≤ ((h1.2.1.length : Nat) : Int)))) && (((h1.2.1.length : Nat) : Int) == ((h1.2.1.length : Nat) : Int))) then
   bif (decide (((List.take h1.2.1.length h1.2.1) ++ b1).length ≤ big)) then
   Jkq F fail
    (fun b2 all h2 s41 s1 =>
     bif (decide (all.length ≤ big)) then
     Jsg F fail
      (fun s49 s50 s42 out out1 h21 =>
       ret (out, (h21, out1)))
      F s1 0 s41 ([0, 0, 0, 0, 0, 0, 0, 0] : ZW) ((Jay h2.2.2.1 (b2.length : Int)), ()) all
     else fail)
    F b1 ((List.take h1.2.1.length h1.2.1) ++ b1) h1 s4 s
   else fail
   else fail)
  F b h.1 0 h (([0, 0, 0, 0, 0, 0, 0, 0] : ZW), (([] : ZB), (0, ()))) ([0, 0, 0, 0, 0, 0, 0, 0] : ZW)
def Jsh {X : Type} (F : Nat) (fail : X) (next ex0 : Int → ZH → ZB → ZB → X) (shift : Int) (h : ZH) (s2 pad : ZB) : X :=
 bif (decide (shift ≥ 0)) then
  bif (decide (0 ≤ shift)) then
  bif (decide ((pad ++ ([(Jth (Jkj (mulU (Kss h.2.2.1) (8 : Int)) shift))] : ZB)).length ≤ big)) then
  next (Jb3 shift (8 : Int)) h s2 (pad ++ ([(Jth (Jkj (mulU (Kss h.2.2.1) (8 : Int)) shift))] : ZB))
  else fail
  else fail
 else
 ex0 shift h s2 pad
def Jfv {X : Type} (F : Nat) (fail : X) (ex0 : Int → ZH → ZB → ZB → X) : Nat → Int → ZH → ZB → ZB → X
 | 0, _, _, _, _ => fail
 | m + 1, shift, h, s2, pad => Jsh F fail (Jfv F fail ex0 m) ex0 shift h s2 pad
def J8v {X : Type} (F : Nat) (fail : X) (next ex0 : Int → UInt32 → ZW → Int → Int → ZB → ZB → X) (i : Int) (x_ : UInt32) (s35 : ZW) (s36 s40 : Int) (s2 out : ZB) : X :=
 bif (decide (s40 < 4)) then
  bif (decide (0 ≤ (Jb3 24 (Jl4 8 s40)))) then
  bif ((decide (0 ≤ (Jay (Jl4 4 i) s40))) && (decide ((Jay (Jl4 4 i) s40) < (32 : Int)))) then
  next i x_ s35 s36 (Jay s40 1) s2 (List.set out ((Jay (Jl4 4 i) s40)).toNat (J3e (Jr7 x_ (Jb3 24 (Jl4 8 s40)))))
  else fail
  else fail
 else
 ex0 i x_ s35 s36 s40 s2 out
def Jur {X : Type} (F : Nat) (fail : X) (ex0 : Int → UInt32 → ZW → Int → Int → ZB → ZB → X) : Nat → Int → UInt32 → ZW → Int → Int → ZB → ZB → X
 | 0, _, _, _, _, _, _, _ => fail
 | m + 1, i, x_, s35, s36, s40, s2, out => J8v F fail (Jur F fail ex0 m) ex0 i x_ s35 s36 s40 s2 out
def J8w {X : Type} (F : Nat) (fail : X) (next ex0 : ZW → Int → ZB → ZB → X) (s35 : ZW) (s36 : Int) (s2 out : ZB) : X :=
 bif (decide (s36 < 8)) then
  bif ((decide (0 ≤ s36)) && (decide (s36 < (8 : Int)))) then
  Jur F fail
   (fun i x_ s351 s361 s40 s21 out1 =>
    next s351 (Jay s361 1) s21 out1)
   F s36 (List.getD s35 (s36).toNat 0) s35 s36 0 s2 out
  else fail
 else
 ex0 s35 s36 s2 out
def Jon {X : Type} (F : Nat) (fail : X) (ex0 : ZW → Int → ZB → ZB → X) : Nat → ZW → Int → ZB → ZB → X
 | 0, _, _, _, _ => fail
 | m + 1, s35, s36, s2, out => J8w F fail (Jon F fail ex0 m) ex0 s35 s36 s2 out
def Klo {X : Type} (F : Nat) (h : ZH) (fail : X) (ret : ZB → X) : X :=
 bif (((decide (0 ≤ (Jay 1 (Jgg (Jb3 119 ((h.2.1.length : Nat) : Int)) 64)))) && (decide ((Jay 1 (Jgg (Jb3 119 ((h.2.1.length : Nat) : Int)) 64)) ≤ 72))) && (decide (72 ≤ ((big : Nat) : Int)))) then
 bif (decide ((0 : Int) < (((List.replicate ((Jay (1 : Int) (Jgg (Jb3 (119 : Int) ((h.2.1.length : Nat) : Int)) (64 : Int)))).toNat (0 : UInt8)).length : Nat) : Int))) then
 Jfv F fail
  (fun shift h1 s2 pad =>
   bif (Jee h1 pad) then
   Jon F fail
    (fun s35 s36 s21 out =>
     ret out)
    F (Jc5 h1 pad).1 (0 : Int) s2 (List.replicate 32 (0 : UInt8))
   else fail)
  F (56 : Int) h (List.replicate 32 (0 : UInt8)) (List.set (List.replicate ((Jay (1 : Int) (Jgg (Jb3 (119 : Int) ((h.2.1.length : Nat) : Int)) (64 : Int)))).toNat (0 : UInt8)) 0 (128 : UInt8))
 else fail
 else fail
def dSum {X : Type} (F : Nat) (b : ZB) (fail : X) (ret : ZB → X) : X :=
 bif (Jz1) then
 bif (Jee (Jgh) b) then
 bif (Jgl (Jc5 (Jgh) b)) then
 ret (Ji6 (Jc5 (Jgh) b))
 else fail
 else fail
 else fail
end Go.AI
namespace Go.AI
open Go
set_option linter.unusedVariables false
def Jbx  : ZB := [0, 1, 2, 2, 3, 3, 3, 3, 4, 4, 4, 4, 4, 4, 4, 4, 5, 5, 5, 5, 5, 5, 5, 5, 5, 5, 5, 5, 5, 5, 5, 5, 6, 6, 6, 6, 6, 6, 6, 6, 6, 6, 6, 6, 6, 6, 6, 6, 6, 6, 6, 6, 6, 6, 6, 6, 6, 6, 6, 6, 6, 6, 6, 6, 7, 7, 7, 7, 7, 7, 7, 7, 7, 7, 7, 7, 7, 7, 7, 7, 7, 7, 7, 7, 7, 7, 7, 7, 7, 7, 7, 7, 7, 7, 7, 7, 7, 7, 7, 7, 7, 7, 7, 7, 7, 7, 7, 7, 7, 7, 7, 7, 7, 7, 7, 7, 7, 7, 7, 7, 7, 7, 7, 7, 7, 7, 7, 7, 8, 8, 8, 8, 8, 8, 8, 8, 8, 8, 8, 8, 8, 8, 8, 8, 8, 8, 8, 8, 8, 8, 8, 8, 8, 8, 8, 8, 8, 8, 8, 8, 8, 8, 8, 8, 8, 8, 8, 8, 8, 8, 8, 8, 8, 8, 8, 8, 8, 8, 8, 8, 8, 8, 8, 8, 8, 8, 8, 8, 8, 8, 8, 8, 8, 8, 8, 8, 8, 8, 8, 8, 8, 8, 8, 8, 8, 8, 8, 8, 8, 8, 8, 8, 8, 8, 8, 8, 8, 8, 8, 8, 8, 8, 8, 8, 8, 8, 8, 8, 8, 8, 8, 8, 8, 8, 8, 8, 8, 8, 8, 8, 8, 8, 8, 8, 8, 8, 8, 8, 8, 8, 8, 8, 8, 8, 8, 8]
def Jyq {X : Type} (F : Nat) (x_ : Int) (fail : X) (ret : Int → X) : X :=
 bif (decide (x_ ≥ 4294967296)) then
  bif (decide ((Jkj x_ (32 : Int)) ≥ (65536 : Int))) then
   bif (decide ((Jkj (Jkj x_ (32 : Int)) (16 : Int)) ≥ (256 : Int))) then
    bif ((decide (0 ≤ ((((Jth (Jkj (Jkj (Jkj x_ 32) 16) 8))).toNat : Nat) : Int))) && (decide (((((Jth (Jkj (Jkj (Jkj x_ 32) 16) 8))).toNat : Nat) : Int) < (Jbx.length : Int)))) then
    ret (Jay 56 (Jyh (List.getD Jbx ((Jth (Jkj (Jkj (Jkj x_ 32) 16) 8))).toNat 0)))
    else fail
   else
   bif ((decide (0 ≤ ((((Jth (Jkj (Jkj x_ 32) 16))).toNat : Nat) : Int))) && (decide (((((Jth (Jkj (Jkj x_ 32) 16))).toNat : Nat) : Int) < (Jbx.length : Int)))) then
   ret (Jay 48 (Jyh (List.getD Jbx ((Jth (Jkj (Jkj x_ 32) 16))).toNat 0)))
   else fail
  else
  bif (decide ((Jkj x_ (32 : Int)) ≥ (256 : Int))) then
   bif ((decide (0 ≤ ((((Jth (Jkj (Jkj x_ 32) 8))).toNat : Nat) : Int))) && (decide (((((Jth (Jkj (Jkj x_ 32) 8))).toNat : Nat) : Int) < (Jbx.length : Int)))) then
   ret (Jay 40 (Jyh (List.getD Jbx ((Jth (Jkj (Jkj x_ 32) 8))).toNat 0)))
   else fail
  else
  bif ((decide (0 ≤ ((((Jth (Jkj x_ 32))).toNat : Nat) : Int))) && (decide (((((Jth (Jkj x_ 32))).toNat : Nat) : Int) < (Jbx.length : Int)))) then
  ret (Jay 32 (Jyh (List.getD Jbx ((Jth (Jkj x_ 32))).toNat 0)))
  else fail
 else
 bif (decide (x_ ≥ 65536)) then
  bif (decide ((Jkj x_ (16 : Int)) ≥ (256 : Int))) then
   bif ((decide (0 ≤ ((((Jth (Jkj (Jkj x_ 16) 8))).toNat : Nat) : Int))) && (decide (((((Jth (Jkj (Jkj x_ 16) 8))).toNat : Nat) : Int) < (Jbx.length : Int)))) then
   ret (Jay 24 (Jyh (List.getD Jbx ((Jth (Jkj (Jkj x_ 16) 8))).toNat 0)))
   else fail
  else
  bif ((decide (0 ≤ ((((Jth (Jkj x_ 16))).toNat : Nat) : Int))) && (decide (((((Jth (Jkj x_ 16))).toNat : Nat) : Int) < (Jbx.length : Int)))) then
  ret (Jay 16 (Jyh (List.getD Jbx ((Jth (Jkj x_ 16))).toNat 0)))
  else fail
 else
 bif (decide (x_ ≥ 256)) then
  bif ((decide (0 ≤ ((((Jth (Jkj x_ 8))).toNat : Nat) : Int))) && (decide (((((Jth (Jkj x_ 8))).toNat : Nat) : Int) < (Jbx.length : Int)))) then
  ret (Jay 8 (Jyh (List.getD Jbx ((Jth (Jkj x_ 8))).toNat 0)))
  else fail
 else
 bif ((decide (0 ≤ ((((Jth x_)).toNat : Nat) : Int))) && (decide (((((Jth x_)).toNat : Nat) : Int) < (Jbx.length : Int)))) then
 ret (Jay 0 (Jyh (List.getD Jbx ((Jth x_)).toNat 0)))
 else fail
def J3q {X : Type} (F : Nat) (x_ : UInt8) (fail : X) (ret : Int → X) : X :=
 bif ((decide (0 ≤ (((x_).toNat : Nat) : Int))) && (decide ((((x_).toNat : Nat) : Int) < (Jbx.length : Int)))) then
 ret (Jyh (List.getD Jbx (x_).toNat 0))
 else fail
def Kbj {X : Type} (F : Nat) (x_ : Int) (fail : X) (ret : Int → X) : X :=
 bif (Jmb x_) then
 ret (Jqq x_)
 else fail
def Jh2 {X : Type} (F : Nat) (x_ : UInt8) (fail : X) (ret : Int → X) : X :=
 ret (Jb3 8 (Joc x_))
def J3r {X : Type} (F : Nat) (n : Int) (fail : X) (ret : Int → X) : X :=
 bif (decide (n < 0)) then
  ret 0
 else
 bif (decide (n > 9007199254740991)) then
  ret 0
 else
 ret n
def Jqx {X : Type} (F : Nat) (n : Int) (fail : X) (ret : Int → X) : X :=
 bif (Jsa (Kss n)) then
 ret (quoI (maxI 0 (Jb3 (Jsb (Kss n)) 1)) 7)
 else fail
def J8x {X : Type} (F : Nat) (s : ZB) (fail : X) (Jmt : X → X → X) (ret : ZB → X) : X :=
 bif (List.isEmpty s) then
  Jmt (
   ret ([] : ZB)) (
   bif (decide (s.length ≤ big)) then
   ret s
   else fail)
 else
 bif (decide (s.length ≤ big)) then
 ret s
 else fail
def Joo {X : Type} (F : Nat) (fail : X) (next ex0 : Int → Int → ZB → X) (n i : Int) (dst : ZB) : X :=
 bif (decide (i ≥ 0)) then
  bif (decide (0 ≤ (Jl4 8 i))) then
  bif (decide ((dst ++ ([(Kld (Kf5 n (Jl4 (8 : Int) i)))] : ZB)).length ≤ big)) then
  next n (Jb3 i (1 : Int)) (dst ++ ([(Kld (Kf5 n (Jl4 (8 : Int) i)))] : ZB))
  else fail
  else fail
 else
 ex0 n i dst
def Jhj {X : Type} (F : Nat) (fail : X) (ex0 : Int → Int → ZB → X) : Nat → Int → Int → ZB → X
 | 0, _, _, _ => fail
 | m + 1, n, i, dst => Joo F fail (Jhj F fail ex0 m) ex0 n i dst
def Kbk {X : Type} (F : Nat) (dst : ZB) (n : Int) (fail : X) (ret : ZB → X) : X :=
 bif (Jdy (Jca n)) then
 bif (decide (0 ≤ (Jb3 8 (Jbs (Jca n))))) then
 bif (decide (0 ≤ (Jl4 8 (Jbs (Jca n))))) then
 bif (decide ((dst ++ ([(orB (shlB (255 : UInt8) (Jb3 (8 : Int) (Jbs (Jca n)))) (Kld (Kf5 (Jca n) (Jl4 (8 : Int) (Jbs (Jca n))))))] : ZB)).length ≤ big)) then
 Jhj F fail
  (fun n1 i dst1 =>
   ret dst1)
  F (Jca n) (Jb3 (Jbs (Jca n)) (1 : Int)) (dst ++ ([(orB (shlB (255 : UInt8) (Jb3 (8 : Int) (Jbs (Jca n)))) (Kld (Kf5 (Jca n) (Jl4 (8 : Int) (Jbs (Jca n))))))] : ZB))
 else fail
 else fail
 else fail
 else fail
def Jus {X : Type} (F : Nat) (dst : ZB) (n : Int) (fail : X) (ret : ZB → X) : X :=
 bif (Jbt dst) then
 bif (Jkk (Jch dst) n) then
 ret (Jm1 (Jch dst) n)
 else fail
 else fail
def Jop {X : Type} (F : Nat) (fail : X) (next ex0 : ZB → Int → Int → ZB → Int → Int → X) (src : ZB) (k n : Int) (s33 : ZB) (s34 s35 : Int) : X :=
 bif (decide (s35 < s34)) then
  bif ((decide (0 ≤ s35)) && (decide (s35 < (s33.length : Int)))) then
  next src k (orI (K6v n 8) (Jyh (List.getD s33 (s35).toNat 0))) s33 s34 (Jay s35 1)
  else fail
 else
 ex0 src k n s33 s34 s35
def Jhk {X : Type} (F : Nat) (fail : X) (ex0 : ZB → Int → Int → ZB → Int → Int → X) : Nat → ZB → Int → Int → ZB → Int → Int → X
 | 0, _, _, _, _, _, _ => fail
 | m + 1, src, k, n, s33, s34, s35 => Jop F fail (Jhk F fail ex0 m) ex0 src k n s33 s34 s35
def Kbl {X : Type} (F : Nat) (src : ZB) (fail : X) (ret : Int → ZB → Int → X) : X :=
 bif ((src.length : Int) == 0) then
  ret 0 ([] : ZB) 9
 else
 bif (decide (0 < (src.length : Int))) then
 bif (decide ((Ja0 (K1u (List.getD src 0 0))) > 7)) then
  ret 0 ([] : ZB) 3
 else
 bif (decide ((src.length : Int) ≤ (Ja0 (K1u (List.getD src 0 0))))) then
  ret 0 ([] : ZB) 9
 else
 bif (decide (0 < (src.length : Int))) then
 bif (decide (0 ≤ (Ja0 (K1u (List.getD src 0 0))))) then
 bif ((decide (1 ≤ (Jay (Ja0 (K1u (List.getD src 0 0))) 1))) && (decide ((Jay (Ja0 (K1u (List.getD src 0 0))) 1) ≤ (src.length : Int)))) then
 Jhk F fail
  (fun src1 k n s33 s34 s35 =>
   bif (decide (n > 9007199254740991)) then
    ret 0 ([] : ZB) 3
   else
   bif (Jdy n) then
   bif ((Jbs n) != k) then
    ret 0 ([] : ZB) 3
   else
   bif ((decide (0 ≤ (Jay k 1))) && (decide ((Jay k 1) ≤ (src1.length : Int)))) then
   bif (Jbt (List.drop ((Jay k 1)).toNat src1)) then
   ret n (Jch (List.drop ((Jay k 1)).toNat src1)) 0
   else fail
   else fail
   else fail)
  F src (Ja0 (K1u (List.getD src 0 0))) (Jyh (andB (List.getD src 0 0) (shrB 127 (Ja0 (K1u (List.getD src 0 0)))))) (List.drop 1 (List.take ((Jay (Ja0 (K1u (List.getD src 0 0))) 1)).toNat src)) (((List.drop 1 (List.take ((Jay (Ja0 (K1u (List.getD src 0 0))) 1)).toNat src)).length : Nat) : Int) 0
 else fail
 else fail
 else fail
 else fail
end Go.AI
namespace Go.AI
open Go
set_option linter.unusedVariables false
def Jgo {X : Type} (F : Nat) (fail : X) (next ex0 : ZB → Int → Int → ZB → X) (s14 : ZB) (s15 s16 : Int) (dst : ZB) : X :=
 bif (decide (s16 < s15)) then
  bif ((decide (0 ≤ s16)) && (decide (s16 < (s14.length : Int)))) then
  bif (decide ((dst ++ ([(List.getD s14 (s16).toNat (0 : UInt8))] : ZB)).length ≤ big)) then
  next s14 s15 (Jay s16 (1 : Int)) (dst ++ ([(List.getD s14 (s16).toNat (0 : UInt8))] : ZB))
  else fail
  else fail
 else
 ex0 s14 s15 s16 dst
def Jdz {X : Type} (F : Nat) (fail : X) (ex0 : ZB → Int → Int → ZB → X) : Nat → ZB → Int → Int → ZB → X
 | 0, _, _, _, _ => fail
 | m + 1, s14, s15, s16, dst => Jgo F fail (Jdz F fail ex0 m) ex0 s14 s15 s16 dst
def Joq {X : Type} (F : Nat) (dst b : ZB) (fail : X) (ret : ZB → X) : X :=
 bif (Jbt dst) then
 bif (Jkk (Jch dst) (b.length : Int)) then
 Jdz F fail
  (fun s14 s15 s16 dst1 =>
   ret dst1)
  F b (b.length : Int) 0 (Jm1 (Jch dst) (b.length : Int))
 else fail
 else fail
def Jyr {X : Type} (F : Nat) (src : ZB) (fail : X) (ret : ZB → ZB → Int → X) : X :=
 bif (Jeu src) then
 bif ((Jbi src) == 0) then
  bif (decide ((Jao src) > 65536)) then
   ret ([] : ZB) ([] : ZB) 5
  else
  bif ((Jbi src) != 0) then
   ret ([] : ZB) ([] : ZB) (Jbi src)
  else
  bif (decide ((((Jal src).length : Nat) : Int) < (Jao src))) then
   ret ([] : ZB) ([] : ZB) 9
  else
  bif ((decide (0 ≤ (Jao src))) && (decide ((Jao src) ≤ (((Jal src).length : Nat) : Int)))) then
  bif (Jbt (List.take ((Jao src)).toNat (Jal src))) then
  bif ((decide (0 ≤ (Jao src))) && (decide ((Jao src) ≤ (((Jal src).length : Nat) : Int)))) then
  bif (Jbt (List.drop ((Jao src)).toNat (Jal src))) then
  ret (Jch (List.take ((Jao src)).toNat (Jal src))) (Jch (List.drop ((Jao src)).toNat (Jal src))) 0
  else fail
  else fail
  else fail
  else fail
 else
 bif ((Jbi src) != 0) then
  ret ([] : ZB) ([] : ZB) (Jbi src)
 else
 bif (decide ((((Jal src).length : Nat) : Int) < (Jao src))) then
  ret ([] : ZB) ([] : ZB) 9
 else
 bif ((decide (0 ≤ (Jao src))) && (decide ((Jao src) ≤ (((Jal src).length : Nat) : Int)))) then
 bif (Jbt (List.take ((Jao src)).toNat (Jal src))) then
 bif ((decide (0 ≤ (Jao src))) && (decide ((Jao src) ≤ (((Jal src).length : Nat) : Int)))) then
 bif (Jbt (List.drop ((Jao src)).toNat (Jal src))) then
 ret (Jch (List.take ((Jao src)).toNat (Jal src))) (Jch (List.drop ((Jao src)).toNat (Jal src))) 0
 else fail
 else fail
 else fail
 else fail
 else fail
end Go.AI
namespace Go.AI
open Go
set_option linter.unusedVariables false
def Jwr {X : Type} (F : Nat) (fail : X) (next ex0 : UInt8 → Int → Int → ZB → X) (by_ : UInt8) (s19 s20 : Int) (out : ZB) : X :=
 bif (decide (s20 < s19)) then
  bif ((decide (0 ≤ s20)) && (decide (s20 < (out.length : Int)))) then
  bif ((decide (0 ≤ s20)) && (decide (s20 < (out.length : Int)))) then
  next by_ s19 (Jay s20 1) (List.set out (s20).toNat (J6f (List.getD out (s20).toNat 0) by_))
  else fail
  else fail
 else
 ex0 by_ s19 s20 out
def Jio {X : Type} (F : Nat) (fail : X) (ex0 : UInt8 → Int → Int → ZB → X) : Nat → UInt8 → Int → Int → ZB → X
 | 0, _, _, _, _ => fail
 | m + 1, by_, s19, s20, out => Jwr F fail (Jio F fail ex0 m) ex0 by_ s19 s20 out
def Kxh {X : Type} (F : Nat) (key : ZB) (by_ : UInt8) (fail : X) (ret : ZB → X) : X :=
 bif (decide ((key.length : Int) > 64)) then
  bif (Kf7 key) then
  bif (decide (64 ≤ ((big : Nat) : Int))) then
  Jio F fail
   (fun by_1 s19 s20 out =>
    ret out)
   F by_ (((((List.take 0 (List.replicate 64 (0 : UInt8))) ++ (List.take (min (List.take 32 (Jtk key)).length (List.replicate 64 (0 : UInt8)).length) (List.take 32 (Jtk key)))) ++ (List.drop (0 + (min (List.take 32 (Jtk key)).length (List.replicate 64 (0 : UInt8)).length)) (List.replicate 64 (0 : UInt8)))).length : Nat) : Int) (0 : Int) (((List.take 0 (List.replicate 64 (0 : UInt8))) ++ (List.take (min (List.take 32 (Jtk key)).length (List.replicate 64 (0 : UInt8)).length) (List.take 32 (Jtk key)))) ++ (List.drop (0 + (min (List.take 32 (Jtk key)).length (List.replicate 64 (0 : UInt8)).length)) (List.replicate 64 (0 : UInt8))))
  else fail
  else fail
 else
 bif (decide (64 ≤ ((big : Nat) : Int))) then
 Jio F fail
  (fun by_2 s191 s201 out1 =>
   ret out1)
  F by_ (((((List.take 0 (List.replicate 64 (0 : UInt8))) ++ (List.take (min key.length (List.replicate 64 (0 : UInt8)).length) key)) ++ (List.drop (0 + (min key.length (List.replicate 64 (0 : UInt8)).length)) (List.replicate 64 (0 : UInt8)))).length : Nat) : Int) (0 : Int) (((List.take 0 (List.replicate 64 (0 : UInt8))) ++ (List.take (min key.length (List.replicate 64 (0 : UInt8)).length) key)) ++ (List.drop (0 + (min key.length (List.replicate 64 (0 : UInt8)).length)) (List.replicate 64 (0 : UInt8))))
 else fail
def dMac {X : Type} (F : Nat) (key b : ZB) (fail : X) (ret : ZB → X) : X :=
 bif (Jz1) then
 bif (Jr9 key 54) then
 bif (Jee (Jgh) (Jen key 54)) then
 bif (Jee (Jc5 (Jgh) (Jen key 54)) b) then
 bif (Jgl (Jc5 (Jc5 (Jgh) (Jen key 54)) b)) then
 bif (Jz1) then
 bif (Jr9 key 92) then
 bif (Jee (Jgh) (Jen key 92)) then
 bif (Jee (Jc5 (Jgh) (Jen key 92)) (List.take 32 (Ji6 (Jc5 (Jc5 (Jgh) (Jen key 54)) b)))) then
 bif (Jgl (Jc5 (Jc5 (Jgh) (Jen key 92)) (List.take 32 (Ji6 (Jc5 (Jc5 (Jgh) (Jen key 54)) b))))) then
 ret (Ji6 (Jc5 (Jc5 (Jgh) (Jen key 92)) (List.take 32 (Ji6 (Jc5 (Jc5 (Jgh) (Jen key 54)) b)))))
 else fail
 else fail
 else fail
 else fail
 else fail
 else fail
 else fail
 else fail
 else fail
 else fail
end Go.AI
namespace Go.AI
open Go
set_option linter.unusedVariables false
def K64 {X : Type} (F : Nat) (key : ZB) (fail : X) (ret : ZB → ZB → X) : X :=
 bif (Jqp key ([101, 110, 99, 114, 121, 112, 116] : ZB)) then
 bif (Jqp key ([97, 117, 116, 104, 101, 110, 116, 105, 99, 97, 116, 101] : ZB)) then
 ret (Jz2 key ([101, 110, 99, 114, 121, 112, 116] : ZB)) (Jz2 key ([97, 117, 116, 104, 101, 110, 116, 105, 99, 97, 116, 101] : ZB))
 else fail
 else fail
def Kbm {X : Type} (F : Nat) (fail : X) (next ex0 : Int → ZB → Int → ZB → ZB → X) (nonce : Int) (b : ZB) (s10 : Int) (key l : ZB) : X :=
 bif (decide (s10 < 8)) then
  bif (decide (0 ≤ (Jl4 8 s10))) then
  bif (decide ((l ++ ([(Kld (Kf5 nonce (Jl4 (8 : Int) s10)))] : ZB)).length ≤ big)) then
  next nonce b (Jay s10 (1 : Int)) key (l ++ ([(Kld (Kf5 nonce (Jl4 (8 : Int) s10)))] : ZB))
  else fail
  else fail
 else
 ex0 nonce b s10 key l
def Jsi {X : Type} (F : Nat) (fail : X) (ex0 : Int → ZB → Int → ZB → ZB → X) : Nat → Int → ZB → Int → ZB → ZB → X
 | 0, _, _, _, _, _ => fail
 | m + 1, nonce, b, s10, key, l => Kbm F fail (Jsi F fail ex0 m) ex0 nonce b s10 key l
def cTag {X : Type} (F : Nat) (key : ZB) (nonce : Int) (b : ZB) (fail : X) (ret : ZB → X) : X :=
 Jsi F fail
  (fun nonce1 b1 s10 Jpq l =>
   bif (decide ((l ++ b1).length ≤ big)) then
   bif (Jqp (List.take 32 Jpq) (l ++ b1)) then
   ret (List.take 16 (Jz2 (List.take 32 Jpq) (l ++ b1)))
   else fail
   else fail)
  F nonce b 0 key ([] : ZB)
def Klp {X : Type} (F : Nat) (key : ZB) (fail : X) (ret : Bool → X) : X :=
 bif (decide ((key.length : Int) ≥ 1)) then
  ret (decide ((key.length : Int) ≤ 64))
 else
 ret false
def J1y {X : Type} (F : Nat) (fail : X) (next ex0 : Int → Int → ZB → Int → ZB → ZB → ZB → ZB → ZB → X) (nonce s10 : Int) (key : ZB) (nonce1 : Int) (b b1 Jpq l authenticate : ZB) : X :=
 bif (decide (s10 < 8)) then
  bif (decide (0 ≤ (Jl4 8 s10))) then
  bif (decide ((l ++ ([(Kld (Kf5 nonce (Jl4 (8 : Int) s10)))] : ZB)).length ≤ big)) then
  next nonce (Jay s10 (1 : Int)) key nonce1 b b1 Jpq (l ++ ([(Kld (Kf5 nonce (Jl4 (8 : Int) s10)))] : ZB)) authenticate
  else fail
  else fail
 else
 ex0 nonce s10 key nonce1 b b1 Jpq l authenticate
def Jnb {X : Type} (F : Nat) (fail : X) (ex0 : Int → Int → ZB → Int → ZB → ZB → ZB → ZB → ZB → X) : Nat → Int → Int → ZB → Int → ZB → ZB → ZB → ZB → ZB → X
 | 0, _, _, _, _, _, _, _, _, _ => fail
 | m + 1, nonce, s10, key, nonce1, b, b1, Jpq, l, authenticate => J1y F fail (Jnb F fail ex0 m) ex0 nonce s10 key nonce1 b b1 Jpq l authenticate
def K65 {X : Type} (F : Nat) (key : ZB) (nonce : Int) (b : ZB) (fail : X) (ret : ZB → Int → X) : X :=
 bif (!(Jla key)) then
  ret ([] : ZB) 1
 else
 bif (decide ((b.length : Int) > 65520)) then
  ret ([] : ZB) 5
 else
 bif (Joe key) then
 bif (Jk9 (Jfn key) nonce b) then
 bif ((Jgb (Jfn key) nonce b) != 0) then
  ret ([] : ZB) (Jgb (Jfn key) nonce b)
 else
 Jnb F fail
  (fun nonce1 s10 Jpq nonce2 b1 b2 key2 l authenticate =>
   bif (decide ((l ++ b2).length ≤ big)) then
   bif (Jqp (List.take 32 key2) (l ++ b2)) then
   bif (decide ((b2 ++ (List.take 16 (Jz2 (List.take 32 key2) (l ++ b2)))).length ≤ big)) then
   ret (b2 ++ (List.take 16 (Jz2 (List.take 32 key2) (l ++ b2)))) (0 : Int)
   else fail
   else fail
   else fail)
  F nonce 0 key nonce b (Jik (Jfn key) nonce b) (Jgn key) ([] : ZB) (Jgn key)
 else fail
 else fail
def K66 {X : Type} (F : Nat) (key : ZB) (nonce : Int) (b : ZB) (fail : X) (ret : ZB → Int → X) : X :=
 bif (!(Jla key)) then
  ret ([] : ZB) 1
 else
 bif (decide ((b.length : Int) > 65536)) then
  ret ([] : ZB) 5
 else
 bif (!(Jod nonce)) then
  ret ([] : ZB) 2
 else
 bif (decide ((Jb3 ((b.length : Nat) : Int) (16 : Int)) < (0 : Int))) then
  ret ([] : ZB) 9
 else
 bif (Joe key) then
 bif ((decide (0 ≤ (Jb3 (b.length : Int) 16))) && (decide ((Jb3 (b.length : Int) 16) ≤ (b.length : Int)))) then
 bif (Jz3 (Jgn key) nonce (List.take ((Jb3 (b.length : Int) 16)).toNat b)) then
 bif ((decide (0 ≤ (Jb3 (b.length : Int) 16))) && (decide ((Jb3 (b.length : Int) 16) ≤ (b.length : Int)))) then
 bif (Jhe (Jz4 (Jgn key) nonce (List.take ((Jb3 (b.length : Int) 16)).toNat b)) (List.drop ((Jb3 (b.length : Int) 16)).toNat b)) then
 bif (!(Jhf (Jz4 (Jgn key) nonce (List.take ((Jb3 (b.length : Int) 16)).toNat b)) (List.drop ((Jb3 (b.length : Int) 16)).toNat b))) then
  ret ([] : ZB) 25
 else
 bif ((decide (0 ≤ (Jb3 (b.length : Int) 16))) && (decide ((Jb3 (b.length : Int) 16) ≤ (b.length : Int)))) then
 bif (Jk9 (Jfn key) nonce (List.take ((Jb3 (b.length : Int) 16)).toNat b)) then
 ret (Jik (Jfn key) nonce (List.take ((Jb3 (b.length : Int) 16)).toNat b)) (Jgb (Jfn key) nonce (List.take ((Jb3 (b.length : Int) 16)).toNat b))
 else fail
 else fail
 else fail
 else fail
 else fail
 else fail
 else fail
def Jj7 {X : Type} (F : Nat) (fail : X) (next ex0 ex1 : ZB → ZB → Bool → Int → Int → X) (s1 s2 : ZB) (s4 : Bool) (s12 s13 : Int) : X :=
 bif (decide (s13 < s12)) then
  bif ((decide (0 ≤ s13)) && (decide (s13 < (s1.length : Int)))) then
  bif ((decide (0 ≤ s13)) && (decide (s13 < (s2.length : Int)))) then
  bif (((((List.getD s1 (s13).toNat 0)).toNat : Nat) : Int) != ((((List.getD s2 (s13).toNat 0)).toNat : Nat) : Int)) then
   ex0 s1 s2 false s12 s13
  else
  next s1 s2 s4 s12 (Jay s13 1)
  else fail
  else fail
 else
 ex1 s1 s2 s4 s12 s13
def Jfi {X : Type} (F : Nat) (fail : X) (ex0 ex1 : ZB → ZB → Bool → Int → Int → X) : Nat → ZB → ZB → Bool → Int → Int → X
 | 0, _, _, _, _, _ => fail
 | m + 1, s1, s2, s4, s12, s13 => Jj7 F fail (Jfi F fail ex0 ex1 m) ex0 ex1 s1 s2 s4 s12 s13
def Jys {X : Type} (F : Nat) (s1 s2 : ZB) (fail : X) (ret : Bool → X) : X :=
 bif ((s1.length : Int) != (s2.length : Int)) then
  ret false
 else
 Jfi F fail
  (fun s11 s21 s4 s12 s13 =>
   ret s4)
  (fun s14 s22 s41 s121 s131 =>
   ret true)
  F s1 s2 false (s1.length : Int) 0
end Go.AI
namespace Go.AI
open Go
set_option linter.unusedVariables false
def K67 {X : Type} (F : Nat) (x_ : UInt32) (k : Int) (fail : X) (ret : UInt32 → X) : X :=
 ret (orW (Jxz x_ (K9j (Kss k) 31)) (Jr7 x_ (subU 32 (K9j (Kss k) 31))))
def Jws {X : Type} (F : Nat) (fail : X) (next ex0 : Int → Int → Int → Int → Int → ZB → ZW → ZW → X) (nonce counter i s11 s14 : Int) (key : ZB) (s6 w : ZW) : X :=
 bif (decide (s14 < 4)) then
  bif ((decide (0 ≤ (Jay 4 i))) && (decide ((Jay 4 i) < (16 : Int)))) then
  bif ((decide (0 ≤ (Jay (Jl4 4 i) s14))) && (decide ((Jay (Jl4 4 i) s14) < (32 : Int)))) then
  bif (decide (0 ≤ (Jl4 8 s14))) then
  bif ((decide (0 ≤ (Jay 4 i))) && (decide ((Jay 4 i) < (16 : Int)))) then
  next nonce counter i s11 (Jay s14 1) key s6 (List.set w ((Jay 4 i)).toNat (orW (List.getD w ((Jay 4 i)).toNat 0) (Jxz (Jx0 (List.getD key ((Jay (Jl4 4 i) s14)).toNat 0)) (Jl4 8 s14))))
  else fail
  else fail
  else fail
  else fail
 else
 ex0 nonce counter i s11 s14 key s6 w
def Jhl {X : Type} (F : Nat) (fail : X) (ex0 : Int → Int → Int → Int → Int → ZB → ZW → ZW → X) : Nat → Int → Int → Int → Int → Int → ZB → ZW → ZW → X
 | 0, _, _, _, _, _, _, _, _ => fail
 | m + 1, nonce, counter, i, s11, s14, key, s6, w => Jws F fail (Jhl F fail ex0 m) ex0 nonce counter i s11 s14 key s6 w
def Jwt {X : Type} (F : Nat) (fail : X) (next ex0 : Int → Int → Int → ZB → ZW → ZW → X) (nonce counter s11 : Int) (key : ZB) (s6 w : ZW) : X :=
 bif (decide (s11 < 8)) then
  Jhl F fail
   (fun nonce1 counter1 i s111 s14 Jpq s61 w1 =>
    next nonce1 counter1 (Jay s111 1) Jpq s61 w1)
   F nonce counter s11 s11 0 key s6 w
 else
 ex0 nonce counter s11 key s6 w
def Jkr {X : Type} (F : Nat) (fail : X) (ex0 : Int → Int → Int → ZB → ZW → ZW → X) : Nat → Int → Int → Int → ZB → ZW → ZW → X
 | 0, _, _, _, _, _, _ => fail
 | m + 1, nonce, counter, s11, key, s6, w => Jwt F fail (Jkr F fail ex0 m) ex0 nonce counter s11 key s6 w
def Kxi {X : Type} (F : Nat) (key : ZB) (nonce counter : Int) (fail : X) (ret : ZW → X) : X :=
 Jkr F fail
  (fun nonce1 counter1 s11 Jpq s6 w =>
   ret (List.set (List.set (List.set w 12 (Kux counter1)) 14 (Kux nonce1)) 15 (Kux (Kf5 nonce1 32))))
  F nonce counter 0 key ([0, 0, 0, 0, 0, 0, 0, 0, 0, 0, 0, 0, 0, 0, 0, 0] : ZW) ([1634760805, 857760878, 2036477234, 1797285236, 0, 0, 0, 0, 0, 0, 0, 0, 0, 0, 0, 0] : ZW)
def Kbn {X : Type} (F : Nat) (fail : X) (next ex0 : List (Int × ZL) → Int → Int → Int → ZW → ZW → X) (s30 : List (Int × ZL)) (s31 s7 s9 : Int) (w w1 : ZW) : X :=
 bif (decide (s31 < 4)) then
  bif ((decide (0 ≤ s31)) && (decide (s31 < (4 : Int)))) then
  bif ((decide (0 ≤ (List.getD s30 (s31).toNat (0, (0, (0, (0, ()))))).1)) && (decide ((List.getD s30 (s31).toNat (0, (0, (0, (0, ()))))).1 < (16 : Int)))) then
  bif ((decide (0 ≤ (List.getD s30 (s31).toNat (0, (0, (0, (0, ()))))).2.1)) && (decide ((List.getD s30 (s31).toNat (0, (0, (0, (0, ()))))).2.1 < (16 : Int)))) then
  bif ((decide (0 ≤ (List.getD s30 (s31).toNat (0, (0, (0, (0, ()))))).1)) && (decide ((List.getD s30 (s31).toNat (0, (0, (0, (0, ()))))).1 < (16 : Int)))) then
  bif ((decide (0 ≤ (List.getD s30 (s31).toNat (0, (0, (0, (0, ()))))).2.2.1)) && (decide ((List.getD s30 (s31).toNat (0, (0, (0, (0, ()))))).2.2.1 < (16 : Int)))) then
  bif ((decide (0 ≤ (List.getD s30 (s31).toNat (0, (0, (0, (0, ()))))).1)) && (decide ((List.getD s30 (s31).toNat (0, (0, (0, (0, ()))))).1 < (16 : Int)))) then
  bif (Jyk (Jmm (List.getD (List.set w ((List.getD s30 (s31).toNat (0, (0, (0, (0, ()))))).1).toNat (Jdb (List.getD w ((List.getD s30 (s31).toNat (0, (0, (0, (0, ()))))).1).toNat 0) (List.getD w ((List.getD s30 (s31).toNat (0, (0, (0, (0, ()))))).2.1).toNat 0))) ((List.getD s30 (s31).toNat (0, (0, (0, (0, ()))))).2.2.1).toNat 0) (List.getD (List.set w ((List.getD s30 (s31).toNat (0, (0, (0, (0, ()))))).1).toNat (Jdb (List.getD w ((List.getD s30 (s31).toNat (0, (0, (0, (0, ()))))).1).toNat 0) (List.getD w ((List.getD s30 (s31).toNat (0, (0, (0, (0, ()))))).2.1).toNat 0))) ((List.getD s30 (s31).toNat (0, (0, (0, (0, ()))))).1).toNat 0)) (List.getD s30 (s31).toNat (0, (0, (0, (0, ()))))).2.2.2.1) then
  bif ((decide (0 ≤ (List.getD s30 (s31).toNat (0, (0, (0, (0, ()))))).2.2.1)) && (decide ((List.getD s30 (s31).toNat (0, (0, (0, (0, ()))))).2.2.1 < (16 : Int)))) then
  next s30 (Jay s31 1) s7 s9 (List.set (List.set w ((List.getD s30 (s31).toNat (0, (0, (0, (0, ()))))).1).toNat (Jdb (List.getD w ((List.getD s30 (s31).toNat (0, (0, (0, (0, ()))))).1).toNat 0) (List.getD w ((List.getD s30 (s31).toNat (0, (0, (0, (0, ()))))).2.1).toNat 0))) ((List.getD s30 (s31).toNat (0, (0, (0, (0, ()))))).2.2.1).toNat (J3k (Jmm (List.getD (List.set w ((List.getD s30 (s31).toNat (0, (0, (0, (0, ()))))).1).toNat (Jdb (List.getD w ((List.getD s30 (s31).toNat (0, (0, (0, (0, ()))))).1).toNat 0) (List.getD w ((List.getD s30 (s31).toNat (0, (0, (0, (0, ()))))).2.1).toNat 0))) ((List.getD s30 (s31).toNat (0, (0, (0, (0, ()))))).2.2.1).toNat 0) (List.getD (List.set w ((List.getD s30 (s31).toNat (0, (0, (0, (0, ()))))).1).toNat (Jdb (List.getD w ((List.getD s30 (s31).toNat (0, (0, (0, (0, ()))))).1).toNat 0) (List.getD w ((List.getD s30 (s31).toNat (0, (0, (0, (0, ()))))).2.1).toNat 0))) ((List.getD s30 (s31).toNat (0, (0, (0, (0, ()))))).1).toNat 0)) (List.getD s30 (s31).toNat (0, (0, (0, (0, ()))))).2.2.2.1)) w1
  else fail
  else fail
  else fail
  else fail
  else fail
  else fail
  else fail
  else fail
 else
 ex0 s30 s31 s7 s9 w w1
def Jj8 {X : Type} (F : Nat) (fail : X) (ex0 : List (Int × ZL) → Int → Int → Int → ZW → ZW → X) : Nat → List (Int × ZL) → Int → Int → Int → ZW → ZW → X
 | 0, _, _, _, _, _, _ => fail
 | m + 1, s30, s31, s7, s9, w, w1 => Kbn F fail (Jj8 F fail ex0 m) ex0 s30 s31 s7 s9 w w1
def Kbo {X : Type} (F : Nat) (fail : X) (next ex0 : Int → Int → ZW → ZW → X) (s7 s9 : Int) (change w : ZW) : X :=
 bif (decide (s9 < 4)) then
  Jj8 F fail
   (fun s30 s31 s71 s91 w1 w2 =>
    next s71 (Jay s91 1) w1 w2)
   F ([(s9, ((Jay 4 s9), ((Jay 12 s9), (16, ())))), ((Jay 8 s9), ((Jay 12 s9), ((Jay 4 s9), (12, ())))), (s9, ((Jay 4 s9), ((Jay 12 s9), (8, ())))), ((Jay 8 s9), ((Jay 12 s9), ((Jay 4 s9), (7, ()))))] : List (Int × ZL)) 0 s7 s9 change w
 else
 ex0 s7 s9 change w
def Jor {X : Type} (F : Nat) (fail : X) (ex0 : Int → Int → ZW → ZW → X) : Nat → Int → Int → ZW → ZW → X
 | 0, _, _, _, _ => fail
 | m + 1, s7, s9, change, w => Kbo F fail (Jor F fail ex0 m) ex0 s7 s9 change w
def Kbp {X : Type} (F : Nat) (fail : X) (next ex0 : List (Int × ZL) → Int → Int → Int → ZW → ZW → X) (s30 : List (Int × ZL)) (s31 s7 s22 : Int) (w w1 : ZW) : X :=
 bif (decide (s31 < 4)) then
  bif ((decide (0 ≤ s31)) && (decide (s31 < (4 : Int)))) then
  bif ((decide (0 ≤ (List.getD s30 (s31).toNat (0, (0, (0, (0, ()))))).1)) && (decide ((List.getD s30 (s31).toNat (0, (0, (0, (0, ()))))).1 < (16 : Int)))) then
  bif ((decide (0 ≤ (List.getD s30 (s31).toNat (0, (0, (0, (0, ()))))).2.1)) && (decide ((List.getD s30 (s31).toNat (0, (0, (0, (0, ()))))).2.1 < (16 : Int)))) then
  bif ((decide (0 ≤ (List.getD s30 (s31).toNat (0, (0, (0, (0, ()))))).1)) && (decide ((List.getD s30 (s31).toNat (0, (0, (0, (0, ()))))).1 < (16 : Int)))) then
  bif ((decide (0 ≤ (List.getD s30 (s31).toNat (0, (0, (0, (0, ()))))).2.2.1)) && (decide ((List.getD s30 (s31).toNat (0, (0, (0, (0, ()))))).2.2.1 < (16 : Int)))) then
  bif ((decide (0 ≤ (List.getD s30 (s31).toNat (0, (0, (0, (0, ()))))).1)) && (decide ((List.getD s30 (s31).toNat (0, (0, (0, (0, ()))))).1 < (16 : Int)))) then
  bif (Jyk (Jmm (List.getD (List.set w ((List.getD s30 (s31).toNat (0, (0, (0, (0, ()))))).1).toNat (Jdb (List.getD w ((List.getD s30 (s31).toNat (0, (0, (0, (0, ()))))).1).toNat 0) (List.getD w ((List.getD s30 (s31).toNat (0, (0, (0, (0, ()))))).2.1).toNat 0))) ((List.getD s30 (s31).toNat (0, (0, (0, (0, ()))))).2.2.1).toNat 0) (List.getD (List.set w ((List.getD s30 (s31).toNat (0, (0, (0, (0, ()))))).1).toNat (Jdb (List.getD w ((List.getD s30 (s31).toNat (0, (0, (0, (0, ()))))).1).toNat 0) (List.getD w ((List.getD s30 (s31).toNat (0, (0, (0, (0, ()))))).2.1).toNat 0))) ((List.getD s30 (s31).toNat (0, (0, (0, (0, ()))))).1).toNat 0)) (List.getD s30 (s31).toNat (0, (0, (0, (0, ()))))).2.2.2.1) then
  bif ((decide (0 ≤ (List.getD s30 (s31).toNat (0, (0, (0, (0, ()))))).2.2.1)) && (decide ((List.getD s30 (s31).toNat (0, (0, (0, (0, ()))))).2.2.1 < (16 : Int)))) then
  next s30 (Jay s31 1) s7 s22 (List.set (List.set w ((List.getD s30 (s31).toNat (0, (0, (0, (0, ()))))).1).toNat (Jdb (List.getD w ((List.getD s30 (s31).toNat (0, (0, (0, (0, ()))))).1).toNat 0) (List.getD w ((List.getD s30 (s31).toNat (0, (0, (0, (0, ()))))).2.1).toNat 0))) ((List.getD s30 (s31).toNat (0, (0, (0, (0, ()))))).2.2.1).toNat (J3k (Jmm (List.getD (List.set w ((List.getD s30 (s31).toNat (0, (0, (0, (0, ()))))).1).toNat (Jdb (List.getD w ((List.getD s30 (s31).toNat (0, (0, (0, (0, ()))))).1).toNat 0) (List.getD w ((List.getD s30 (s31).toNat (0, (0, (0, (0, ()))))).2.1).toNat 0))) ((List.getD s30 (s31).toNat (0, (0, (0, (0, ()))))).2.2.1).toNat 0) (List.getD (List.set w ((List.getD s30 (s31).toNat (0, (0, (0, (0, ()))))).1).toNat (Jdb (List.getD w ((List.getD s30 (s31).toNat (0, (0, (0, (0, ()))))).1).toNat 0) (List.getD w ((List.getD s30 (s31).toNat (0, (0, (0, (0, ()))))).2.1).toNat 0))) ((List.getD s30 (s31).toNat (0, (0, (0, (0, ()))))).1).toNat 0)) (List.getD s30 (s31).toNat (0, (0, (0, (0, ()))))).2.2.2.1)) w1
  else fail
  else fail
  else fail
  else fail
  else fail
  else fail
  else fail
  else fail
 else
 ex0 s30 s31 s7 s22 w w1
def Jj9 {X : Type} (F : Nat) (fail : X) (ex0 : List (Int × ZL) → Int → Int → Int → ZW → ZW → X) : Nat → List (Int × ZL) → Int → Int → Int → ZW → ZW → X
 | 0, _, _, _, _, _, _ => fail
 | m + 1, s30, s31, s7, s22, w, w1 => Kbp F fail (Jj9 F fail ex0 m) ex0 s30 s31 s7 s22 w w1
def Kbq {X : Type} (F : Nat) (fail : X) (next ex0 : Int → Int → ZW → ZW → X) (s7 s22 : Int) (change w : ZW) : X :=
 bif (decide (s22 < 4)) then
  Jj9 F fail
   (fun s30 s31 s71 s221 w1 w2 =>
    next s71 (Jay s221 1) w1 w2)
   F ([(s22, ((Jay 4 (Jgg (Jay s22 1) 4)), ((Jay 12 (Jgg (Jay s22 3) 4)), (16, ())))), ((Jay 8 (Jgg (Jay s22 2) 4)), ((Jay 12 (Jgg (Jay s22 3) 4)), ((Jay 4 (Jgg (Jay s22 1) 4)), (12, ())))), (s22, ((Jay 4 (Jgg (Jay s22 1) 4)), ((Jay 12 (Jgg (Jay s22 3) 4)), (8, ())))), ((Jay 8 (Jgg (Jay s22 2) 4)), ((Jay 12 (Jgg (Jay s22 3) 4)), ((Jay 4 (Jgg (Jay s22 1) 4)), (7, ()))))] : List (Int × ZL)) 0 s7 s22 change w
 else
 ex0 s7 s22 change w
def Jos {X : Type} (F : Nat) (fail : X) (ex0 : Int → Int → ZW → ZW → X) : Nat → Int → Int → ZW → ZW → X
 | 0, _, _, _, _ => fail
 | m + 1, s7, s22, change, w => Kbq F fail (Jos F fail ex0 m) ex0 s7 s22 change w
def Kbr {X : Type} (F : Nat) (fail : X) (next ex0 : Int → ZW → ZW → X) (s7 : Int) (change w : ZW) : X :=
 bif (decide (s7 < 10)) then
  Jor F fail
   (fun s71 s9 change1 w1 =>
    Jos F fail
     (fun s72 s22 change2 w2 =>
      next (Jay s72 1) change2 w2)
     F s71 0 change1 w1)
   F s7 0 change w
 else
 ex0 s7 change w
def Jsj {X : Type} (F : Nat) (fail : X) (ex0 : Int → ZW → ZW → X) : Nat → Int → ZW → ZW → X
 | 0, _, _, _ => fail
 | m + 1, s7, change, w => Kbr F fail (Jsj F fail ex0 m) ex0 s7 change w
def Kbs {X : Type} (F : Nat) (fail : X) (next ex0 : ZW → Int → ZW → ZB → X) (s18 : ZW) (s19 : Int) (w : ZW) (out : ZB) : X :=
 bif (decide (s19 < 16)) then
  bif ((decide (0 ≤ s19)) && (decide (s19 < (16 : Int)))) then
  bif ((decide (0 ≤ s19)) && (decide (s19 < (16 : Int)))) then
  bif (decide ((out ++ ([(J3e (Jdb (List.getD s18 (s19).toNat (0 : UInt32)) (List.getD w (s19).toNat (0 : UInt32)))), (J3e (Jr7 (Jdb (List.getD s18 (s19).toNat (0 : UInt32)) (List.getD w (s19).toNat (0 : UInt32))) (8 : Int))), (J3e (Jr7 (Jdb (List.getD s18 (s19).toNat (0 : UInt32)) (List.getD w (s19).toNat (0 : UInt32))) (16 : Int))), (J3e (Jr7 (Jdb (List.getD s18 (s19).toNat (0 : UInt32)) (List.getD w (s19).toNat (0 : UInt32))) (24 : Int)))] : ZB)).length ≤ big)) then
  next s18 (Jay s19 (1 : Int)) w (out ++ ([(J3e (Jdb (List.getD s18 (s19).toNat (0 : UInt32)) (List.getD w (s19).toNat (0 : UInt32)))), (J3e (Jr7 (Jdb (List.getD s18 (s19).toNat (0 : UInt32)) (List.getD w (s19).toNat (0 : UInt32))) (8 : Int))), (J3e (Jr7 (Jdb (List.getD s18 (s19).toNat (0 : UInt32)) (List.getD w (s19).toNat (0 : UInt32))) (16 : Int))), (J3e (Jr7 (Jdb (List.getD s18 (s19).toNat (0 : UInt32)) (List.getD w (s19).toNat (0 : UInt32))) (24 : Int)))] : ZB))
  else fail
  else fail
  else fail
 else
 ex0 s18 s19 w out
def Jsk {X : Type} (F : Nat) (fail : X) (ex0 : ZW → Int → ZW → ZB → X) : Nat → ZW → Int → ZW → ZB → X
 | 0, _, _, _, _ => fail
 | m + 1, s18, s19, w, out => Kbs F fail (Jsk F fail ex0 m) ex0 s18 s19 w out
def cBlk {X : Type} (F : Nat) (key : ZB) (nonce counter : Int) (fail : X) (ret : ZB → X) : X :=
 bif (J1t key nonce counter) then
 Jsj F fail
  (fun s7 change w =>
   Jsk F fail
    (fun s18 s19 w1 out =>
     ret out)
    F change 0 w ([] : ZB))
  F 0 (J1u key nonce counter) (J1u key nonce counter)
 else fail
def Kxj {X : Type} (F : Nat) (nonce : Int) (fail : X) (ret : Bool → X) : X :=
 bif (decide (nonce ≥ 0)) then
  ret (decide (nonce ≤ 9007199254740991))
 else
 ret false
def Jsl {X : Type} (F : Nat) (fail : X) (next ex0 : Nat → Nat → Int → Int → Int → ZB → Int → Int → ZB → ZB → ZB → Int → Int → X) (part_i part_n : Nat) (s31 s32 i : Int) (b : ZB) (s7 counter : Int) (part s key : ZB) (nonce s2 : Int) : X :=
 bif (decide (s32 < s31)) then
  bif ((decide (0 ≤ s32)) && (decide (s32 < ((part_n : Nat) : Int)))) then
  bif ((decide (0 ≤ s32)) && (decide (s32 < (s.length : Int)))) then
  bif ((decide (0 ≤ s32)) && (decide (s32 < ((part_n : Nat) : Int)))) then
  next part_i part_n s31 (Jay s32 1) i b s7 counter (List.set part (part_i + (s32).toNat) (J6f (List.getD part (part_i + (s32).toNat) 0) (List.getD s (s32).toNat 0))) s key nonce s2
  else fail
  else fail
  else fail
 else
 ex0 part_i part_n s31 s32 i b s7 counter part s key nonce s2
def Jip {X : Type} (F : Nat) (fail : X) (ex0 : Nat → Nat → Int → Int → Int → ZB → Int → Int → ZB → ZB → ZB → Int → Int → X) : Nat → Nat → Nat → Int → Int → Int → ZB → Int → Int → ZB → ZB → ZB → Int → Int → X
 | 0, _, _, _, _, _, _, _, _, _, _, _, _, _ => fail
 | m + 1, part_i, part_n, s31, s32, i, b, s7, counter, part, s, key, nonce, s2 => Jsl F fail (Jip F fail ex0 m) ex0 part_i part_n s31 s32 i b s7 counter part s key nonce s2
def Jnc {X : Type} (F : Nat) (fail : X) (next ex0 : Int → ZB → Int → ZB → Int → Int → ZB → Int → X) (i : Int) (b : ZB) (s7 : Int) (key : ZB) (nonce counter : Int) (out : ZB) (s2 : Int) : X :=
 bif (decide (i < (out.length : Int))) then
  bif ((decide (0 ≤ i)) && (decide (i ≤ (out.length : Int)))) then
  bif ((((decide (0 ≤ i)) && (decide (i ≤ (Jay i (Ka2 s2 (((out.length - (i).toNat) : Nat) : Int)))))) && (decide ((Jay i (Ka2 s2 (((out.length - (i).toNat) : Nat) : Int))) ≤ (out.length : Int)))) && ((Jay i (Ka2 s2 (((out.length - (i).toNat) : Nat) : Int))) == (Jay i (Ka2 s2 (((out.length - (i).toNat) : Nat) : Int))))) then
  bif (Kp8 key nonce counter) then
  Jip F fail
   (fun part_i part_n s31 s32 i1 b1 s71 counter1 part s Jpq nonce1 s21 =>
    next (Jay i1 s21) b1 s71 Jpq nonce1 (Jay counter1 1) part s21)
   F (i).toNat (((Jay i (Ka2 s2 (((out.length - (i).toNat) : Nat) : Int)))).toNat - (i).toNat) (((((Jay i (Ka2 s2 (((out.length - (i).toNat) : Nat) : Int)))).toNat - (i).toNat) : Nat) : Int) 0 i b s7 counter out (Kp9 key nonce counter) key nonce s2
  else fail
  else fail
  else fail
 else
 ex0 i b s7 key nonce counter out s2
def Jgu {X : Type} (F : Nat) (fail : X) (ex0 : Int → ZB → Int → ZB → Int → Int → ZB → Int → X) : Nat → Int → ZB → Int → ZB → Int → Int → ZB → Int → X
 | 0, _, _, _, _, _, _, _, _ => fail
 | m + 1, i, b, s7, key, nonce, counter, out, s2 => Jnc F fail (Jgu F fail ex0 m) ex0 i b s7 key nonce counter out s2
def Klq {X : Type} (F : Nat) (key : ZB) (nonce : Int) (b : ZB) (fail : X) (ret : ZB → Int → X) : X :=
 bif (decide ((b.length : Int) > 65536)) then
  ret ([] : ZB) 5
 else
 bif (!(Jod nonce)) then
  ret ([] : ZB) 2
 else
 bif (Jbt b) then
 Jgu F fail
  (fun i b1 s7 Jpq nonce1 counter out s2 =>
   ret out 0)
  F 0 b 0 key nonce 1 (Jch b) 64
 else fail
end Go.AI
namespace Go.AI
open Go
set_option linter.unusedVariables false
def Jyt {X : Type} (F : Nat) (fail : X) (next ex0 : UInt32 → Int → X) (register : UInt32) (s4 : Int) : X :=
 bif (decide (s4 < 8)) then
  bif (((((J3d register 1)).toNat : Nat) : Int) == 1) then
   next (Jmm (Jr7 register 1) 3988292384) (Jay s4 1)
  else
  next (Jr7 register 1) (Jay s4 1)
 else
 ex0 register s4
def Jld {X : Type} (F : Nat) (fail : X) (ex0 : UInt32 → Int → X) : Nat → UInt32 → Int → X
 | 0, _, _ => fail
 | m + 1, register, s4 => Jyt F fail (Jld F fail ex0 m) ex0 register s4
def Klr {X : Type} (F : Nat) (register : UInt32) (fail : X) (ret : UInt32 → X) : X :=
 Jld F fail
  (fun register1 s4 =>
   ret register1)
  F register 0
def J3s {X : Type} (F : Nat) (fail : X) (next ex0 : Int → ZW → ZW → X) (s3 : Int) (s0 out : ZW) : X :=
 bif (decide (s3 < 256)) then
  bif (Jwh (Kux s3)) then
  bif ((decide (0 ≤ s3)) && (decide (s3 < (256 : Int)))) then
  next (Jay s3 1) s0 (List.set out (s3).toNat (Ji7 (Kux s3)))
  else fail
  else fail
 else
 ex0 s3 s0 out
def Jnd {X : Type} (F : Nat) (fail : X) (ex0 : Int → ZW → ZW → X) : Nat → Int → ZW → ZW → X
 | 0, _, _, _ => fail
 | m + 1, s3, s0, out => J3s F fail (Jnd F fail ex0 m) ex0 s3 s0 out
def Kxk {X : Type} (F : Nat) (fail : X) (ret : ZW → X) : X :=
 Jnd F fail
  (fun s3 s0 out =>
   ret out)
  F (0 : Int) (List.replicate 256 (0 : UInt32)) (List.replicate 256 (0 : UInt32))
def Kbt {X : Type} (F : Nat) (fail : X) (next ex0 : ZB → Int → Int → UInt32 → UInt32 → UInt32 → ZW → ZB → X) (s5 : ZB) (s6 s7 : Int) (s4 s61 register : UInt32) (t : ZW) (bytes : ZB) : X :=
 bif (decide (s7 < s6)) then
  bif ((decide (0 ≤ s7)) && (decide (s7 < (s5.length : Int)))) then
  bif ((decide (0 ≤ ((((J6f (J3e register) (List.getD s5 (s7).toNat 0))).toNat : Nat) : Int))) && (decide (((((J6f (J3e register) (List.getD s5 (s7).toNat 0))).toNat : Nat) : Int) < (256 : Int)))) then
  next s5 s6 (Jay s7 1) s4 s61 (Jmm (Jr7 register 8) (List.getD t ((J6f (J3e register) (List.getD s5 (s7).toNat 0))).toNat 0)) t bytes
  else fail
  else fail
 else
 ex0 s5 s6 s7 s4 s61 register t bytes
def Jsm {X : Type} (F : Nat) (fail : X) (ex0 : ZB → Int → Int → UInt32 → UInt32 → UInt32 → ZW → ZB → X) : Nat → ZB → Int → Int → UInt32 → UInt32 → UInt32 → ZW → ZB → X
 | 0, _, _, _, _, _, _, _, _ => fail
 | m + 1, s5, s6, s7, s4, s61, register, t, bytes => Kbt F fail (Jsm F fail ex0 m) ex0 s5 s6 s7 s4 s61 register t bytes
def cUpd {X : Type} (F : Nat) (sum : UInt32) (b : ZB) (fail : X) (ret : UInt32 → X) : X :=
 bif (J1v) then
 Jsm F fail
  (fun s5 s6 s7 s4 s61 register t bytes =>
   ret (K20 register))
  F b (b.length : Int) 0 0 (K20 sum) (K20 sum) (Jj0) b
 else fail
def cSum {X : Type} (F : Nat) (b : ZB) (fail : X) (ret : UInt32 → X) : X :=
 bif (Kf8 0 b) then
 ret (Kqb 0 b)
 else fail
def Kxl {X : Type} (F : Nat) (length : Int) (fail : X) (ret : Int → X) : X :=
 ret (quoI (Jb3 (Jay length 15) 1) 15)
def Kxm {X : Type} (F : Nat) (length : Int) (fail : X) (ret : Int → X) : X :=
 bif (decide (length < 0)) then
  ret 0
 else
 bif (decide (length > 65536)) then
  ret 0
 else
 bif (Jj1 length) then
 ret (Jay (Jj2 length) 1)
 else fail
def Kxn {X : Type} (F : Nat) (l : ZL) (fail : X) (ret : Int → X) : X :=
 bif (decide (l.2.2.1 < 2)) then
  ret 2
 else
 bif (decide (l.2.2.1 > 8192)) then
  bif (decide (l.2.2.1 > 8192)) then
   ret 2
  else
  bif (decide (l.2.1 < 0)) then
   ret 3
  else
  bif (decide (l.2.1 ≥ l.1)) then
   ret 3
  else
  ret 0
 else
 bif (decide (l.1 < 1)) then
  ret 2
 else
 bif (decide (l.1 > l.2.2.1)) then
  ret 2
 else
 bif (decide (l.2.1 < 0)) then
  ret 3
 else
 bif (decide (l.2.1 ≥ l.1)) then
  ret 3
 else
 ret 0
def K9t {X : Type} (F : Nat) (fail : X) (ret : ZB → X) : X :=
 ret ((([(3 : UInt8)] : ZB) ++ (List.take (min ([(99 : UInt8), (111 : UInt8), (109 : UInt8), (112 : UInt8), (97 : UInt8), (99 : UInt8), (116 : UInt8), (111 : UInt8), (114 : UInt8), (32 : UInt8), (108 : UInt8), (111 : UInt8), (103 : UInt8), (32 : UInt8), (49 : UInt8)] : ZB).length 15) ([(99 : UInt8), (111 : UInt8), (109 : UInt8), (112 : UInt8), (97 : UInt8), (99 : UInt8), (116 : UInt8), (111 : UInt8), (114 : UInt8), (32 : UInt8), (108 : UInt8), (111 : UInt8), (103 : UInt8), (32 : UInt8), (49 : UInt8)] : ZB))) ++ (List.drop (1 + (min ([(99 : UInt8), (111 : UInt8), (109 : UInt8), (112 : UInt8), (97 : UInt8), (99 : UInt8), (116 : UInt8), (111 : UInt8), (114 : UInt8), (32 : UInt8), (108 : UInt8), (111 : UInt8), (103 : UInt8), (32 : UInt8), (49 : UInt8)] : ZB).length 15)) ([(3 : UInt8), (0 : UInt8), (0 : UInt8), (0 : UInt8), (0 : UInt8), (0 : UInt8), (0 : UInt8), (0 : UInt8), (0 : UInt8), (0 : UInt8), (0 : UInt8), (0 : UInt8), (0 : UInt8), (0 : UInt8), (0 : UInt8), (0 : UInt8)] : ZB)))
def Jwu {X : Type} (F : Nat) (fail : X) (next ex0 : Int → ZB → Int → Int → X) (n : Int) (s6 : ZB) (s7 s8 : Int) : X :=
 bif (decide (s8 < s7)) then
  bif ((decide (0 ≤ s8)) && (decide (s8 < (s6.length : Int)))) then
  next (orI (K6v n 8) (Jyh (List.getD s6 (s8).toNat 0))) s6 s7 (Jay s8 1)
  else fail
 else
 ex0 n s6 s7 s8
def Jks {X : Type} (F : Nat) (fail : X) (ex0 : Int → ZB → Int → Int → X) : Nat → Int → ZB → Int → Int → X
 | 0, _, _, _, _ => fail
 | m + 1, n, s6, s7, s8 => Jwu F fail (Jks F fail ex0 m) ex0 n s6 s7 s8
def Kxo {X : Type} (F : Nat) (from_ : ZB) (fail : X) (ret : Int → X) : X :=
 Jks F fail
  (fun n s6 s7 s8 =>
   ret n)
  F 0 from_ (from_.length : Int) 0
def Kbu {X : Type} (F : Nat) (fail : X) (next ex0 : Nat → Nat → Int → Int → Int → ZB → ZB → ZB → X) (to_i to_n : Nat) (n s6 s7 : Int) (payload to s4 : ZB) : X :=
 bif (decide (s7 < s6)) then
  bif (decide (0 ≤ (Jl4 8 s7))) then
  bif ((decide (0 ≤ (Jb3 (Jb3 ((to_n : Nat) : Int) 1) s7))) && (decide ((Jb3 (Jb3 ((to_n : Nat) : Int) 1) s7) < ((to_n : Nat) : Int)))) then
  next to_i to_n n s6 (Jay s7 1) payload (List.set to (to_i + ((Jb3 (Jb3 ((to_n : Nat) : Int) 1) s7)).toNat) (Kld (Kf5 n (Jl4 8 s7)))) s4
  else fail
  else fail
 else
 ex0 to_i to_n n s6 s7 payload to s4
def Jot {X : Type} (F : Nat) (fail : X) (ex0 : Nat → Nat → Int → Int → Int → ZB → ZB → ZB → X) : Nat → Nat → Nat → Int → Int → Int → ZB → ZB → ZB → X
 | 0, _, _, _, _, _, _, _, _ => fail
 | m + 1, to_i, to_n, n, s6, s7, payload, to, s4 => Kbu F fail (Jot F fail ex0 m) ex0 to_i to_n n s6 s7 payload to s4
def Kbv {X : Type} (F : Nat) (fail : X) (next ex0 : Nat → Nat → Int → Int → Int → ZB → Nat → Nat → ZB → ZB → X) (to_i to_n : Nat) (n s6 s7 : Int) (payload : ZB) (s10_i s10_n : Nat) (to s4 : ZB) : X :=
 bif (decide (s7 < s6)) then
  bif (decide (0 ≤ (Jl4 8 s7))) then
  bif ((decide (0 ≤ (Jb3 (Jb3 ((to_n : Nat) : Int) 1) s7))) && (decide ((Jb3 (Jb3 ((to_n : Nat) : Int) 1) s7) < ((to_n : Nat) : Int)))) then
  next to_i to_n n s6 (Jay s7 1) payload s10_i s10_n (List.set to (to_i + ((Jb3 (Jb3 ((to_n : Nat) : Int) 1) s7)).toNat) (Kld (Kf5 n (Jl4 8 s7)))) s4
  else fail
  else fail
 else
 ex0 to_i to_n n s6 s7 payload s10_i s10_n to s4
def Jmg {X : Type} (F : Nat) (fail : X) (ex0 : Nat → Nat → Int → Int → Int → ZB → Nat → Nat → ZB → ZB → X) : Nat → Nat → Nat → Int → Int → Int → ZB → Nat → Nat → ZB → ZB → X
 | 0, _, _, _, _, _, _, _, _, _, _ => fail
 | m + 1, to_i, to_n, n, s6, s7, payload, s10_i, s10_n, to, s4 => Kbv F fail (Jmg F fail ex0 m) ex0 to_i to_n n s6 s7 payload s10_i s10_n to s4
def Kbw {X : Type} (F : Nat) (fail : X) (next ex0 : Nat → Nat → Int → Int → Int → ZB → Nat → Nat → Nat → Nat → ZB → ZB → X) (to_i to_n : Nat) (n s6 s7 : Int) (payload : ZB) (s10_i s10_n s19_i s19_n : Nat) (to s4 : ZB) : X :=
 bif (decide (s7 < s6)) then
  bif (decide (0 ≤ (Jl4 8 s7))) then
  bif ((decide (0 ≤ (Jb3 (Jb3 ((to_n : Nat) : Int) 1) s7))) && (decide ((Jb3 (Jb3 ((to_n : Nat) : Int) 1) s7) < ((to_n : Nat) : Int)))) then
  next to_i to_n n s6 (Jay s7 1) payload s10_i s10_n s19_i s19_n (List.set to (to_i + ((Jb3 (Jb3 ((to_n : Nat) : Int) 1) s7)).toNat) (Kld (Kf5 n (Jl4 8 s7)))) s4
  else fail
  else fail
 else
 ex0 to_i to_n n s6 s7 payload s10_i s10_n s19_i s19_n to s4
def Jou {X : Type} (F : Nat) (fail : X) (ex0 : Nat → Nat → Int → Int → Int → ZB → Nat → Nat → Nat → Nat → ZB → ZB → X) : Nat → Nat → Nat → Int → Int → Int → ZB → Nat → Nat → Nat → Nat → ZB → ZB → X
 | 0, _, _, _, _, _, _, _, _, _, _, _, _ => fail
 | m + 1, to_i, to_n, n, s6, s7, payload, s10_i, s10_n, s19_i, s19_n, to, s4 => Kbw F fail (Jou F fail ex0 m) ex0 to_i to_n n s6 s7 payload s10_i s10_n s19_i s19_n to s4
def lEnd {X : Type} (F : Nat) (payload : ZB) (commits : Int) (fail : X) (ret : ZB → X) : X :=
 Jot F fail
  (fun to_i to_n n s6 s7 payload1 to s4 =>
   bif (Jj1 (payload1.length : Int)) then
   Jmg F fail
    (fun to_i1 to_n1 n1 s61 s71 payload2 s10_i s10_n to1 s41 =>
     Jmg F fail
      (fun to_i2 to_n2 n2 s62 s72 payload3 s10_i1 s10_n1 to2 s42 =>
       bif (J8r payload3) then
       Jou F fail
        (fun to_i3 to_n3 n3 s63 s73 payload4 s10_i2 s10_n2 s19_i s19_n to3 s43 =>
         ret to3)
        F 12 4 (cvWI (J8s payload3)) 4 0 payload3 s10_i1 s10_n1 12 4 to2 s42
       else fail)
      F 8 4 (payload2.length : Int) 4 0 payload2 s10_i s10_n to1 s41)
    F 5 3 (Jj2 (payload1.length : Int)) 3 0 payload1 5 3 to s4
   else fail)
  F 1 4 commits 4 0 payload ([2, 0, 0, 0, 0, 0, 0, 0, 0, 0, 0, 0, 0, 0, 0, 0] : ZB) z16
def K5f {X : Type} (F : Nat) (at_ : Int) (l : List ZB) (fail : X) (ret : (Int × (Int × ((List ZB) × Unit))) → X) : X :=
 ret (0, (at_, (l, ())))
def K9u {X : Type} (F : Nat) (fail : X) (ret : (Int × (Int × ((List ZB) × Unit))) → X) : X :=
 ret (1, (0, (([] : List ZB), ())))
def J1z {X : Type} (F : Nat) (fail : X) (next ex0 ex1 : ZB → Int → Int → Int → X) (s : ZB) (s4 s7 s8 : Int) : X :=
 bif (decide (s8 < s7)) then
  bif ((decide (0 ≤ s8)) && (decide (s8 < (s.length : Int)))) then
  bif (((((List.getD s (s8).toNat 0)).toNat : Nat) : Int) != 0) then
   ex0 s s8 s7 s8
  else
  next s s4 s7 (Jay s8 1)
  else fail
 else
 ex1 s s4 s7 s8
def Jne {X : Type} (F : Nat) (fail : X) (ex0 ex1 : ZB → Int → Int → Int → X) : Nat → ZB → Int → Int → Int → X
 | 0, _, _, _, _ => fail
 | m + 1, s, s4, s7, s8 => J1z F fail (Jne F fail ex0 ex1 m) ex0 ex1 s s4 s7 s8
def K68 {X : Type} (F : Nat) (s : ZB) (fail : X) (ret : Bool → X) : X :=
 Jne F fail
  (fun s1 s4 s7 s8 =>
   ret (decide (s4 ≥ 0)))
  (fun s2 s41 s71 s81 =>
   ret false)
  F s 0 (s.length : Int) 0
def Kls {X : Type} (F : Nat) (size : Int) (fail : X) (ret : ZL → List (Int × (Int × ((List ZB) × Unit))) → Int → X) : X :=
 bif (decide (size < 2)) then
  ret (0, (0, (0, ()))) ([] : List (Int × (Int × ((List ZB) × Unit)))) 2
 else
 bif (decide (size > 8192)) then
  ret (0, (0, (0, ()))) ([] : List (Int × (Int × ((List ZB) × Unit)))) 2
 else
 bif (((decide (0 ≤ size)) && true) && (decide (size ≤ ((big : Nat) : Int)))) then
 bif (Jj4 (0 : Int) (List.replicate (size).toNat z16)) then
 bif (Jog) then
 bif (J3l) then
 bif (Jj4 0 ([(Jym)] : List ZB)) then
 bif (Jog) then
 ret ((1 : Int), ((0 : Int), (size, ()))) ([(Jj5 (0 : Int) (List.replicate (size).toNat z16)), (Joh), (Jj5 (0 : Int) ([(Jym)] : List ZB)), (Joh)] : List (Int × (Int × ((List ZB) × Unit)))) (0 : Int)
 else fail
 else fail
 else fail
 else fail
 else fail
 else fail
def Jsn {X : Type} (F : Nat) (fail : X) (next ex0 : Int → ZB → Int → Int → List ZB → ZB → Int → ZL → ZL → X) (i : Int) (payload : ZB) (s6 n : Int) (parts : List ZB) (s1 : ZB) (s2 : Int) (l s4 : ZL) : X :=
 bif (decide (i < (s1.length : Int))) then
  bif ((decide (0 ≤ i)) && (decide (i ≤ (s1.length : Int)))) then
  bif ((((decide (0 ≤ i)) && (decide (i ≤ (Jay i (Ka2 s2 (((List.drop (i).toNat s1).length : Nat) : Int)))))) && (decide ((Jay i (Ka2 s2 (((List.drop (i).toNat s1).length : Nat) : Int))) ≤ (s1.length : Int)))) && ((Jay i (Ka2 s2 (((List.drop (i).toNat s1).length : Nat) : Int))) == (Jay i (Ka2 s2 (((List.drop (i).toNat s1).length : Nat) : Int))))) then
  bif (decide ((parts ++ ([((([(1 : UInt8)] : ZB) ++ (List.take (min (List.drop (i).toNat (List.take ((Jay i (Ka2 s2 (((List.drop (i).toNat s1).length : Nat) : Int)))).toNat s1)).length 15) (List.drop (i).toNat (List.take ((Jay i (Ka2 s2 (((List.drop (i).toNat s1).length : Nat) : Int)))).toNat s1)))) ++ (List.drop (1 + (min (List.drop (i).toNat (List.take ((Jay i (Ka2 s2 (((List.drop (i).toNat s1).length : Nat) : Int)))).toNat s1)).length 15)) ([(1 : UInt8), (0 : UInt8), (0 : UInt8), (0 : UInt8), (0 : UInt8), (0 : UInt8), (0 : UInt8), (0 : UInt8), (0 : UInt8), (0 : UInt8), (0 : UInt8), (0 : UInt8), (0 : UInt8), (0 : UInt8), (0 : UInt8), (0 : UInt8)] : ZB)))] : List ZB)).length ≤ big)) then
  next (Jay i s2) payload s6 n (parts ++ ([((([(1 : UInt8)] : ZB) ++ (List.take (min (List.drop (i).toNat (List.take ((Jay i (Ka2 s2 (((List.drop (i).toNat s1).length : Nat) : Int)))).toNat s1)).length 15) (List.drop (i).toNat (List.take ((Jay i (Ka2 s2 (((List.drop (i).toNat s1).length : Nat) : Int)))).toNat s1)))) ++ (List.drop (1 + (min (List.drop (i).toNat (List.take ((Jay i (Ka2 s2 (((List.drop (i).toNat s1).length : Nat) : Int)))).toNat s1)).length 15)) ([(1 : UInt8), (0 : UInt8), (0 : UInt8), (0 : UInt8), (0 : UInt8), (0 : UInt8), (0 : UInt8), (0 : UInt8), (0 : UInt8), (0 : UInt8), (0 : UInt8), (0 : UInt8), (0 : UInt8), (0 : UInt8), (0 : UInt8), (0 : UInt8)] : ZB)))] : List ZB)) s1 s2 l s4
  else fail
  else fail
  else fail
 else
 ex0 i payload s6 n parts s1 s2 l s4
def Jiq {X : Type} (F : Nat) (fail : X) (ex0 : Int → ZB → Int → Int → List ZB → ZB → Int → ZL → ZL → X) : Nat → Int → ZB → Int → Int → List ZB → ZB → Int → ZL → ZL → X
 | 0, _, _, _, _, _, _, _, _, _ => fail
 | m + 1, i, payload, s6, n, parts, s1, s2, l, s4 => Jsn F fail (Jiq F fail ex0 m) ex0 i payload s6 n parts s1 s2 l s4
def Klt {X : Type} (F : Nat) (l : ZL) (payload : ZB) (fail : X) (ret : ZL → List (Int × (Int × ((List ZB) × Unit))) → Int → X) : X :=
 bif ((Jj3 l) != 0) then
  ret (0, (0, (0, ()))) ([] : List (Int × (Int × ((List ZB) × Unit)))) (Jj3 l)
 else
 bif (J1w (payload.length : Int)) then
 bif (decide ((payload.length : Int) > 65536)) then
  ret (0, (0, (0, ()))) ([] : List (Int × (Int × ((List ZB) × Unit)))) 5
 else
 bif (decide ((Jix (payload.length : Int)) > (Jb3 l.2.2.1 l.1))) then
  ret (0, (0, (0, ()))) ([] : List (Int × (Int × ((List ZB) × Unit)))) 11
 else
 bif (decide ((Jix (payload.length : Int)) > 1)) then
  Jiq F fail
   (fun i payload1 s6 n parts s1 s2 l1 s4 =>
    bif (Jj4 l1.1 parts) then
    bif (Jog) then
    bif (J3m payload1 (Jay l1.2.1 1)) then
    bif (Jj4 (Jb3 (Jay l1.1 n) 1) ([(Jwi payload1 (Jay l1.2.1 1))] : List ZB)) then
    bif (Jog) then
    ret ((Jay l1.1 n), ((Jay l1.2.1 1), (l1.2.2.1, ()))) ([(Jj5 l1.1 parts), (Joh), (Jj5 (Jb3 (Jay l1.1 n) 1) ([(Jwi payload1 (Jay l1.2.1 1))] : List ZB)), (Joh)] : List (Int × (Int × ((List ZB) × Unit)))) 0
    else fail
    else fail
    else fail
    else fail
    else fail)
   F 0 payload 0 (Jix (payload.length : Int)) ([] : List ZB) payload 15 l (0, (0, (0, ())))
 else
 bif (J3m payload (Jay l.2.1 1)) then
 bif (Jj4 (Jb3 (Jay l.1 (Jix (payload.length : Int))) 1) ([(Jwi payload (Jay l.2.1 1))] : List ZB)) then
 bif (Jog) then
 ret ((Jay l.1 (Jix (payload.length : Int))), ((Jay l.2.1 1), (l.2.2.1, ()))) ([(Jj5 (Jb3 (Jay l.1 (Jix (payload.length : Int))) 1) ([(Jwi payload (Jay l.2.1 1))] : List ZB)), (Joh)] : List (Int × (Int × ((List ZB) × Unit)))) 0
 else fail
 else fail
 else fail
 else fail
def J10 {X : Type} (F : Nat) (fail : X) (next ex0 ex1 : Int → Int → List ZB → Int → Int → Int → ((List ZB) × Unit) → ZB → Bool → ZB → List ZB → X) (number count : Int) (l : List ZB) (first s5 left : Int) (r : ((List ZB) × Unit)) (payload : ZB) (ok : Bool) (p : ZB) (out : List ZB) : X :=
 bif (((((List.getD p 0 0)).toNat : Nat) : Int) == 1) then
  bif (decide ((payload ++ (List.take 15 (List.drop 1 p))).length ≤ big)) then
  bif (!(decide (((r.1.length : Nat) : Int) > 0))) then
   ex0 number (Jay count (1 : Int)) l first s5 left r (payload ++ (List.take 15 (List.drop 1 p))) ok p out
  else
  bif (decide (0 < ((r.1.length : Nat) : Int))) then
  bif (decide (1 ≤ ((r.1.length : Nat) : Int))) then
  next number (Jay count (1 : Int)) l first s5 left ((List.drop 1 r.1), r.2) (payload ++ (List.take 15 (List.drop 1 p))) ok (List.getD r.1 0 z16) out
  else fail
  else fail
  else fail
 else
 ex1 number count l first s5 left r payload ok p out
def Jnf {X : Type} (F : Nat) (fail : X) (ex0 ex1 : Int → Int → List ZB → Int → Int → Int → ((List ZB) × Unit) → ZB → Bool → ZB → List ZB → X) : Nat → Int → Int → List ZB → Int → Int → Int → ((List ZB) × Unit) → ZB → Bool → ZB → List ZB → X
 | 0, _, _, _, _, _, _, _, _, _, _, _ => fail
 | m + 1, number, count, l, first, s5, left, r, payload, ok, p, out => J10 F fail (Jnf F fail ex0 ex1 m) ex0 ex1 number count l first s5 left r payload ok p out
def J11 {X : Type} (F : Nat) (fail : X) (next ex0 : List ZB → Int → Int → List ZB → ((List ZB) × Unit) → X) (l : List ZB) (first s5 : Int) (out : List ZB) (r : ((List ZB) × Unit)) : X :=
 bif (!(decide (((r.1.length : Nat) : Int) > 0))) then
  ex0 l first (Jb3 (l.length : Int) ((r.1.length : Nat) : Int)) out r
 else
 bif (decide (0 < ((r.1.length : Nat) : Int))) then
 bif (decide (1 ≤ ((r.1.length : Nat) : Int))) then
 Jnf F fail
  (fun number count l1 first1 s51 left r1 payload ok p out1 =>
   ex0 l1 first1 (Jb3 (l1.length : Int) left) out1 r1)
  (fun number1 count1 l2 first2 s52 left1 r2 payload1 ok1 p1 out2 =>
   bif (Jmc (List.take 4 (List.drop 8 p1))) then
   bif (((((List.getD p1 0 0)).toNat : Nat) : Int) == 2) then
    bif (Jmc (List.take 4 (List.drop 1 p1))) then
    bif ((Jci (List.take 4 (List.drop 1 p1))) == number1) then
     bif (Jmc (List.take 3 (List.drop 5 p1))) then
     bif ((Jci (List.take 3 (List.drop 5 p1))) == count1) then
      bif (decide ((Jci (List.take 4 (List.drop 8 p1))) ≤ 65536)) then
       bif (Jj1 (Jci (List.take 4 (List.drop 8 p1)))) then
       bif (!((Jj2 (Jci (List.take 4 (List.drop 8 p1)))) == count1)) then
        ex0 l2 first2 (Jb3 (l2.length : Int) left1) out2 r2
       else
       bif ((decide (0 ≤ (Jci (List.take 4 (List.drop 8 p1))))) && (decide ((Jci (List.take 4 (List.drop 8 p1))) ≤ (payload1.length : Int)))) then
       bif (((decide (0 ≤ (Jci (List.take 4 (List.drop 8 p1))))) && (decide ((Jci (List.take 4 (List.drop 8 p1))) ≤ (payload1.length : Int)))) && ((Jci (List.take 4 (List.drop 8 p1))) == (Jci (List.take 4 (List.drop 8 p1))))) then
       bif (Ksy (List.take (payload1.length - ((Jci (List.take 4 (List.drop 8 p1)))).toNat) (List.drop ((Jci (List.take 4 (List.drop 8 p1)))).toNat payload1)) 132) then
       bif (!(Ksz (List.take (payload1.length - ((Jci (List.take 4 (List.drop 8 p1)))).toNat) (List.drop ((Jci (List.take 4 (List.drop 8 p1)))).toNat payload1)) 132)) then
        bif (Jmc (List.take 4 (List.drop 12 p1))) then
        bif (J8r (List.take ((Jci (List.take 4 (List.drop 8 p1)))).toNat payload1)) then
        bif (!((Jci (List.take 4 (List.drop 12 p1))) == (cvWI (J8s (List.take ((Jci (List.take 4 (List.drop 8 p1)))).toNat payload1))))) then
         ex0 l2 first2 (Jb3 (l2.length : Int) left1) out2 r2
        else
        bif (decide ((out2 ++ ([(List.take ((Jci (List.take 4 (List.drop 8 p1)))).toNat payload1)] : List ZB)).length ≤ big)) then
        next l2 first2 s52 (out2 ++ ([(List.take ((Jci (List.take 4 (List.drop 8 p1)))).toNat payload1)] : List ZB)) r2
        else fail
        else fail
        else fail
       else
       ex0 l2 first2 (Jb3 (l2.length : Int) left1) out2 r2
       else fail
       else fail
       else fail
       else fail
      else
      ex0 l2 first2 (Jb3 (l2.length : Int) left1) out2 r2
     else
     ex0 l2 first2 (Jb3 (l2.length : Int) left1) out2 r2
     else fail
    else
    ex0 l2 first2 (Jb3 (l2.length : Int) left1) out2 r2
    else fail
   else
   ex0 l2 first2 (Jb3 (l2.length : Int) left1) out2 r2
   else fail)
  F (Jay first (out.length : Int)) 0 l first s5 ((r.1.length : Nat) : Int) ((List.drop 1 r.1), r.2) ([] : ZB) false (List.getD r.1 0 z16) out
 else fail
 else fail
def Jng {X : Type} (F : Nat) (fail : X) (ex0 : List ZB → Int → Int → List ZB → ((List ZB) × Unit) → X) : Nat → List ZB → Int → Int → List ZB → ((List ZB) × Unit) → X
 | 0, _, _, _, _, _ => fail
 | m + 1, l, first, s5, out, r => J11 F fail (Jng F fail ex0 m) ex0 l first s5 out r
def K69 {X : Type} (F : Nat) (l : List ZB) (first : Int) (fail : X) (ret : List ZB → Int → X) : X :=
 bif (decide (first < 1)) then
  ret ([] : List ZB) 0
 else
 bif (decide (first > 8192)) then
  ret ([] : List ZB) 0
 else
 Jng F fail
  (fun l1 first1 s5 s4 r =>
   ret s4 s5)
  F l first 0 ([] : List ZB) (l, ())
def K7a {X : Type} (F : Nat) (d_ : ZD) (fail : X) (ret : ZL → List ZB → Int → X) : X :=
 bif (Ka9 d_ 0 ((d_.1.length : Nat) : Int)) then
 bif ((Jr8 d_ 0 ((d_.1.length : Nat) : Int)) != 0) then
  ret (0, (0, (0, ()))) ([] : List ZB) (Jr8 d_ 0 ((d_.1.length : Nat) : Int))
 else
 bif (decide ((((Jed d_ 0 ((d_.1.length : Nat) : Int)).length : Nat) : Int) < 2)) then
  ret (0, (0, (0, ()))) ([] : List ZB) 2
 else
 bif (decide (0 < (((Jed d_ 0 ((d_.1.length : Nat) : Int)).length : Nat) : Int))) then
 bif (J3l) then
 bif (!(Jdc (.arr 16 (.int .u8)) (List.getD (Jed d_ 0 ((d_.1.length : Nat) : Int)) 0 z16) (Jym))) then
  ret (0, (0, (0, ()))) ([] : List ZB) 3
 else
 bif (decide (1 ≤ (((Jed d_ 0 ((d_.1.length : Nat) : Int)).length : Nat) : Int))) then
 bif (Jyo (List.take ((Jed d_ 0 ((d_.1.length : Nat) : Int)).length - 1) (List.drop 1 (Jed d_ 0 ((d_.1.length : Nat) : Int)))) 1) then
 ret ((Jay 1 (Jj6 (List.take ((Jed d_ 0 ((d_.1.length : Nat) : Int)).length - 1) (List.drop 1 (Jed d_ 0 ((d_.1.length : Nat) : Int)))) 1)), ((((Jwk (List.take ((Jed d_ 0 ((d_.1.length : Nat) : Int)).length - 1) (List.drop 1 (Jed d_ 0 ((d_.1.length : Nat) : Int)))) 1).length : Nat) : Int), ((((Jed d_ 0 ((d_.1.length : Nat) : Int)).length : Nat) : Int), ()))) (Jwk (List.take ((Jed d_ 0 ((d_.1.length : Nat) : Int)).length - 1) (List.drop 1 (Jed d_ 0 ((d_.1.length : Nat) : Int)))) 1) 0
 else fail
 else fail
 else fail
 else fail
 else fail
end Go.AI
namespace Go.AI
open Go
set_option linter.unusedVariables false
def Jwv {X : Type} (F : Nat) (fail : X) (next ex0 ex1 : Int → List ZR → Int → Int → X) (s2 : Int) (s8 : List ZR) (s9 s10 : Int) : X :=
 bif (decide (s10 < s9)) then
  bif ((decide (0 ≤ s10)) && (decide (s10 < (s8.length : Int)))) then
  bif (decide ((List.getD s8 (s10).toNat (0, (([] : ZB), ()))).1 ≥ 1)) then
   bif (!(decide ((List.getD s8 (s10).toNat (0, (([] : ZB), ()))).1 ≤ 4))) then
    ex0 1 s8 s9 s10
   else
   bif (decide ((((List.getD s8 (s10).toNat (0, (([] : ZB), ()))).2.1.length : Nat) : Int) > 65536)) then
    ex0 5 s8 s9 s10
   else
   next s2 s8 s9 (Jay s10 1)
  else
  ex0 1 s8 s9 s10
  else fail
 else
 ex1 s2 s8 s9 s10
def Jkt {X : Type} (F : Nat) (fail : X) (ex0 ex1 : Int → List ZR → Int → Int → X) : Nat → Int → List ZR → Int → Int → X
 | 0, _, _, _, _ => fail
 | m + 1, s2, s8, s9, s10 => Jwv F fail (Jkt F fail ex0 ex1 m) ex0 ex1 s2 s8 s9 s10
def Kxp {X : Type} (F : Nat) (l : List ZR) (fail : X) (ret : Int → X) : X :=
 bif (decide ((l.length : Int) > 1024)) then
  ret 6
 else
 Jkt F fail
  (fun s2 s8 s9 s10 =>
   ret s2)
  (fun s21 s81 s91 s101 =>
   ret 0)
  F 0 l (l.length : Int) 0
def Klu {X : Type} (F : Nat) (b : ZB) (x_ : Int) (fail : X) (ret : ZB → X) : X :=
 bif (Jga b x_) then
 ret (Jjy b x_)
 else fail
def Klv {X : Type} (F : Nat) (b x_ : ZB) (fail : X) (ret : ZB → X) : X :=
 bif (Jev b x_) then
 ret (Jh0 b x_)
 else fail
def Jso {X : Type} (F : Nat) (fail : X) (next ex0 : List ZR → Int → Int → ZB → X) (s16 : List ZR) (s17 s18 : Int) (b : ZB) : X :=
 bif (decide (s18 < s17)) then
  bif ((decide (0 ≤ s18)) && (decide (s18 < (s16.length : Int)))) then
  bif (Joj b 51 (List.getD s16 (s18).toNat (0, (([] : ZB), ()))).1) then
  bif (Juq (Jjm b 51 (List.getD s16 (s18).toNat (0, (([] : ZB), ()))).1) 53 (List.getD s16 (s18).toNat (0, (([] : ZB), ()))).2.1) then
  next s16 s17 (Jay s18 1) (Jqs (Jjm b 51 (List.getD s16 (s18).toNat (0, (([] : ZB), ()))).1) 53 (List.getD s16 (s18).toNat (0, (([] : ZB), ()))).2.1)
  else fail
  else fail
  else fail
 else
 ex0 s16 s17 s18 b
def Jfw {X : Type} (F : Nat) (fail : X) (ex0 : List ZR → Int → Int → ZB → X) : Nat → List ZR → Int → Int → ZB → X
 | 0, _, _, _, _ => fail
 | m + 1, s16, s17, s18, b => Jso F fail (Jfw F fail ex0 m) ex0 s16 s17 s18 b
def Klw {X : Type} (F : Nat) (l : List ZR) (fail : X) (ret : ZB → Int → X) : X :=
 bif (Jmf l) then
 bif ((Jiy l) != 0) then
  ret ([] : ZB) (Jiy l)
 else
 bif (Joj ([] : ZB) 51 (l.length : Int)) then
 Jfw F fail
  (fun s16 s17 s18 b =>
   bif (decide ((b.length : Int) > 65536)) then
    ret ([] : ZB) 5
   else
   ret b 0)
  F l (l.length : Int) 0 (Jjm ([] : ZB) 51 (l.length : Int))
 else fail
 else fail
def Jsp {X : Type} (F : Nat) (fail : X) (next ex0 ex1 : Int → Int → Int → ZB → List ZR → X) (s3 s19 s20 : Int) (b : ZB) (out : List ZR) : X :=
 bif (decide (s20 < s19)) then
  bif (Jeu b) then
  bif ((Jbi b) == 0) then
   bif ((Jbi b) != 0) then
    ex0 (Jbi b) s19 s20 (Jal b) out
   else
   bif (decide ((Jao b) ≥ 1)) then
    bif (!(decide ((Jao b) ≤ 4))) then
     ex0 1 s19 s20 (Jal b) out
    else
    bif (Jfu (Jal b)) then
    bif ((Jct (Jal b)) == 0) then
     bif ((Jct (Jal b)) != 0) then
      ex0 (Jct (Jal b)) s19 s20 (Jeg (Jal b)) out
     else
     bif (decide ((out ++ ([((Jao b), ((Jef (Jal b)), ()))] : List ZR)).length ≤ big)) then
     next s3 s19 (Jay s20 (1 : Int)) (Jeg (Jal b)) (out ++ ([((Jao b), ((Jef (Jal b)), ()))] : List ZR))
     else fail
    else
    bif ((Jct (Jal b)) != 0) then
     ex0 (Jct (Jal b)) s19 s20 (Jal b) out
    else
    bif (decide ((out ++ ([((Jao b), (([] : ZB), ()))] : List ZR)).length ≤ big)) then
    next s3 s19 (Jay s20 (1 : Int)) (Jal b) (out ++ ([((Jao b), (([] : ZB), ()))] : List ZR))
    else fail
    else fail
   else
   ex0 1 s19 s20 (Jal b) out
  else
  bif ((Jbi b) != 0) then
   ex0 (Jbi b) s19 s20 b out
  else
  ex0 1 s19 s20 b out
  else fail
 else
 ex1 s3 s19 s20 b out
def Je7 {X : Type} (F : Nat) (fail : X) (ex0 ex1 : Int → Int → Int → ZB → List ZR → X) : Nat → Int → Int → Int → ZB → List ZR → X
 | 0, _, _, _, _, _ => fail
 | m + 1, s3, s19, s20, b, out => Jsp F fail (Je7 F fail ex0 ex1 m) ex0 ex1 s3 s19 s20 b out
def Klx {X : Type} (F : Nat) (b : ZB) (fail : X) (ret : List ZR → Int → X) : X :=
 bif (decide ((b.length : Int) > 65536)) then
  ret ([] : List ZR) 5
 else
 bif (Jeu b) then
 bif ((Jbi b) == 0) then
  bif ((Jbi b) != 0) then
   ret ([] : List ZR) (Jbi b)
  else
  bif (decide ((Jao b) > 1024)) then
   ret ([] : List ZR) 6
  else
  Je7 F fail
   (fun s3 s19 s20 b1 out =>
    ret ([] : List ZR) s3)
   (fun s31 s191 s201 b2 out1 =>
    bif (decide ((b2.length : Int) > 0)) then
     ret ([] : List ZR) 3
    else
    ret out1 0)
   F 0 (Jao b) 0 (Jal b) ([] : List ZR)
 else
 bif ((Jbi b) != 0) then
  ret ([] : List ZR) (Jbi b)
 else
 Je7 F fail
  (fun s32 s192 s202 b3 out2 =>
   ret ([] : List ZR) s32)
  (fun s33 s193 s203 b4 out3 =>
   bif (decide ((b4.length : Int) > 0)) then
    ret ([] : List ZR) 3
   else
   ret out3 0)
  F 0 0 0 b ([] : List ZR)
 else fail
def Kbx {X : Type} (F : Nat) (fail : X) (next ex0 ex1 : List ZR → Bool → Int → X) (l : List ZR) (s2 : Bool) (i : Int) : X :=
 bif (decide (i < (l.length : Int))) then
  bif (decide (i < 60)) then
   bif ((decide (0 ≤ i)) && (decide (i < (l.length : Int)))) then
   bif (decide ((((List.getD l (i).toNat (0, (([] : ZB), ()))).2.1.length : Nat) : Int) > 300)) then
    ex0 l false i
   else
   next l s2 (Jay i 1)
   else fail
  else
  ex1 l s2 i
 else
 ex1 l s2 i
def Jsq {X : Type} (F : Nat) (fail : X) (ex0 ex1 : List ZR → Bool → Int → X) : Nat → List ZR → Bool → Int → X
 | 0, _, _, _ => fail
 | m + 1, l, s2, i => Kbx F fail (Jsq F fail ex0 ex1 m) ex0 ex1 l s2 i
def uFew {X : Type} (F : Nat) (l : List ZR) (fail : X) (ret : Bool → X) : X :=
 Jsq F fail
  (fun l1 s2 i =>
   ret s2)
  (fun l2 s21 i1 =>
   ret (decide ((l2.length : Int) ≤ 60)))
  F l false 0
def J12 {X : Type} (F : Nat) (fail : X) (next ex0 ex1 : List ZR → List ZR → Bool → Int → X) (a b : List ZR) (s4 : Bool) (i : Int) : X :=
 bif (decide (i < (a.length : Int))) then
  bif ((decide (0 ≤ i)) && (decide (i < (a.length : Int)))) then
  bif ((decide (0 ≤ i)) && (decide (i < (b.length : Int)))) then
  bif ((List.getD a (i).toNat (0, (([] : ZB), ()))).1 != (List.getD b (i).toNat (0, (([] : ZB), ()))).1) then
   ex0 a b false i
  else
  bif ((decide (0 ≤ i)) && (decide (i < (a.length : Int)))) then
  bif ((decide (0 ≤ i)) && (decide (i < (b.length : Int)))) then
  bif (!((List.getD a (i).toNat (0, (([] : ZB), ()))).2.1 == (List.getD b (i).toNat (0, (([] : ZB), ()))).2.1)) then
   ex0 a b false i
  else
  next a b s4 (Jay i 1)
  else fail
  else fail
  else fail
  else fail
 else
 ex1 a b s4 i
def Jnh {X : Type} (F : Nat) (fail : X) (ex0 ex1 : List ZR → List ZR → Bool → Int → X) : Nat → List ZR → List ZR → Bool → Int → X
 | 0, _, _, _, _ => fail
 | m + 1, a, b, s4, i => J12 F fail (Jnh F fail ex0 ex1 m) ex0 ex1 a b s4 i
def K7b {X : Type} (F : Nat) (a b : List ZR) (fail : X) (ret : Bool → X) : X :=
 bif ((a.length : Int) != (b.length : Int)) then
  ret false
 else
 Jnh F fail
  (fun a1 b1 s4 i =>
   ret s4)
  (fun a2 b2 s41 i1 =>
   ret true)
  F a b false 0
def Jov {X : Type} (F : Nat) (fail : X) (next ex0 ex1 : List (List ZR) → List (List ZR) → Bool → Int → X) (a b : List (List ZR)) (s4 : Bool) (i : Int) : X :=
 bif (decide (i < (a.length : Int))) then
  bif ((decide (0 ≤ i)) && (decide (i < (a.length : Int)))) then
  bif ((decide (0 ≤ i)) && (decide (i < (b.length : Int)))) then
  bif (Kbf (List.getD a (i).toNat ([] : List ZR)) (List.getD b (i).toNat ([] : List ZR))) then
  bif (!(J3o (List.getD a (i).toNat ([] : List ZR)) (List.getD b (i).toNat ([] : List ZR)))) then
   ex0 a b false i
  else
  next a b s4 (Jay i 1)
  else fail
  else fail
  else fail
 else
 ex1 a b s4 i
def Jhm {X : Type} (F : Nat) (fail : X) (ex0 ex1 : List (List ZR) → List (List ZR) → Bool → Int → X) : Nat → List (List ZR) → List (List ZR) → Bool → Int → X
 | 0, _, _, _, _ => fail
 | m + 1, a, b, s4, i => Jov F fail (Jhm F fail ex0 ex1 m) ex0 ex1 a b s4 i
def Kby {X : Type} (F : Nat) (a b : List (List ZR)) (fail : X) (ret : Bool → X) : X :=
 bif ((a.length : Int) != (b.length : Int)) then
  ret false
 else
 Jhm F fail
  (fun a1 b1 s4 i =>
   ret s4)
  (fun a2 b2 s41 i1 =>
   ret true)
  F a b false 0
end Go.AI
namespace Go.AI
open Go
set_option linter.unusedVariables false
def Kly {X : Type} (F : Nat) (l : ZL) (key : ZB) (records : List ZR) (fail : X) (ret : ZL → List (Int × (Int × ((List ZB) × Unit))) → Int → X) : X :=
 bif ((Jj3 l) != 0) then
  ret (0, (0, (0, ()))) ([] : List (Int × (Int × ((List ZB) × Unit)))) (Jj3 l)
 else
 bif (Jqt records) then
 bif ((Jim records) != 0) then
  ret (0, (0, (0, ()))) ([] : List (Int × (Int × ((List ZB) × Unit)))) (Jim records)
 else
 bif (decide ((key.length : Int) > 0)) then
  bif (Kbe key (Jay l.2.1 1) (Jcy records)) then
  bif ((Jsc key (Jay l.2.1 1) (Jcy records)) != 0) then
   ret (0, (0, (0, ()))) ([] : List (Int × (Int × ((List ZB) × Unit)))) (Jsc key (Jay l.2.1 1) (Jcy records))
  else
  bif (Jwj l (Jof key (Jay l.2.1 1) (Jcy records))) then
  ret (Jm3 l (Jof key (Jay l.2.1 1) (Jcy records))) (Jm4 l (Jof key (Jay l.2.1 1) (Jcy records))) (Jm5 l (Jof key (Jay l.2.1 1) (Jcy records)))
  else fail
  else fail
 else
 bif (Jwj l (Jcy records)) then
 ret (Jm3 l (Jcy records)) (Jm4 l (Jcy records)) (Jm5 l (Jcy records))
 else fail
 else fail
def Jut {X : Type} (F : Nat) (fail : X) (ret : Bool → X) : X :=
 bif (Jqt ([(3, (([97, 98] : ZB), ())), (1, (([] : ZB), ()))] : List ZR)) then
 bif (Ji9 (1, (0, (9, ()))) ([] : ZB) ([(3, (([97, 98] : ZB), ())), (1, (([] : ZB), ()))] : List ZR)) then
 bif (Ji9 (1, (0, (9, ()))) ([107, 101, 121] : ZB) ([(3, (([97, 98] : ZB), ())), (1, (([] : ZB), ()))] : List ZR)) then
 bif ((Jim ([(3, (([97, 98] : ZB), ())), (1, (([] : ZB), ()))] : List ZR)) != 0) then
  ret false
 else
 bif ((Jhg (1, (0, (9, ()))) ([] : ZB) ([(3, (([97, 98] : ZB), ())), (1, (([] : ZB), ()))] : List ZR)) != 0) then
  ret false
 else
 bif ((Jhg (1, (0, (9, ()))) ([107, 101, 121] : ZB) ([(3, (([97, 98] : ZB), ())), (1, (([] : ZB), ()))] : List ZR)) != 0) then
  ret false
 else
 bif (!((Jcy ([(3, (([97, 98] : ZB), ())), (1, (([] : ZB), ()))] : List ZR)) == ([2, 3, 2, 97, 98, 1, 0] : ZB))) then
  ret false
 else
 bif ((((Jav (1, (0, (9, ()))) ([] : ZB) ([(3, (([97, 98] : ZB), ())), (1, (([] : ZB), ()))] : List ZR)).length : Nat) : Int) != 4) then
  ret false
 else
 bif ((((Jav (1, (0, (9, ()))) ([107, 101, 121] : ZB) ([(3, (([97, 98] : ZB), ())), (1, (([] : ZB), ()))] : List ZR)).length : Nat) : Int) != 4) then
  ret false
 else
 bif (Jdc (.pair (.int .i64) (.pair (.int .i64) (.pair (.int .i64) .unit))) (Jdl (1, (0, (9, ()))) ([] : ZB) ([(3, (([97, 98] : ZB), ())), (1, (([] : ZB), ()))] : List ZR)) (3, (1, (9, ())))) then
  bif ((Jdl (1, (0, (9, ()))) ([107, 101, 121] : ZB) ([(3, (([97, 98] : ZB), ())), (1, (([] : ZB), ()))] : List ZR)).1 == 4) then
   bif (decide (0 < (((Jav (1, (0, (9, ()))) ([] : ZB) ([(3, (([97, 98] : ZB), ())), (1, (([] : ZB), ()))] : List ZR)).length : Nat) : Int))) then
   bif ((List.getD (Jav (1, (0, (9, ()))) ([] : ZB) ([(3, (([97, 98] : ZB), ())), (1, (([] : ZB), ()))] : List ZR)) 0 (0, (0, (([] : List ZB), ())))).2.1 == 1) then
    bif (decide (0 < (((Jav (1, (0, (9, ()))) ([] : ZB) ([(3, (([97, 98] : ZB), ())), (1, (([] : ZB), ()))] : List ZR)).length : Nat) : Int))) then
    bif ((((List.getD (Jav (1, (0, (9, ()))) ([] : ZB) ([(3, (([97, 98] : ZB), ())), (1, (([] : ZB), ()))] : List ZR)) 0 (0, (0, (([] : List ZB), ())))).2.2.1.length : Nat) : Int) == 1) then
     bif (decide (2 < (((Jav (1, (0, (9, ()))) ([] : ZB) ([(3, (([97, 98] : ZB), ())), (1, (([] : ZB), ()))] : List ZR)).length : Nat) : Int))) then
     bif ((List.getD (Jav (1, (0, (9, ()))) ([] : ZB) ([(3, (([97, 98] : ZB), ())), (1, (([] : ZB), ()))] : List ZR)) 2 (0, (0, (([] : List ZB), ())))).2.1 == 2) then
      bif (decide (0 < (((Jav (1, (0, (9, ()))) ([107, 101, 121] : ZB) ([(3, (([97, 98] : ZB), ())), (1, (([] : ZB), ()))] : List ZR)).length : Nat) : Int))) then
      ret ((((List.getD (Jav (1, (0, (9, ()))) ([107, 101, 121] : ZB) ([(3, (([97, 98] : ZB), ())), (1, (([] : ZB), ()))] : List ZR)) 0 (0, (0, (([] : List ZB), ())))).2.2.1.length : Nat) : Int) == 2)
      else fail
     else
     ret false
     else fail
    else
    ret false
    else fail
   else
   ret false
   else fail
  else
  ret false
 else
 ret false
 else fail
 else fail
 else fail
end Go.AI
namespace Go.AI
open Go
set_option linter.unusedVariables false
def Jsr {X : Type} (F : Nat) (fail : X) (next ex0 ex1 : List ZB → Int → Int → ZB → ZL → Int → List (List ZR) → ZB → ZL → X) (s7 : List ZB) (s8 s9 : Int) (key : ZB) (s4 : ZL) (s6 : Int) (out : List (List ZR)) (s2 : ZB) (l : ZL) : X :=
 bif (decide (s9 < s8)) then
  bif ((decide (0 ≤ s9)) && (decide (s9 < (s7.length : Int)))) then
  bif (decide ((s2.length : Int) > 0)) then
   bif (Jyl s2 (Jay s9 1) (List.getD s7 (s9).toNat ([] : ZB))) then
   bif ((Jjz s2 (Jay s9 1) (List.getD s7 (s9).toNat ([] : ZB))) == 0) then
    bif (Ji8 (Jh1 s2 (Jay s9 1) (List.getD s7 (s9).toNat ([] : ZB)))) then
    bif ((Jey (Jh1 s2 (Jay s9 1) (List.getD s7 (s9).toNat ([] : ZB)))) != 0) then
     ex0 s7 s8 s9 key (0, (0, (0, ()))) (Jey (Jh1 s2 (Jay s9 1) (List.getD s7 (s9).toNat ([] : ZB)))) out s2 l
    else
    bif (decide ((out ++ ([(Jex (Jh1 s2 (Jay s9 (1 : Int)) (List.getD s7 (s9).toNat ([] : ZB))))] : List (List ZR))).length ≤ big)) then
    next s7 s8 (Jay s9 (1 : Int)) key s4 s6 (out ++ ([(Jex (Jh1 s2 (Jay s9 (1 : Int)) (List.getD s7 (s9).toNat ([] : ZB))))] : List (List ZR))) s2 l
    else fail
    else fail
   else
   bif ((Jjz s2 (Jay s9 1) (List.getD s7 (s9).toNat ([] : ZB))) != 0) then
    ex0 s7 s8 s9 key (0, (0, (0, ()))) (Jjz s2 (Jay s9 1) (List.getD s7 (s9).toNat ([] : ZB))) out s2 l
   else
   bif (decide ((out ++ ([([] : List ZR)] : List (List ZR))).length ≤ big)) then
   next s7 s8 (Jay s9 (1 : Int)) key s4 s6 (out ++ ([([] : List ZR)] : List (List ZR))) s2 l
   else fail
   else fail
  else
  bif (Ji8 (List.getD s7 (s9).toNat ([] : ZB))) then
  bif ((Jey (List.getD s7 (s9).toNat ([] : ZB))) != 0) then
   ex0 s7 s8 s9 key (0, (0, (0, ()))) (Jey (List.getD s7 (s9).toNat ([] : ZB))) out s2 l
  else
  bif (decide ((out ++ ([(Jex (List.getD s7 (s9).toNat ([] : ZB)))] : List (List ZR))).length ≤ big)) then
  next s7 s8 (Jay s9 (1 : Int)) key s4 s6 (out ++ ([(Jex (List.getD s7 (s9).toNat ([] : ZB)))] : List (List ZR))) s2 l
  else fail
  else fail
  else fail
 else
 ex1 s7 s8 s9 key s4 s6 out s2 l
def Jgv {X : Type} (F : Nat) (fail : X) (ex0 ex1 : List ZB → Int → Int → ZB → ZL → Int → List (List ZR) → ZB → ZL → X) : Nat → List ZB → Int → Int → ZB → ZL → Int → List (List ZR) → ZB → ZL → X
 | 0, _, _, _, _, _, _, _, _, _ => fail
 | m + 1, s7, s8, s9, key, s4, s6, out, s2, l => Jsr F fail (Jgv F fail ex0 ex1 m) ex0 ex1 s7 s8 s9 key s4 s6 out s2 l
def Klz {X : Type} (F : Nat) (d_ : ZD) (key : ZB) (fail : X) (ret : ZL → List (List ZR) → Int → X) : X :=
 bif (Jjl d_) then
 bif ((Jme d_) != 0) then
  ret (0, (0, (0, ()))) ([] : List (List ZR)) (Jme d_)
 else
 bif (decide ((key.length : Int) > 64)) then
  ret (0, (0, (0, ()))) ([] : List (List ZR)) 1
 else
 Jgv F fail
  (fun s7 s8 s9 Jpq s4 s6 out s2 l =>
   ret s4 ([] : List (List ZR)) s6)
  (fun s71 s81 s91 key2 s41 s61 out1 s21 l1 =>
   ret l1 out1 0)
  F (Jmd d_) (((Jmd d_).length : Nat) : Int) 0 key (0, (0, (0, ()))) 0 ([] : List (List ZR)) key (Joi d_)
 else fail
end Go.AI
namespace Go.AI
open Go
set_option linter.unusedVariables false
def Kbz {X : Type} (F : Nat) (fail : X) (next ex0 : List (List ZR) → ZB → Bool → Int → Int → Int → X) (l : List (List ZR)) (key : ZB) (s4 : Bool) (n i k : Int) : X :=
 bif ((decide (0 ≤ i)) && (decide (i < (l.length : Int)))) then
 bif (decide (k < (((List.getD l (i).toNat ([] : List ZR)).length : Nat) : Int))) then
  bif ((decide (0 ≤ i)) && (decide (i < (l.length : Int)))) then
  bif ((decide (0 ≤ k)) && (decide (k < (((List.getD l (i).toNat ([] : List ZR)).length : Nat) : Int)))) then
  next l key s4 (Jay n (Jay 20 (((List.getD (List.getD l (i).toNat ([] : List ZR)) (k).toNat (0, (([] : ZB), ()))).2.1.length : Nat) : Int))) i (Jay k 1)
  else fail
  else fail
 else
 ex0 l key s4 n i k
 else fail
def Jow {X : Type} (F : Nat) (fail : X) (ex0 : List (List ZR) → ZB → Bool → Int → Int → Int → X) : Nat → List (List ZR) → ZB → Bool → Int → Int → Int → X
 | 0, _, _, _, _, _, _ => fail
 | m + 1, l, key, s4, n, i, k => Kbz F fail (Jow F fail ex0 m) ex0 l key s4 n i k
def Kb0 {X : Type} (F : Nat) (fail : X) (next ex0 ex1 : List (List ZR) → ZB → Bool → Int → Int → X) (l : List (List ZR)) (key : ZB) (s4 : Bool) (n i : Int) : X :=
 bif (decide (i < (l.length : Int))) then
  bif (decide (i < 12)) then
   bif ((decide (0 ≤ i)) && (decide (i < (l.length : Int)))) then
   bif (Kqc (List.getD l (i).toNat ([] : List ZR))) then
   bif (!(J8u (List.getD l (i).toNat ([] : List ZR)))) then
    ex0 l key false n i
   else
   bif ((decide (0 ≤ i)) && (decide (i < (l.length : Int)))) then
   bif (Jmf (List.getD l (i).toNat ([] : List ZR))) then
   bif ((Jiy (List.getD l (i).toNat ([] : List ZR))) != 0) then
    ex0 l key false n i
   else
   Jow F fail
    (fun l1 Jpq s41 n1 i1 k =>
     next l1 Jpq s41 n1 (Jay i1 1))
    F l key s4 n i 0
   else fail
   else fail
   else fail
   else fail
  else
  ex1 l key s4 n i
 else
 ex1 l key s4 n i
def Jox {X : Type} (F : Nat) (fail : X) (ex0 ex1 : List (List ZR) → ZB → Bool → Int → Int → X) : Nat → List (List ZR) → ZB → Bool → Int → Int → X
 | 0, _, _, _, _, _ => fail
 | m + 1, l, key, s4, n, i => Kb0 F fail (Jox F fail ex0 ex1 m) ex0 ex1 l key s4 n i
def tfew {X : Type} (F : Nat) (l : List (List ZR)) (key : ZB) (fail : X) (ret : Bool → X) : X :=
 Jox F fail
  (fun l1 Jpq s4 n i =>
   ret s4)
  (fun l2 key2 s41 n1 i1 =>
   bif (decide ((l2.length : Int) ≤ 10)) then
    bif (decide (n1 ≤ 2000)) then
     ret (decide ((key2.length : Int) ≤ 64))
    else
    ret false
   else
   ret false)
  F l key false 0 0
def Kxq {X : Type} (F : Nat) (fail : X) (ret : ZD → ZL → Bool → X) : X :=
 bif (J3n 400) then
 bif (Kw4 400) then
 bif (Jz0 (Jk7 400) (Jew 400)) then
 bif ((Jm2 (400 : Int)) == (0 : Int)) then
  bif ((J3i (400 : Int)) == (0 : Int)) then
   ret (Jgi (Jk7 400) (Jew 400)) (Jil 400) ((Jk8 (Jk7 400) (Jew 400)) == 0)
  else
  ret (Jgi (Jk7 400) (Jew 400)) (Jil 400) false
 else
 ret (Jgi (Jk7 400) (Jew 400)) (Jil 400) false
 else fail
 else fail
 else fail
def Jka {X : Type} (F : Nat) (fail : X) (next ex0 : List (List ZR) → ZB → Bool → Int → ZD → ZL → ZD → ZL → X) (l : List (List ZR)) (key : ZB) (ok : Bool) (i : Int) (s4 : ZD) (s5 : ZL) (d_ : ZD) (x_ : ZL) : X :=
 bif (decide (i < (l.length : Int))) then
  bif ok then
   bif ((decide (0 ≤ i)) && (decide (i < (l.length : Int)))) then
   bif (Ji9 x_ key (List.getD l (i).toNat ([] : List ZR))) then
   bif (Jz0 d_ (Jav x_ key (List.getD l (i).toNat ([] : List ZR)))) then
   bif ((Jhg x_ key (List.getD l (i).toNat ([] : List ZR))) == 0) then
    next l key ((Jk8 d_ (Jav x_ key (List.getD l (i).toNat ([] : List ZR)))) == 0) (Jay i 1) s4 s5 (Jgi d_ (Jav x_ key (List.getD l (i).toNat ([] : List ZR)))) (Jdl x_ key (List.getD l (i).toNat ([] : List ZR)))
   else
   next l key false (Jay i 1) s4 s5 (Jgi d_ (Jav x_ key (List.getD l (i).toNat ([] : List ZR)))) (Jdl x_ key (List.getD l (i).toNat ([] : List ZR)))
   else fail
   else fail
   else fail
  else
  ex0 l key ok i s4 s5 d_ x_
 else
 ex0 l key ok i s4 s5 d_ x_
def Jfj {X : Type} (F : Nat) (fail : X) (ex0 : List (List ZR) → ZB → Bool → Int → ZD → ZL → ZD → ZL → X) : Nat → List (List ZR) → ZB → Bool → Int → ZD → ZL → ZD → ZL → X
 | 0, _, _, _, _, _, _, _, _ => fail
 | m + 1, l, key, ok, i, s4, s5, d_, x_ => Jka F fail (Jfj F fail ex0 m) ex0 l key ok i s4 s5 d_ x_
def Jyu {X : Type} (F : Nat) (l : List (List ZR)) (key : ZB) (fail : X) (ret : ZD → ZL → Bool → X) : X :=
 bif (J1x) then
 Jfj F fail
  (fun l1 Jpq ok i s4 s5 d_ x_ =>
   ret d_ x_ ok)
  F l key (J3p) 0 (([] : List ZB), (([] : List ZR), ())) (0, (0, (0, ()))) (Jqv) (Jm9)
 else fail
end Go.AI
namespace Go.AI
open Go
set_option linter.unusedVariables false
def Jbj (b : (UInt8 × ((List Int) × Unit))) (key : ZB) (l : List (List ZR)) := (Jjx (Je6 (List.take ((Jb3 (l.length : Int) 1)).toNat l) key) (Jav (Jan (List.take ((Jb3 (l.length : Int) 1)).toNat l) key) key (List.getD l ((Jb3 (l.length : Int) 1)).toNat ([] : List ZR))) (Jgg (Jyh b.1) (Jay (((Jav (Jan (List.take ((Jb3 (l.length : Int) 1)).toNat l) key) key (List.getD l ((Jb3 (l.length : Int) 1)).toNat ([] : List ZR))).length : Nat) : Int) 1)) b.2.1)
def Jah (b : (UInt8 × ((List Int) × Unit))) (key : ZB) (l : List (List ZR)) := (Jm7 (Jbj b key l) key)
def Jc8 (b : (UInt8 × ((List Int) × Unit))) (key : ZB) (l : List (List ZR)) := ((((Jah b key l).length : Nat) : Int) != (l.length : Int))
def Jd3 (b : (UInt8 × ((List Int) × Unit))) (key : ZB) (l : List (List ZR)) := ((decide (0 ≤ (((Jah b key l).length : Nat) : Int))) && (decide ((((Jah b key l).length : Nat) : Int) ≤ (l.length : Int))))
def Jck (b : (UInt8 × ((List Int) × Unit))) (key : ZB) (l : List (List ZR)) := (List.take (Jah b key l).length l)
def Jd4 (b : (UInt8 × ((List Int) × Unit))) (key : ZB) (l : List (List ZR)) := (Jm6 (Jah b key l) (Jck b key l))
def Jax (b : (UInt8 × ((List Int) × Unit))) (key : ZB) (l : List (List ZR)) := (Jkl (Jbj b key l) key)
def Jbk (b : (UInt8 × ((List Int) × Unit))) (key : ZB) (l : List (List ZR)) := (Ji9 (Jax b key l) key (List.getD l ((Jb3 (l.length : Int) 1)).toNat ([] : List ZR)))
def Jc9 (b : (UInt8 × ((List Int) × Unit))) (key : ZB) (l : List (List ZR)) := (Jav (Jax b key l) key (List.getD l ((Jb3 (l.length : Int) 1)).toNat ([] : List ZR)))
def Ja5 (b : (UInt8 × ((List Int) × Unit))) (key : ZB) (l : List (List ZR)) := (Jz0 (Jbj b key l) (Jc9 b key l))
def Jcf (b : (UInt8 × ((List Int) × Unit))) (key : ZB) (l : List (List ZR)) := (Jgi (Jbj b key l) (Jc9 b key l))
def Ja6 (b : (UInt8 × ((List Int) × Unit))) (key : ZB) (l : List (List ZR)) := (Jqu (Jcf b key l) key)
def Ja7 (b : (UInt8 × ((List Int) × Unit))) (key : ZB) (l : List (List ZR)) := ((Jhg (Jax b key l) key (List.getD l ((Jb3 (l.length : Int) 1)).toNat ([] : List ZR))) == 0)
def Ja8 (b : (UInt8 × ((List Int) × Unit))) (key : ZB) (l : List (List ZR)) := ((Jk8 (Jbj b key l) (Jc9 b key l)) == 0)
def Ja9 (b : (UInt8 × ((List Int) × Unit))) (key : ZB) (l : List (List ZR)) := ((Jm8 (Jcf b key l) key) == 0)
def Jba (b : (UInt8 × ((List Int) × Unit))) (key : ZB) (l : List (List ZR)) := (Jdc (.pair (.int .i64) (.pair (.int .i64) (.pair (.int .i64) .unit))) (Jkl (Jcf b key l) key) (Jdl (Jax b key l) key (List.getD l ((Jb3 (l.length : Int) 1)).toNat ([] : List ZR))))
def Jat (b : (UInt8 × ((List Int) × Unit))) (key : ZB) (l : List (List ZR)) := ((Jah b key l) ++ ([(List.getD l ((Jb3 ((l.length : Nat) : Int) (1 : Int))).toNat ([] : List ZR))] : List (List ZR)))
def Jdv (b : (UInt8 × ((List Int) × Unit))) (key : ZB) (l : List (List ZR)) := (Jm7 (Jcf b key l) key)
def Jbb (b : (UInt8 × ((List Int) × Unit))) (key : ZB) (l : List (List ZR)) := (Jm6 (Jdv b key l) (Jat b key l))
def Jbc (b : (UInt8 × ((List Int) × Unit))) (key : ZB) (l : List (List ZR)) := (Jin (Jdv b key l) (Jat b key l))
def TransactionSurvives {X : Type} (F : Nat) (l : List (List ZR)) (key : ZB) (b : (UInt8 × ((List Int) × Unit))) (fail : X) (ret : Bool → X) : X :=
 bif (Kxa l key) then
 bif (!(Kqf l key)) then
  ret (Jcb)
 else
 bif ((l.length : Int) == 0) then
  ret (Jcb)
 else
 bif (decide (((b.2.1.length : Nat) : Int) > 100)) then
  ret (Jcb)
 else
 bif ((decide (0 ≤ (Jb3 (l.length : Int) 1))) && (decide ((Jb3 (l.length : Int) 1) < (l.length : Int)))) then
 bif ((decide (0 ≤ (Jb3 (l.length : Int) 1))) && (decide ((Jb3 (l.length : Int) 1) ≤ (l.length : Int)))) then
 bif (Jqw (List.take ((Jb3 (l.length : Int) 1)).toNat l) key) then
 bif (Ji9 (Jan (List.take ((Jb3 (l.length : Int) 1)).toNat l) key) key (List.getD l ((Jb3 (l.length : Int) 1)).toNat ([] : List ZR))) then
 bif (!(Jok (List.take ((Jb3 (l.length : Int) 1)).toNat l) key)) then
  ret false
 else
 bif ((Jhg (Jan (List.take ((Jb3 (l.length : Int) 1)).toNat l) key) key (List.getD l ((Jb3 (l.length : Int) 1)).toNat ([] : List ZR))) != 0) then
  ret false
 else
 bif ((Jay (((Jav (Jan (List.take ((Jb3 ((l.length : Nat) : Int) (1 : Int))).toNat l) key) key (List.getD l ((Jb3 ((l.length : Nat) : Int) (1 : Int))).toNat ([] : List ZR))).length : Nat) : Int) (1 : Int)) != (0 : Int)) then
 bif (Jqo (Je6 (List.take ((Jb3 (l.length : Int) 1)).toNat l) key) (Jav (Jan (List.take ((Jb3 (l.length : Int) 1)).toNat l) key) key (List.getD l ((Jb3 (l.length : Int) 1)).toNat ([] : List ZR))) (Jgg (Jyh b.1) (Jay (((Jav (Jan (List.take ((Jb3 (l.length : Int) 1)).toNat l) key) key (List.getD l ((Jb3 (l.length : Int) 1)).toNat ([] : List ZR))).length : Nat) : Int) 1)) b.2.1) then
 bif (Jqu (Jbj b key l) key) then
 bif ((Jhz (Je6 (List.take ((Jb3 (l.length : Int) 1)).toNat l) key) (Jav (Jan (List.take ((Jb3 (l.length : Int) 1)).toNat l) key) key (List.getD l ((Jb3 (l.length : Int) 1)).toNat ([] : List ZR))) (Jgg (Jyh b.1) (Jay (((Jav (Jan (List.take ((Jb3 (l.length : Int) 1)).toNat l) key) key (List.getD l ((Jb3 (l.length : Int) 1)).toNat ([] : List ZR))).length : Nat) : Int) 1)) b.2.1) != 0) then
  ret false
 else
 bif ((Jm8 (Jbj b key l) key) != 0) then
  ret false
 else
 bif (Jc8 b key l) then
  bif ((((Jah b key l).length : Nat) : Int) != (Jb3 (l.length : Int) 1)) then
   ret false
  else
  bif (Jd3 b key l) then
  bif (Jd4 b key l) then
  bif (!(Jin (Jah b key l) (Jck b key l))) then
   ret false
  else
  bif ((Jgg (Jyh b.1) (Jay (((Jav (Jan (List.take ((Jb3 (l.length : Int) 1)).toNat l) key) key (List.getD l ((Jb3 (l.length : Int) 1)).toNat ([] : List ZR))).length : Nat) : Int) 1)) == (((Jav (Jan (List.take ((Jb3 (l.length : Int) 1)).toNat l) key) key (List.getD l ((Jb3 (l.length : Int) 1)).toNat ([] : List ZR))).length : Nat) : Int)) then
   bif (!(Jdc (.pair (.int .i64) (.pair (.int .i64) (.pair (.int .i64) .unit))) (Jax b key l) (Jdl (Jan (List.take ((Jb3 (l.length : Int) 1)).toNat l) key) key (List.getD l ((Jb3 (l.length : Int) 1)).toNat ([] : List ZR))))) then
    ret false
   else
   bif (Jc8 b key l) then
    ret false
   else
   bif ((Jgg (Jyh b.1) (Jay (((Jav (Jan (List.take ((Jb3 (l.length : Int) 1)).toNat l) key) key (List.getD l ((Jb3 (l.length : Int) 1)).toNat ([] : List ZR))).length : Nat) : Int) 1)) == 0) then
    bif (!(Jdc (.pair (.int .i64) (.pair (.int .i64) (.pair (.int .i64) .unit))) (Jax b key l) (Jan (List.take ((Jb3 (l.length : Int) 1)).toNat l) key))) then
     ret false
    else
    bif (Jbk b key l) then
    bif (Ja5 b key l) then
    bif (Ja6 b key l) then
    bif (Jcb) then
     bif (Ja7 b key l) then
      bif (Ja8 b key l) then
       bif (Ja9 b key l) then
        bif (Jba b key l) then
         bif (decide ((Jah b key l).length ≤ big)) then
         bif (decide ((Jat b key l).length ≤ big)) then
         bif (Jbb b key l) then
         ret (Jbc b key l)
         else fail
         else fail
         else fail
        else
        ret false
       else
       ret false
      else
      ret false
     else
     ret false
    else
    ret false
    else fail
    else fail
    else fail
   else
   bif (Jbk b key l) then
   bif (Ja5 b key l) then
   bif (Ja6 b key l) then
   bif (Jcb) then
    bif (Ja7 b key l) then
     bif (Ja8 b key l) then
      bif (Ja9 b key l) then
       bif (Jba b key l) then
        bif (decide ((Jah b key l).length ≤ big)) then
        bif (decide ((Jat b key l).length ≤ big)) then
        bif (Jbb b key l) then
        ret (Jbc b key l)
        else fail
        else fail
        else fail
       else
       ret false
      else
      ret false
     else
     ret false
    else
    ret false
   else
   ret false
   else fail
   else fail
   else fail
  else
  bif ((Jgg (Jyh b.1) (Jay (((Jav (Jan (List.take ((Jb3 (l.length : Int) 1)).toNat l) key) key (List.getD l ((Jb3 (l.length : Int) 1)).toNat ([] : List ZR))).length : Nat) : Int) 1)) == 0) then
   bif (!(Jdc (.pair (.int .i64) (.pair (.int .i64) (.pair (.int .i64) .unit))) (Jax b key l) (Jan (List.take ((Jb3 (l.length : Int) 1)).toNat l) key))) then
    ret false
   else
   bif (Jbk b key l) then
   bif (Ja5 b key l) then
   bif (Ja6 b key l) then
   bif (Jcb) then
    bif (Ja7 b key l) then
     bif (Ja8 b key l) then
      bif (Ja9 b key l) then
       bif (Jba b key l) then
        bif (decide ((Jah b key l).length ≤ big)) then
        bif (decide ((Jat b key l).length ≤ big)) then
        bif (Jbb b key l) then
        ret (Jbc b key l)
        else fail
        else fail
        else fail
       else
       ret false
      else
      ret false
     else
     ret false
    else
    ret false
   else
   ret false
   else fail
   else fail
   else fail
  else
  bif (Jbk b key l) then
  bif (Ja5 b key l) then
  bif (Ja6 b key l) then
  bif (Jcb) then
   bif (Ja7 b key l) then
    bif (Ja8 b key l) then
     bif (Ja9 b key l) then
      bif (Jba b key l) then
       bif (decide ((Jah b key l).length ≤ big)) then
       bif (decide ((Jat b key l).length ≤ big)) then
       bif (Jbb b key l) then
       ret (Jbc b key l)
       else fail
       else fail
       else fail
      else
      ret false
     else
     ret false
    else
    ret false
   else
   ret false
  else
  ret false
  else fail
  else fail
  else fail
  else fail
  else fail
 else
 bif (Jd3 b key l) then
 bif (Jd4 b key l) then
 bif (!(Jin (Jah b key l) (Jck b key l))) then
  ret false
 else
 bif ((Jgg (Jyh b.1) (Jay (((Jav (Jan (List.take ((Jb3 (l.length : Int) 1)).toNat l) key) key (List.getD l ((Jb3 (l.length : Int) 1)).toNat ([] : List ZR))).length : Nat) : Int) 1)) == (((Jav (Jan (List.take ((Jb3 (l.length : Int) 1)).toNat l) key) key (List.getD l ((Jb3 (l.length : Int) 1)).toNat ([] : List ZR))).length : Nat) : Int)) then
  bif (!(Jdc (.pair (.int .i64) (.pair (.int .i64) (.pair (.int .i64) .unit))) (Jax b key l) (Jdl (Jan (List.take ((Jb3 (l.length : Int) 1)).toNat l) key) key (List.getD l ((Jb3 (l.length : Int) 1)).toNat ([] : List ZR))))) then
   ret false
  else
  bif (Jc8 b key l) then
   ret false
  else
  bif ((Jgg (Jyh b.1) (Jay (((Jav (Jan (List.take ((Jb3 (l.length : Int) 1)).toNat l) key) key (List.getD l ((Jb3 (l.length : Int) 1)).toNat ([] : List ZR))).length : Nat) : Int) 1)) == 0) then
   bif (!(Jdc (.pair (.int .i64) (.pair (.int .i64) (.pair (.int .i64) .unit))) (Jax b key l) (Jan (List.take ((Jb3 (l.length : Int) 1)).toNat l) key))) then
    ret false
   else
   bif (Jbk b key l) then
   bif (Ja5 b key l) then
   bif (Ja6 b key l) then
   bif (Jcb) then
    bif (Ja7 b key l) then
     bif (Ja8 b key l) then
      bif (Ja9 b key l) then
       bif (Jba b key l) then
        bif (decide ((Jah b key l).length ≤ big)) then
        bif (decide ((Jat b key l).length ≤ big)) then
        bif (Jbb b key l) then
        ret (Jbc b key l)
        else fail
        else fail
        else fail
       else
       ret false
      else
      ret false
     else
     ret false
    else
    ret false
   else
   ret false
   else fail
   else fail
   else fail
  else
  bif (Jbk b key l) then
  bif (Ja5 b key l) then
  bif (Ja6 b key l) then
  bif (Jcb) then
   bif (Ja7 b key l) then
    bif (Ja8 b key l) then
     bif (Ja9 b key l) then
      bif (Jba b key l) then
       bif (decide ((Jah b key l).length ≤ big)) then
       bif (decide ((Jat b key l).length ≤ big)) then
       bif (Jbb b key l) then
       ret (Jbc b key l)
       else fail
       else fail
       else fail
      else
      ret false
     else
     ret false
    else
    ret false
   else
   ret false
  else
  ret false
  else fail
  else fail
  else fail
 else
 bif ((Jgg (Jyh b.1) (Jay (((Jav (Jan (List.take ((Jb3 (l.length : Int) 1)).toNat l) key) key (List.getD l ((Jb3 (l.length : Int) 1)).toNat ([] : List ZR))).length : Nat) : Int) 1)) == 0) then
  bif (!(Jdc (.pair (.int .i64) (.pair (.int .i64) (.pair (.int .i64) .unit))) (Jax b key l) (Jan (List.take ((Jb3 (l.length : Int) 1)).toNat l) key))) then
   ret false
  else
  bif (Jbk b key l) then
  bif (Ja5 b key l) then
  bif (Ja6 b key l) then
  bif (Jcb) then
   bif (Ja7 b key l) then
    bif (Ja8 b key l) then
     bif (Ja9 b key l) then
      bif (Jba b key l) then
       bif (decide ((Jah b key l).length ≤ big)) then
       bif (decide ((Jat b key l).length ≤ big)) then
       bif (Jbb b key l) then
       ret (Jbc b key l)
       else fail
       else fail
       else fail
      else
      ret false
     else
     ret false
    else
    ret false
   else
   ret false
  else
  ret false
  else fail
  else fail
  else fail
 else
 bif (Jbk b key l) then
 bif (Ja5 b key l) then
 bif (Ja6 b key l) then
 bif (Jcb) then
  bif (Ja7 b key l) then
   bif (Ja8 b key l) then
    bif (Ja9 b key l) then
     bif (Jba b key l) then
      bif (decide ((Jah b key l).length ≤ big)) then
      bif (decide ((Jat b key l).length ≤ big)) then
      bif (Jbb b key l) then
      ret (Jbc b key l)
      else fail
      else fail
      else fail
     else
     ret false
    else
    ret false
   else
   ret false
  else
  ret false
 else
 ret false
 else fail
 else fail
 else fail
 else fail
 else fail
 else fail
 else fail
 else fail
 else fail
 else fail
 else fail
 else fail
 else fail
end Go.AI
