/- Texts of the proof, joined: TransM6 TransM2 TransM8 TransL9 TransW9. Names of our own are shortened by program; the long ones stand in wip/. -/
import Derived.Test.YtcdajbmgoafnkaaGreatQwM1
import Derived.Test.YtcdajbmgoafnkaaGreatQwTransP5
import Derived.KernelRfl
import Derived.Test.YtcdajbmgoafnkaaGreatQwTransP7
import Derived.Test.YtcdajbmgoafnkaaGreatQwTransP9
import Derived.Test.YtcdajbmgoafnkaaGreatQwA5
set_option maxRecDepth 100000
namespace Go.AI
open Go
open Go.Proofs.Tryz (prog)
set_option linter.unusedVariables false
@[reducible] def Jo3  : List PM := [.d (.pair (.slc (.arr 16 (.int .u8))) (.pair (.slc (.pair (.int .i64) (.pair (.arr 16 (.int .u8)) .unit))) .unit)), .d (.slc (.int .u8))]
def J9s  : Orc := Orc.of Jo3 false 0 fun x => (Jl8 x.1 x.2.1, [.d (.pair (.int .i64) (.pair (.int .i64) (.pair (.int .i64) .unit))) (Joj x.1 x.2.1), .d (.slc (.slc (.pair (.int .i64) (.pair (.slc (.int .u8)) .unit)))) (Je6 x.1 x.2.1), .d (.int .i64) (Jty x.1 x.2.1)])
@[reducible] def Jc1  : Tpl := { cur := ⟨[(0, .hnd .yield 0), (1, .ptr 6 []), (4, .var (.slc (.slc (.int .u8)))), (0, .var (.int .i64)), (0, .var (.int .i64))], 21⟩, stk := [⟨[(0, .hnd .yield 0)], 0⟩, ⟨[(1, .var (.slc (.int .u8))), (2, .ptr 1 []), (0, .ptr 2 []), (0, .ptr 3 []), (0, .ptr 7 []), (2, .ptr 4 [])], 39⟩, ⟨[], 0⟩], heap := [.lp 14 8 ⟨[(4, .ptr 1 []), (0, .ptr 2 []), (0, .ptr 3 []), (3, .ptr 4 [])], 39⟩ .ready, .box (.var (.pair (.int .i64) (.pair (.int .i64) (.pair (.int .i64) .unit)))), .box (.nils), .box (.var (.int .i64)), .box (.row 5), .row 25 (.slc (.pair (.int .i64) (.pair (.slc (.int .u8)) .unit))) false, .box (.var (.slc (.int .u8))), .box (.var (.pair (.int .i64) (.pair (.int .i64) (.pair (.int .i64) .unit))))] }
@[reducible] def Jqs  : Tpl := { cur := ⟨[(0, .hnd .yield 0), (1, .ptr 6 []), (4, .var (.slc (.slc (.int .u8)))), (0, .var (.int .i64)), (0, .var (.int .i64))], 21⟩, stk := [⟨[(0, .hnd .yield 0)], 0⟩, ⟨[(1, .var (.slc (.int .u8))), (2, .ptr 1 []), (0, .ptr 2 []), (0, .ptr 3 []), (0, .ptr 7 []), (2, .ptr 4 [])], 39⟩, ⟨[], 0⟩], heap := [.lp 14 8 ⟨[(4, .ptr 1 []), (0, .ptr 2 []), (0, .ptr 3 []), (3, .ptr 4 [])], 39⟩ (.done .ret), .box (.var (.pair (.int .i64) (.pair (.int .i64) (.pair (.int .i64) .unit)))), .box (.nils), .box (.var (.int .i64)), .box (.row 5), .row 25 (.slc (.pair (.int .i64) (.pair (.slc (.int .u8)) .unit))) false, .box (.var (.slc (.int .u8))), .box (.var (.pair (.int .i64) (.pair (.int .i64) (.pair (.int .i64) .unit))))] }
def Kpy  : List (FuncId × Orc) := [(19, J9l), (33, J9o), (70, Kol)]
def Jz9  : Book := { Γ := gam, orc := Jbk Kpy, hint := Ja0 [(14, { keep := some [], keeps := [], own := [], dat := [], stk := [], rgb := [(5007, [(10, 0, 41)])] }), (69, { keep := some [0, 2, 7, 8, 9], keeps := [(1, [0, 2, 7, 8, 9])], own := [], dat := [], stk := [[0], [1, 4, 5, 6, 7, 10, 11, 12, 13, 31, 32, 34, 41]] })] }
def Kpz (F : Nat) (nx : Jc1.T → ZO) (kq : ZK) (x : Jc1.T) : ZO := Juk F none (fun s7 s8 s9 key s4 s6 out s2 l => nx (((), ((), (s7, (s8, (s9, ()))))), ((((), ()), ((key, ((), ((), ((), ((), ((), ())))))), ((), ()))), (((), ((), ((), ((), ())))), (s4, ((), (s6, ((), (out, (s2, (l, ()))))))))))) (fun y0 y1 y2 y3 y4 y5 y6 y7 y8 => kq .ret (Jqs.inst (((), ((), (y0, (y1, (y2, ()))))), ((((), ()), ((y3, ((), ((), ((), ((), ((), ())))))), ((), ()))), (((), ((), ((), ((), ())))), (y4, ((), (y5, ((), (y6, (y7, (y8, ())))))))))))) (fun y0 y1 y2 y3 y4 y5 y6 y7 y8 => kq (.exit 0) (Jc1.inst (((), ((), (y0, (y1, (y2, ()))))), ((((), ()), ((y3, ((), ((), ((), ((), ((), ())))))), ((), ()))), (((), ((), ((), ((), ())))), (y4, ((), (y5, ((), (y6, (y7, (y8, ())))))))))))) x.1.2.2.1 x.1.2.2.2.1 x.1.2.2.2.2.1 x.2.1.2.1.1 x.2.2.2.1 x.2.2.2.2.2.1 x.2.2.2.2.2.2.2.1 x.2.2.2.2.2.2.2.2.1 x.2.2.2.2.2.2.2.2.2.1
def Kp0 (F m : Nat) (x : Jc1.T) (kq : ZK) : ZO := Jgy F none (fun y0 y1 y2 y3 y4 y5 y6 y7 y8 => kq .ret (Jqs.inst (((), ((), (y0, (y1, (y2, ()))))), ((((), ()), ((y3, ((), ((), ((), ((), ((), ())))))), ((), ()))), (((), ((), ((), ((), ())))), (y4, ((), (y5, ((), (y6, (y7, (y8, ())))))))))))) (fun y0 y1 y2 y3 y4 y5 y6 y7 y8 => kq (.exit 0) (Jc1.inst (((), ((), (y0, (y1, (y2, ()))))), ((((), ()), ((y3, ((), ((), ((), ((), ((), ())))))), ((), ()))), (((), ((), ((), ((), ())))), (y4, ((), (y5, ((), (y6, (y7, (y8, ())))))))))))) m x.1.2.2.1 x.1.2.2.2.1 x.1.2.2.2.2.1 x.2.1.2.1.1 x.2.2.2.1 x.2.2.2.2.2.1 x.2.2.2.2.2.2.2.1 x.2.2.2.2.2.2.2.2.1 x.2.2.2.2.2.2.2.2.2.1
def J19 (F : Nat) : List (LoE Unit) := [⟨69, 1, LO.of Jc1 (Kp0 F F)⟩]
def Js8 (F : Nat) : Jb3 Unit := { toBook := Jz9, lo := Jct (J19 F), need := Ja1 [(69, 1)] }
def Kp1 (Jea : (ZD) → Bool) (Jdc : (ZD) → (ZL)) (Jc2 : (ZD) → (List ZB)) (Jc4 : (ZD) → Int) (Jcb : ZB → Bool) (Jbr : ZB → (List ZR)) (Jbq : ZB → Int) (Jed : ZB → Int → ZB → Bool) (Jca : ZB → Int → ZB → ZB) (Jcv : ZB → Int → ZB → Int) {X : Type} (F : Nat) (fail : X) (next ex0 ex1 : List ZB → Int → Int → ZB → ZL → Int → List (List ZR) → ZB → ZL → X) (s7 : List ZB) (s8 s9 : Int) (key : ZB) (s4 : ZL) (s6 : Int) (out : List (List ZR)) (s2 : ZB) (l : ZL) : X :=
 bif (decide (s9 < s8)) then
  bif ((decide ((0 : Int) ≤ s9)) && (decide (s9 < ((s7.length : Nat) : Int)))) then
  bif (decide (((s2.length : Nat) : Int) > (0 : Int))) then
   bif (Jed s2 (Jag s9 (1 : Int)) (List.getD s7 (s9).toNat ([] : ZB))) then
   bif ((Jcv s2 (Jag s9 (1 : Int)) (List.getD s7 (s9).toNat ([] : ZB))) == (0 : Int)) then
    bif (Jcb (Jca s2 (Jag s9 (1 : Int)) (List.getD s7 (s9).toNat ([] : ZB)))) then
    bif ((Jbq (Jca s2 (Jag s9 (1 : Int)) (List.getD s7 (s9).toNat ([] : ZB)))) != (0 : Int)) then
     ex0 s7 s8 s9 key ((0 : Int), ((0 : Int), ((0 : Int), ()))) (Jbq (Jca s2 (Jag s9 (1 : Int)) (List.getD s7 (s9).toNat ([] : ZB)))) out s2 l
    else
    bif (decide ((out ++ ([(Jbr (Jca s2 (Jag s9 (1 : Int)) (List.getD s7 (s9).toNat ([] : ZB))))] : List (List ZR))).length ≤ big)) then
    next s7 s8 (Jag s9 (1 : Int)) key s4 s6 (out ++ ([(Jbr (Jca s2 (Jag s9 (1 : Int)) (List.getD s7 (s9).toNat ([] : ZB))))] : List (List ZR))) s2 l
    else fail
    else fail
   else
   bif ((Jcv s2 (Jag s9 (1 : Int)) (List.getD s7 (s9).toNat ([] : ZB))) != (0 : Int)) then
    ex0 s7 s8 s9 key ((0 : Int), ((0 : Int), ((0 : Int), ()))) (Jcv s2 (Jag s9 (1 : Int)) (List.getD s7 (s9).toNat ([] : ZB))) out s2 l
   else
   bif (decide ((out ++ ([([] : List ZR)] : List (List ZR))).length ≤ big)) then
   next s7 s8 (Jag s9 (1 : Int)) key s4 s6 (out ++ ([([] : List ZR)] : List (List ZR))) s2 l
   else fail
   else fail
  else
  bif (Jcb (List.getD s7 (s9).toNat ([] : ZB))) then
  bif ((Jbq (List.getD s7 (s9).toNat ([] : ZB))) != (0 : Int)) then
   ex0 s7 s8 s9 key ((0 : Int), ((0 : Int), ((0 : Int), ()))) (Jbq (List.getD s7 (s9).toNat ([] : ZB))) out s2 l
  else
  bif (decide ((out ++ ([(Jbr (List.getD s7 (s9).toNat ([] : ZB)))] : List (List ZR))).length ≤ big)) then
  next s7 s8 (Jag s9 (1 : Int)) key s4 s6 (out ++ ([(Jbr (List.getD s7 (s9).toNat ([] : ZB)))] : List (List ZR))) s2 l
  else fail
  else fail
  else fail
 else
 ex1 s7 s8 s9 key s4 s6 out s2 l
def K89 (Jea : (ZD) → Bool) (Jdc : (ZD) → (ZL)) (Jc2 : (ZD) → (List ZB)) (Jc4 : (ZD) → Int) (Jcb : ZB → Bool) (Jbr : ZB → (List ZR)) (Jbq : ZB → Int) (Jed : ZB → Int → ZB → Bool) (Jca : ZB → Int → ZB → ZB) (Jcv : ZB → Int → ZB → Int) {X : Type} (F : Nat) (d_ : ZD) (key : ZB) (fail : X) (ret : ZL → List (List ZR) → Int → X) : X :=
 bif (Jea d_) then
 bif ((Jc4 d_) != (0 : Int)) then
  ret ((0 : Int), ((0 : Int), ((0 : Int), ()))) ([] : List (List ZR)) (Jc4 d_)
 else
 bif (decide (((key.length : Nat) : Int) > (64 : Int))) then
  ret ((0 : Int), ((0 : Int), ((0 : Int), ()))) ([] : List (List ZR)) (1 : Int)
 else
 Jgy F fail
  (fun (s7 : List ZB) (s8 : Int) (s9 : Int) (Jn2 : ZB) (s4 : ZL) (s6 : Int) (out : List (List ZR)) (s2 : ZB) (l : ZL) =>
   ret s4 ([] : List (List ZR)) s6)
  (fun (s71 : List ZB) (s81 : Int) (s91 : Int) (key2 : ZB) (s41 : ZL) (s61 : Int) (out1 : List (List ZR)) (s21 : ZB) (l1 : ZL) =>
   ret l1 out1 (0 : Int))
  F (Jc2 d_) (((Jc2 d_).length : Nat) : Int) (0 : Int) key ((0 : Int), ((0 : Int), ((0 : Int), ()))) (0 : Int) ([] : List (List ZR)) key (Jdc d_)
 else fail
def Kbt (Jea : (ZD) → Bool) (Jdc : (ZD) → (ZL)) (Jc2 : (ZD) → (List ZB)) (Jc4 : (ZD) → Int) (Jcb : ZB → Bool) (Jbr : ZB → (List ZR)) (Jbq : ZB → Int) (Jed : ZB → Int → ZB → Bool) (Jca : ZB → Int → ZB → ZB) (Jcv : ZB → Int → ZB → Int) : List (FuncId × Orc) := [(19, Orc.of J5d false 0 fun x => (Jea x.1, [.d (.pair (.int .i64) (.pair (.int .i64) (.pair (.int .i64) .unit))) (Jdc x.1), .d (.slc (.slc (.int .u8))) (Jc2 x.1), .d (.int .i64) (Jc4 x.1)])), (33, Orc.of Jlr false 0 fun x => (Jcb x.1, [.d (.slc (.pair (.int .i64) (.pair (.slc (.int .u8)) .unit))) (Jbr x.1), .d (.int .i64) (Jbq x.1)])), (70, Orc.of J5c true 1 fun x => (Jed x.1 x.2.1 x.2.2.1, [.o 5 (.int .u8) (Jca x.1 x.2.1 x.2.2.1), .d (.int .i64) (Jcv x.1 x.2.1 x.2.2.1)]))]
def J9t (Jea : (ZD) → Bool) (Jdc : (ZD) → (ZL)) (Jc2 : (ZD) → (List ZB)) (Jc4 : (ZD) → Int) (Jcb : ZB → Bool) (Jbr : ZB → (List ZR)) (Jbq : ZB → Int) (Jed : ZB → Int → ZB → Bool) (Jca : ZB → Int → ZB → ZB) (Jcv : ZB → Int → ZB → Int) : Book := { Γ := gam, orc := Jbk (Kbt Jea Jdc Jc2 Jc4 Jcb Jbr Jbq Jed Jca Jcv), hint := Ja0 [(14, { keep := some [], keeps := [], own := [], dat := [], stk := [], rgb := [(5007, [(10, 0, 41)])] }), (69, { keep := some [0, 2, 7, 8, 9], keeps := [(1, [0, 2, 7, 8, 9])], own := [], dat := [], stk := [[0], [1, 4, 5, 6, 7, 10, 11, 12, 13, 31, 32, 34, 41]] })] }
def Jvx (Jea : (ZD) → Bool) (Jdc : (ZD) → (ZL)) (Jc2 : (ZD) → (List ZB)) (Jc4 : (ZD) → Int) (Jcb : ZB → Bool) (Jbr : ZB → (List ZR)) (Jbq : ZB → Int) (Jed : ZB → Int → ZB → Bool) (Jca : ZB → Int → ZB → ZB) (Jcv : ZB → Int → ZB → Int) (F : Nat) : Jb3 Unit := { toBook := J9t Jea Jdc Jc2 Jc4 Jcb Jbr Jbq Jed Jca Jcv, lo := Jct (J19 F), need := Ja1 [(69, 1)] }
def Kbu (Jea : (ZD) → Bool) (Jdc : (ZD) → (ZL)) (Jc2 : (ZD) → (List ZB)) (Jc4 : (ZD) → Int) (Jcb : ZB → Bool) (Jbr : ZB → (List ZR)) (Jbq : ZB → Int) (Jed : ZB → Int → ZB → Bool) (Jca : ZB → Int → ZB → ZB) (Jcv : ZB → Int → ZB → Int) (F : Nat) (nx : Jc1.T → ZO) (kq : ZK) (x : Jc1.T) : ZO := Kp1 Jea Jdc Jc2 Jc4 Jcb Jbr Jbq Jed Jca Jcv F none (fun s7 s8 s9 key s4 s6 out s2 l => nx (((), ((), (s7, (s8, (s9, ()))))), ((((), ()), ((key, ((), ((), ((), ((), ((), ())))))), ((), ()))), (((), ((), ((), ((), ())))), (s4, ((), (s6, ((), (out, (s2, (l, ()))))))))))) (fun y0 y1 y2 y3 y4 y5 y6 y7 y8 => kq .ret (Jqs.inst (((), ((), (y0, (y1, (y2, ()))))), ((((), ()), ((y3, ((), ((), ((), ((), ((), ())))))), ((), ()))), (((), ((), ((), ((), ())))), (y4, ((), (y5, ((), (y6, (y7, (y8, ())))))))))))) (fun y0 y1 y2 y3 y4 y5 y6 y7 y8 => kq (.exit 0) (Jc1.inst (((), ((), (y0, (y1, (y2, ()))))), ((((), ()), ((y3, ((), ((), ((), ((), ((), ())))))), ((), ()))), (((), ((), ((), ((), ())))), (y4, ((), (y5, ((), (y6, (y7, (y8, ())))))))))))) x.1.2.2.1 x.1.2.2.2.1 x.1.2.2.2.2.1 x.2.1.2.1.1 x.2.2.2.1 x.2.2.2.2.2.1 x.2.2.2.2.2.2.2.1 x.2.2.2.2.2.2.2.2.1 x.2.2.2.2.2.2.2.2.2.1
theorem J2a (Jea : (ZD) → Bool) (Jdc : (ZD) → (ZL)) (Jc2 : (ZD) → (List ZB)) (Jc4 : (ZD) → Int) (Jcb : ZB → Bool) (Jbr : ZB → (List ZR)) (Jbq : ZB → Int) (Jed : ZB → Int → ZB → Bool) (Jca : ZB → Int → ZB → ZB) (Jcv : ZB → Int → ZB → Int) (F : Nat) : Jbw prog (Jvx Jea Jdc Jc2 Jc4 Jcb Jbr Jbq Jed Jca Jcv F) F 69 0 1 Jc1 (Kbu Jea Jdc Jc2 Jc4 Jcb Jbr Jbq Jed Jca Jcv F) := fun d x KQ => by kernel_rfl
theorem Ki6 (Jea : (ZD) → Bool) (Jdc : (ZD) → (ZL)) (Jc2 : (ZD) → (List ZB)) (Jc4 : (ZD) → Int) (Jcb : ZB → Bool) (Jbr : ZB → (List ZR)) (Jbq : ZB → Int) (Jed : ZB → Int → ZB → Bool) (Jca : ZB → Int → ZB → ZB) (Jcv : ZB → Int → ZB → Int) (F : Nat) (x : Ja4 Jo3) (kend : List BV → ZO) : Jan prog (Jvx Jea Jdc Jc2 Jc4 Jcb Jbr Jbq Jed Jca Jcv F) F 20 14 (Jaf Jo3 x) [.d (.pair (.int .i64) (.pair (.int .i64) (.pair (.int .i64) .unit))), .d (.slc (.slc (.pair (.int .i64) (.pair (.slc (.int .u8)) .unit)))), .d (.int .i64)] kend = K89 Jea Jdc Jc2 Jc4 Jcb Jbr Jbq Jed Jca Jcv F x.1 x.2.1 none (fun y0 y1 y2 => kend [BV.d (.pair (.int .i64) (.pair (.int .i64) (.pair (.int .i64) .unit))) y0, BV.d (.slc (.slc (.pair (.int .i64) (.pair (.slc (.int .u8)) .unit)))) y1, BV.d (.int .i64) y2]) := by kernel_rfl
theorem J9u (F : Nat) : Jbw prog (Js8 F) F 69 0 1 Jc1 (Kpz F) := J2a Ji1 Jpr Jfc Jkv Jjv Jei Jej J0u Jh9 Jkn F
theorem Kp2 (F : Nat) : Jip prog (Js8 F) F := Ja6 (l := J19 F) rfl (fa (Jal 0 (by kernel_rfl) (by kernel_rfl) (Jah (J9u F) (fun _ _ => rfl) (fun _ _ _ _ => rfl))) fz)
theorem Kvx (F : Nat) (x : Ja4 Jo3) (kend : List BV → ZO) : Jan prog (Js8 F) F 20 14 (Jaf Jo3 x) [.d (.pair (.int .i64) (.pair (.int .i64) (.pair (.int .i64) .unit))), .d (.slc (.slc (.pair (.int .i64) (.pair (.slc (.int .u8)) .unit)))), .d (.int .i64)] kend = Kr1 F x.1 x.2.1 none (fun y0 y1 y2 => kend [BV.d (.pair (.int .i64) (.pair (.int .i64) (.pair (.int .i64) .unit))) y0, BV.d (.slc (.slc (.pair (.int .i64) (.pair (.slc (.int .u8)) .unit)))) y1, BV.d (.int .i64) y2]) := Ki6 Ji1 Jpr Jfc Jkv Jjv Jei Jej J0u Jh9 Jkn F x kend
theorem J36  : Jae prog 14 J9s := Jau (B0 := Jz9) bkN bkG Jaq bkT Kvx (Jad (fa Jvu (fa J35 (fa Kbe fz)))) (by kernel_rfl) (fun _ => rfl) Kp2 (fun x h => (Khr x.1 x.2.1 h).elim fun F hF => ⟨F, fun kend => hF none _⟩)
end Go.AI
namespace Go.AI
open Go
open Go.Proofs.Tryz (prog)
set_option linter.unusedVariables false
@[reducible] def Kvy  : List PM := [.d (.slc (.pair (.int .i64) (.pair (.slc (.int .u8)) .unit)))]
def Kyp  : Orc := Orc.of Kvy true 0 fun x => (Kw3 x.1, [.d .bool (Kcv x.1)])
@[reducible] def Jim  : Tpl := { cur := ⟨[(0, .var (.slc (.pair (.int .i64) (.pair (.slc (.int .u8)) .unit)))), (1, .var .bool), (0, .var (.int .i64))], 20⟩, stk := [⟨[], 0⟩], heap := [] }
def K9a  : List (FuncId × Orc) := []
def Kei  : Book := { Γ := gam, orc := Jbk K9a, hint := Ja0 [(8, { keep := some [0, 2, 3], keeps := [(2, [0, 2, 3])], own := [], dat := [], stk := [] })] }
def K9b (F : Nat) (nx : Jim.T → ZO) (kq : ZK) (x : Jim.T) : ZO := Kgb F none (fun l s2 i => nx ((l, (s2, (i, ()))), (((), ()), ()))) (fun y0 y1 y2 => kq .ret (Jim.inst ((y0, (y1, (y2, ()))), (((), ()), ())))) (fun y0 y1 y2 => kq (.exit 0) (Jim.inst ((y0, (y1, (y2, ()))), (((), ()), ())))) x.1.1 x.1.2.1 x.1.2.2.1
def K9c (F m : Nat) (x : Jim.T) (kq : ZK) : ZO := Juj F none (fun y0 y1 y2 => kq .ret (Jim.inst ((y0, (y1, (y2, ()))), (((), ()), ())))) (fun y0 y1 y2 => kq (.exit 0) (Jim.inst ((y0, (y1, (y2, ()))), (((), ()), ())))) m x.1.1 x.1.2.1 x.1.2.2.1
def K9d (F : Nat) : List (LoE Unit) := [⟨8, 2, LO.of Jim (K9c F F)⟩]
def J9v (F : Nat) : Jb3 Unit := { toBook := Kei, lo := Jct (K9d F), need := Ja1 [] }
theorem Kp3 (F : Nat) : Jbw prog (J9v F) F 8 0 2 Jim (K9b F) := fun d x KQ => by kernel_rfl
theorem K9e (F : Nat) : Jip prog (J9v F) F := Ja6 (l := K9d F) rfl (fa (Jal 0 (by kernel_rfl) (by kernel_rfl) (Jah (Kp3 F) (fun _ _ => rfl) (fun _ _ _ _ => rfl))) fz)
theorem Qct (F : Nat) (x : Ja4 Kvy) (kend : List BV → ZO) : Jan prog (J9v F) F 20 8 (Jaf Kvy x) [.d .bool] kend = uFew F x.1 none (fun y0 => kend [BV.d .bool y0]) := by kernel_rfl
theorem Ki7  : Jae prog 8 Kyp := Jau (B0 := Kei) bkN bkG Jaq bkT Qct (Jad fz) (by kernel_rfl) (fun _ => rfl) K9e (fun x h => (K0n x.1 h).elim fun F hF => ⟨F, fun kend => hF none _⟩)
@[reducible] def Ki8  : List PM := [.d (.slc (.pair (.int .i64) (.pair (.slc (.int .u8)) .unit))), .d (.slc (.pair (.int .i64) (.pair (.slc (.int .u8)) .unit)))]
def Kp4  : Orc := Orc.of Ki8 true 0 fun x => (Kfq x.1 x.2.1, [.d .bool (J6s x.1 x.2.1)])
@[reducible] def Jge  : Tpl := { cur := ⟨[(0, .var (.slc (.pair (.int .i64) (.pair (.slc (.int .u8)) .unit)))), (0, .var (.slc (.pair (.int .i64) (.pair (.slc (.int .u8)) .unit)))), (2, .var .bool), (0, .var (.int .i64))], 37⟩, stk := [⟨[], 0⟩], heap := [] }
def K1w  : List (FuncId × Orc) := []
def J9w  : Book := { Γ := gam, orc := Jbk K1w, hint := Ja0 [(36, { keep := some [0, 1, 4, 5], keeps := [(4, [0, 1, 4, 5])], own := [], dat := [], stk := [] })] }
def K1x (F : Nat) (nx : Jge.T → ZO) (kq : ZK) (x : Jge.T) : ZO := J41 F none (fun a b s4 i => nx ((a, (b, (s4, (i, ())))), (((), ()), ()))) (fun y0 y1 y2 y3 => kq .ret (Jge.inst ((y0, (y1, (y2, (y3, ())))), (((), ()), ())))) (fun y0 y1 y2 y3 => kq (.exit 0) (Jge.inst ((y0, (y1, (y2, (y3, ())))), (((), ()), ())))) x.1.1 x.1.2.1 x.1.2.2.1 x.1.2.2.2.1
def K1y (F m : Nat) (x : Jge.T) (kq : ZK) : ZO := Jot F none (fun y0 y1 y2 y3 => kq .ret (Jge.inst ((y0, (y1, (y2, (y3, ())))), (((), ()), ())))) (fun y0 y1 y2 y3 => kq (.exit 0) (Jge.inst ((y0, (y1, (y2, (y3, ())))), (((), ()), ())))) m x.1.1 x.1.2.1 x.1.2.2.1 x.1.2.2.2.1
def Kyq (F : Nat) : List (LoE Unit) := [⟨36, 4, LO.of Jge (K1y F F)⟩]
def J2b (F : Nat) : Jb3 Unit := { toBook := J9w, lo := Jct (Kyq F), need := Ja1 [] }
theorem Ki9 (F : Nat) : Jbw prog (J2b F) F 36 0 4 Jge (K1x F) := fun d x KQ => by kernel_rfl
theorem K1z (F : Nat) : Jip prog (J2b F) F := Ja6 (l := Kyq F) rfl (fa (Jal 0 (by kernel_rfl) (by kernel_rfl) (Jah (Ki9 F) (fun _ _ => rfl) (fun _ _ _ _ => rfl))) fz)
theorem K9f (F : Nat) (x : Ja4 Ki8) (kend : List BV → ZO) : Jan prog (J2b F) F 20 36 (Jaf Ki8 x) [.d .bool] kend = Qfj F x.1 x.2.1 none (fun y0 => kend [BV.d .bool y0]) := by kernel_rfl
theorem Kbv  : Jae prog 36 Kp4 := Jau (B0 := J9w) bkN bkG Jaq bkT K9f (Jad fz) (by kernel_rfl) (fun _ => rfl) K1z (fun x h => (Ks0 x.1 x.2.1 h).elim fun F hF => ⟨F, fun kend => hF none _⟩)
@[reducible] def Jxa  : List PM := [.d (.slc (.slc (.pair (.int .i64) (.pair (.slc (.int .u8)) .unit)))), .d (.slc (.slc (.pair (.int .i64) (.pair (.slc (.int .u8)) .unit))))]
def J3e  : Orc := Orc.of Jxa true 0 fun x => (Jld x.1 x.2.1, [.d .bool (Jle x.1 x.2.1)])
@[reducible] def Jdh  : Tpl := { cur := ⟨[(0, .var (.slc (.slc (.pair (.int .i64) (.pair (.slc (.int .u8)) .unit))))), (0, .var (.slc (.slc (.pair (.int .i64) (.pair (.slc (.int .u8)) .unit))))), (2, .var .bool), (0, .var (.int .i64))], 21⟩, stk := [⟨[], 0⟩], heap := [] }
def Kja  : List (FuncId × Orc) := [(36, Kp4)]
def Jvy  : Book := { Γ := gam, orc := Jbk Kja, hint := Ja0 [(16, { keep := some [0, 1, 4, 5], keeps := [(4, [0, 1, 4, 5])], own := [], dat := [], stk := [] })] }
def Kjb (F : Nat) (nx : Jdh.T → ZO) (kq : ZK) (x : Jdh.T) : ZO := Jp8 F none (fun a b s4 i => nx ((a, (b, (s4, (i, ())))), (((), ()), ()))) (fun y0 y1 y2 y3 => kq .ret (Jdh.inst ((y0, (y1, (y2, (y3, ())))), (((), ()), ())))) (fun y0 y1 y2 y3 => kq (.exit 0) (Jdh.inst ((y0, (y1, (y2, (y3, ())))), (((), ()), ())))) x.1.1 x.1.2.1 x.1.2.2.1 x.1.2.2.2.1
def Kjc (F m : Nat) (x : Jdh.T) (kq : ZK) : ZO := Jhy F none (fun y0 y1 y2 y3 => kq .ret (Jdh.inst ((y0, (y1, (y2, (y3, ())))), (((), ()), ())))) (fun y0 y1 y2 y3 => kq (.exit 0) (Jdh.inst ((y0, (y1, (y2, (y3, ())))), (((), ()), ())))) m x.1.1 x.1.2.1 x.1.2.2.1 x.1.2.2.2.1
def J9x (F : Nat) : List (LoE Unit) := [⟨16, 4, LO.of Jdh (Kjc F F)⟩]
def Jqt (F : Nat) : Jb3 Unit := { toBook := Jvy, lo := Jct (J9x F), need := Ja1 [] }
theorem J37 (F : Nat) : Jbw prog (Jqt F) F 16 0 4 Jdh (Kjb F) := fun d x KQ => by kernel_rfl
theorem Kjd (F : Nat) : Jip prog (Jqt F) F := Ja6 (l := J9x F) rfl (fa (Jal 0 (by kernel_rfl) (by kernel_rfl) (Jah (J37 F) (fun _ _ => rfl) (fun _ _ _ _ => rfl))) fz)
theorem Kp5 (F : Nat) (x : Ja4 Jxa) (kend : List BV → ZO) : Jan prog (Jqt F) F 20 16 (Jaf Jxa x) [.d .bool] kend = Kgc F x.1 x.2.1 none (fun y0 => kend [BV.d .bool y0]) := by kernel_rfl
theorem J2c  : Jae prog 16 J3e := Jau (B0 := Jvy) bkN bkG Jaq bkT Kp5 (Jad (fa Kbv fz)) (by kernel_rfl) (fun _ => rfl) Kjd (fun x h => (Kam x.1 x.2.1 h).elim fun F hF => ⟨F, fun kend => hF none _⟩)
end Go.AI
namespace Go.AI
open Go
open Go.Proofs.Tryz (prog)
set_option linter.unusedVariables false
@[reducible] def Kvz  : List PM := [.d (.slc (.slc (.pair (.int .i64) (.pair (.slc (.int .u8)) .unit)))), .d (.slc (.int .u8))]
def Kyr  : Orc := Orc.of Kvz true 0 fun x => (K4g x.1 x.2.1, [.d .bool (Kw5 x.1 x.2.1)])
@[reducible] def Jm2  : Tpl := { cur := ⟨[(0, .var (.slc (.slc (.pair (.int .i64) (.pair (.slc (.int .u8)) .unit))))), (0, .var (.slc (.int .u8))), (2, .var .bool), (0, .var (.int .i64)), (0, .var (.int .i64)), (0, .var (.int .i64))], 57⟩, stk := [⟨[], 0⟩], heap := [] }
@[reducible] def Jin  : Tpl := { cur := ⟨[(0, .var (.slc (.slc (.pair (.int .i64) (.pair (.slc (.int .u8)) .unit))))), (0, .var (.slc (.int .u8))), (2, .var .bool), (0, .var (.int .i64)), (0, .var (.int .i64))], 58⟩, stk := [⟨[], 0⟩], heap := [] }
def K9g  : List (FuncId × Orc) := [(8, Kyp), (37, J13)]
def Kej  : Book := { Γ := gam, orc := Jbk K9g, hint := Ja0 [(17, { keep := some [0, 1, 4, 5, 6, 7], keeps := [(3, [0, 1, 4, 5, 6]), (8, [0, 1, 4, 5, 6, 7])], own := [], dat := [], stk := [] })] }
def K9h (F : Nat) (nx : Jm2.T → ZO) (kq : ZK) (x : Jm2.T) : ZO := Kgd F none (fun l key s4 n i k => nx ((l, (key, (s4, (n, (i, (k, ())))))), (((), ()), ()))) (fun y0 y1 y2 y3 y4 y5 => kq (.exit 2) (Jm2.inst ((y0, (y1, (y2, (y3, (y4, (y5, ())))))), (((), ()), ())))) x.1.1 x.1.2.1 x.1.2.2.1 x.1.2.2.2.1 x.1.2.2.2.2.1 x.1.2.2.2.2.2.1
def K9i (F m : Nat) (x : Jm2.T) (kq : ZK) : ZO := Jp9 F none (fun y0 y1 y2 y3 y4 y5 => kq (.exit 2) (Jm2.inst ((y0, (y1, (y2, (y3, (y4, (y5, ())))))), (((), ()), ())))) m x.1.1 x.1.2.1 x.1.2.2.1 x.1.2.2.2.1 x.1.2.2.2.2.1 x.1.2.2.2.2.2.1
def K9j (F : Nat) (nx : Jin.T → ZO) (kq : ZK) (x : Jin.T) : ZO := Kge F none (fun l key s4 n i => nx ((l, (key, (s4, (n, (i, ()))))), (((), ()), ()))) (fun y0 y1 y2 y3 y4 => kq .ret (Jin.inst ((y0, (y1, (y2, (y3, (y4, ()))))), (((), ()), ())))) (fun y0 y1 y2 y3 y4 => kq (.exit 0) (Jin.inst ((y0, (y1, (y2, (y3, (y4, ()))))), (((), ()), ())))) x.1.1 x.1.2.1 x.1.2.2.1 x.1.2.2.2.1 x.1.2.2.2.2.1
def K9k (F m : Nat) (x : Jin.T) (kq : ZK) : ZO := Jqa F none (fun y0 y1 y2 y3 y4 => kq .ret (Jin.inst ((y0, (y1, (y2, (y3, (y4, ()))))), (((), ()), ())))) (fun y0 y1 y2 y3 y4 => kq (.exit 0) (Jin.inst ((y0, (y1, (y2, (y3, (y4, ()))))), (((), ()), ())))) m x.1.1 x.1.2.1 x.1.2.2.1 x.1.2.2.2.1 x.1.2.2.2.2.1
def K9l (F : Nat) : List (LoE Unit) := [⟨17, 8, LO.of Jm2 (K9i F F)⟩,
 ⟨17, 3, LO.of Jin (K9k F F)⟩]
def J0a (F : Nat) : Jb3 Unit := { toBook := Kej, lo := Jct (K9l F), need := Ja1 [] }
theorem Kp6 (F : Nat) : Jbw prog (J0a F) F 17 1 8 Jm2 (K9h F) := fun d x KQ => by kernel_rfl
theorem Kp7 (F : Nat) : Jbw prog (J0a F) F 17 0 3 Jin (K9j F) := fun d x KQ => by kernel_rfl
theorem K9m (F : Nat) : Jip prog (J0a F) F := Ja6 (l := K9l F) rfl (fa (Jal 1 (by kernel_rfl) (by kernel_rfl) (Jah (Kp6 F) (fun _ _ => rfl) (fun _ _ _ _ => rfl))) (fa (Jal 0 (by kernel_rfl) (by kernel_rfl) (Jah (Kp7 F) (fun _ _ => rfl) (fun _ _ _ _ => rfl))) fz))
theorem Qcu (F : Nat) (x : Ja4 Kvz) (kend : List BV → ZO) : Jan prog (J0a F) F 20 17 (Jaf Kvz x) [.d .bool] kend = tfew F x.1 x.2.1 none (fun y0 => kend [BV.d .bool y0]) := by kernel_rfl
theorem Kje  : Jae prog 17 Kyr := Jau (B0 := Kej) bkN bkG Jaq bkT Qcu (Jad (fa Ki7 (fa Js2 fz))) (by kernel_rfl) (fun _ => rfl) K9m (fun x h => (K0s x.1 x.2.1 h).elim fun F hF => ⟨F, fun kend => hF none _⟩)
@[reducible] def J9y  : List PM := []
def Kek  : Orc := Orc.of J9y false 0 fun x => (J4v, [.d (.pair (.slc (.arr 16 (.int .u8))) (.pair (.slc (.pair (.int .i64) (.pair (.arr 16 (.int .u8)) .unit))) .unit)) (Jr5), .d (.pair (.int .i64) (.pair (.int .i64) (.pair (.int .i64) .unit))) (Jok), .d .bool (J6u)])
def J9z  : List (FuncId × Orc) := [(22, Kiu), (83, J9g), (84, Kyk)]
theorem K10 (F : Nat) (x : Ja4 J9y) (kend : List BV → ZO) : Jan prog (bkZ J9z) F 20 38 (Jaf J9y x) [.d (.pair (.slc (.arr 16 (.int .u8))) (.pair (.slc (.pair (.int .i64) (.pair (.arr 16 (.int .u8)) .unit))) .unit)), .d (.pair (.int .i64) (.pair (.int .i64) (.pair (.int .i64) .unit))), .d .bool] kend = K40 F  none (fun y0 y1 y2 => kend [BV.d (.pair (.slc (.arr 16 (.int .u8))) (.pair (.slc (.pair (.int .i64) (.pair (.arr 16 (.int .u8)) .unit))) .unit)) y0, BV.d (.pair (.int .i64) (.pair (.int .i64) (.pair (.int .i64) .unit))) y1, BV.d .bool y2]) := by kernel_rfl
theorem J90  : Jae prog 38 Kek := Jau (B0 := bkY J9z) bkN bkG Jaq bkT K10 (Jad (fa Jz0 (fa J33 (fa Kio fz)))) (by kernel_rfl) (fun _ => rfl) (bkO _) (fun x h => (Kmp  h).elim fun F hF => ⟨F, fun kend => hF none _⟩)
@[reducible] def Jqu  : List PM := [.d (.slc (.slc (.pair (.int .i64) (.pair (.slc (.int .u8)) .unit)))), .d (.slc (.int .u8))]
def Jvz  : Orc := Orc.of Jqu false 0 fun x => (Jr6 x.1 x.2.1, [.d (.pair (.slc (.arr 16 (.int .u8))) (.pair (.slc (.pair (.int .i64) (.pair (.arr 16 (.int .u8)) .unit))) .unit)) (Ja3 x.1 x.2.1), .d (.pair (.int .i64) (.pair (.int .i64) (.pair (.int .i64) .unit))) (Jkw x.1 x.2.1), .d .bool (Jpt x.1 x.2.1)])
@[reducible] def Jdn  : Tpl := { cur := ⟨[(0, .var (.slc (.slc (.pair (.int .i64) (.pair (.slc (.int .u8)) .unit))))), (0, .var (.slc (.int .u8))), (2, .ptr 0 []), (0, .ptr 1 []), (1, .ptr 2 []), (0, .ptr 3 []), (0, .var .bool), (0, .var (.int .i64))], 49⟩, stk := [⟨[], 0⟩], heap := [.box (.var (.pair (.slc (.arr 16 (.int .u8))) (.pair (.slc (.pair (.int .i64) (.pair (.arr 16 (.int .u8)) .unit))) .unit))), .box (.var (.pair (.int .i64) (.pair (.int .i64) (.pair (.int .i64) .unit)))), .box (.var (.pair (.slc (.arr 16 (.int .u8))) (.pair (.slc (.pair (.int .i64) (.pair (.arr 16 (.int .u8)) .unit))) .unit))), .box (.var (.pair (.int .i64) (.pair (.int .i64) (.pair (.int .i64) .unit))))] }
def J91  : List (FuncId × Orc) := [(10, Jw9), (22, Kiu), (38, Kek)]
def Jrd  : Book := { Γ := gam, orc := Jbk J91, hint := Ja0 [(18, { keep := some [0, 1, 4, 5, 7, 8, 9, 10], keeps := [(3, [0, 1, 4, 5, 7, 8, 9, 10])], own := [], dat := [], stk := [] })] }
def J92 (F : Nat) (nx : Jdn.T → ZO) (kq : ZK) (x : Jdn.T) : ZO := Jk6 F none (fun l key ok i s4 s5 d_ x_ => nx ((l, (key, ((), ((), ((), ((), (ok, (i, ())))))))), (((), ()), (s4, (s5, (d_, (x_, ()))))))) (fun y0 y1 y2 y3 y4 y5 y6 y7 => kq (.exit 0) (Jdn.inst ((y0, (y1, ((), ((), ((), ((), (y2, (y3, ())))))))), (((), ()), (y4, (y5, (y6, (y7, ())))))))) x.1.1 x.1.2.1 x.1.2.2.2.2.2.2.1 x.1.2.2.2.2.2.2.2.1 x.2.2.1 x.2.2.2.1 x.2.2.2.2.1 x.2.2.2.2.2.1
def J93 (F m : Nat) (x : Jdn.T) (kq : ZK) : ZO := Je8 F none (fun y0 y1 y2 y3 y4 y5 y6 y7 => kq (.exit 0) (Jdn.inst ((y0, (y1, ((), ((), ((), ((), (y2, (y3, ())))))))), (((), ()), (y4, (y5, (y6, (y7, ())))))))) m x.1.1 x.1.2.1 x.1.2.2.2.2.2.2.1 x.1.2.2.2.2.2.2.2.1 x.2.2.1 x.2.2.2.1 x.2.2.2.2.1 x.2.2.2.2.2.1
def J0b (F : Nat) : List (LoE Unit) := [⟨18, 3, LO.of Jdn (J93 F F)⟩]
def Jm3 (F : Nat) : Jb3 Unit := { toBook := Jrd, lo := Jct (J0b F), need := Ja1 [] }
theorem J0c (F : Nat) : Jbw prog (Jm3 F) F 18 0 3 Jdn (J92 F) := fun d x KQ => by kernel_rfl
theorem J94 (F : Nat) : Jip prog (Jm3 F) F := Ja6 (l := J0b F) rfl (fa (Jal 0 (by kernel_rfl) (by kernel_rfl) (Jah (J0c F) (fun _ _ => rfl) (fun _ _ _ _ => rfl))) fz)
theorem Kbw (F : Nat) (x : Ja4 Jqu) (kend : List BV → ZO) : Jan prog (Jm3 F) F 20 18 (Jaf Jqu x) [.d (.pair (.slc (.arr 16 (.int .u8))) (.pair (.slc (.pair (.int .i64) (.pair (.arr 16 (.int .u8)) .unit))) .unit)), .d (.pair (.int .i64) (.pair (.int .i64) (.pair (.int .i64) .unit))), .d .bool] kend = J03 F x.1 x.2.1 none (fun y0 y1 y2 => kend [BV.d (.pair (.slc (.arr 16 (.int .u8))) (.pair (.slc (.pair (.int .i64) (.pair (.arr 16 (.int .u8)) .unit))) .unit)) y0, BV.d (.pair (.int .i64) (.pair (.int .i64) (.pair (.int .i64) .unit))) y1, BV.d .bool y2]) := by kernel_rfl
theorem Jxb  : Jae prog 18 Jvz := Jau (B0 := Jrd) bkN bkG Jaq bkT Kbw (Jad (fa Jrb (fa Jz0 (fa J90 fz)))) (by kernel_rfl) (fun _ => rfl) J94 (fun x h => (J3s x.1 x.2.1 h).elim fun F hF => ⟨F, fun kend => hF none _⟩)
end Go.AI
namespace Go.AI
open Go
open Go.Proofs.Tryz (prog)
set_option linter.unusedVariables false
@[reducible] def Jf5  : List PM := [.d (.slc (.slc (.pair (.int .i64) (.pair (.slc (.int .u8)) .unit)))), .d (.slc (.int .u8)), .d (.slc (.int .u8))]
def Jrh  : Orc := Orc.of Jf5 true 0 fun x => (TransactionRefuses_P x.1 x.2.1 x.2.2.1, [.d .bool (TransactionRefuses_r x.1 x.2.1 x.2.2.1)])
def Jio  : List (FuncId × Orc) := [(9, Js7), (14, J9s), (16, J3e), (17, Kyr), (18, Jvz), (19, J9l), (20, Kot)]
theorem Jri (F : Nat) (x : Ja4 Jf5) (kend : List BV → ZO) : Jan prog (bkZ Jio) F 20 6 (Jaf Jf5 x) [.d .bool] kend = TransactionRefuses F x.1 x.2.1 x.2.2.1 none (fun y0 => kend [BV.d .bool y0]) := by kernel_rfl
theorem TransactionRefuses_contract  : Jae prog 6 Jrh := Jau (B0 := bkY Jio) bkN bkG Jaq bkT Jri (Jad (fa Ju8 (fa J36 (fa J2c (fa Kje (fa Jxb (fa Jvu (fa Kbg fz)))))))) (by kernel_rfl) (fun _ => rfl) (bkO _) (fun x h => (Jov x.1 x.2.1 x.2.2.1 h).elim fun F hF => ⟨F, fun kend => hF none _⟩)
end Go.AI
namespace Go.AI
open Go
abbrev raS : Sch := .slc (.slc (.pair (.int .i64) (.pair (.slc (.int .u8)) .unit)))
theorem TransactionRefuses_wf (x : LawT [raS, .slc (.int .u8), .slc (.int .u8)]) (_ : WfArgs [raS, .slc (.int .u8), .slc (.int .u8)] x) : TransactionRefuses_P x.1 x.2.1 x.2.2.1 = true := rfl
end Go.AI
