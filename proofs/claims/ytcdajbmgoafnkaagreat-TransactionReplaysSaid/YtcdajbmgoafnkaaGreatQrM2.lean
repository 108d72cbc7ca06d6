/- Texts of the proof, joined: TransM TransM4 TransM6 TransM3 TransM7 TransM2 TransL6 TransW6. Names of our own are shortened by program; the long ones stand in wip/. -/
import Derived.Test.YtcdajbmgoafnkaaGreatQrM1
import Derived.Test.YtcdajbmgoafnkaaGreatQrTransP
import Derived.KernelRfl
import Derived.Test.YtcdajbmgoafnkaaGreatQrTransP2
import Derived.Test.YtcdajbmgoafnkaaGreatQrTransP5
import Derived.Test.YtcdajbmgoafnkaaGreatQrTransP6
import Derived.Test.YtcdajbmgoafnkaaGreatQrA5
set_option maxRecDepth 100000
namespace Go.AI
open Go
open Go.Proofs.Tryz (prog)
set_option linter.unusedVariables false
@[reducible] def J3m  : List PM := [.d (.slc (.pair (.int .i64) (.pair (.slc (.int .u8)) .unit)))]
def Kkh  : Orc := Orc.of J3m true 0 fun x => (Jwo x.1, [.d (.int .i64) (Jo4 x.1)])
@[reducible] def Jga  : Tpl := { cur := ⟨[(2, .var (.int .i64)), (5, .var (.slc (.pair (.int .i64) (.pair (.slc (.int .u8)) .unit)))), (0, .var (.int .i64)), (0, .var (.int .i64))], 14⟩, stk := [⟨[], 0⟩], heap := [] }
def K2s  : List (FuncId × Orc) := []
def J64  : Book := { Γ := gam, orc := Jbc K2s, hint := Jav [(37, { keep := some [2, 8, 9, 10], keeps := [(4, [2, 8, 9, 10])], own := [], dat := [], stk := [] })] }
def K2t (F : Nat) (nx : Jga.T → ZO) (kq : ZK) (x : Jga.T) : ZO := J2c F none (fun s2 s8 s9 s10 => nx ((s2, (s8, (s9, (s10, ())))), (((), ()), ()))) (fun y0 y1 y2 y3 => kq .ret (Jga.inst ((y0, (y1, (y2, (y3, ())))), (((), ()), ())))) (fun y0 y1 y2 y3 => kq (.exit 0) (Jga.inst ((y0, (y1, (y2, (y3, ())))), (((), ()), ())))) x.1.1 x.1.2.1 x.1.2.2.1 x.1.2.2.2.1
def K2u (F m : Nat) (x : Jga.T) (kq : ZK) : ZO := Jm2 F none (fun y0 y1 y2 y3 => kq .ret (Jga.inst ((y0, (y1, (y2, (y3, ())))), (((), ()), ())))) (fun y0 y1 y2 y3 => kq (.exit 0) (Jga.inst ((y0, (y1, (y2, (y3, ())))), (((), ()), ())))) m x.1.1 x.1.2.1 x.1.2.2.1 x.1.2.2.2.1
def Kv4 (F : Nat) : List (LoE Unit) := [⟨37, 4, LO.of Jga (K2u F F)⟩]
def J0e (F : Nat) : Jbu Unit := { toBook := J64, lo := Jcf (Kv4 F), need := Jaw [(37, 1)] }
theorem Kg7 (F : Nat) : Jbn prog (J0e F) F 37 0 4 Jga (K2t F) := fun d x KQ => by kernel_rfl
theorem K2v (F : Nat) : Jhk prog (J0e F) F := Ja0 (l := Kv4 F) rfl (fa (Jal 0 (by kernel_rfl) (by kernel_rfl) (Jah (Kg7 F) (fun _ _ => rfl) (fun _ _ _ _ => rfl))) fz)
theorem K9f (F : Nat) (x : Jaz J3m) (kend : List BV → ZO) : Jam prog (J0e F) F 20 37 (Jae J3m x) [.d (.int .i64)] kend = Qcf F x.1 none (fun y0 => kend [BV.d (.int .i64) y0]) := by kernel_rfl
theorem Kej  : Jad prog 37 Kkh := Jap (B0 := J64) bkN bkG Jao bkT K9f (Jac fz) (by kernel_rfl) (fun _ => rfl) K2v (fun x h => (Ksp x.1 h).elim fun F hF => ⟨F, fun kend => hF none _⟩)
def Kv5  : List (FuncId × Orc) := [(51, Ju2)]
def J3n  : Book := { Γ := gam, orc := Jbc Kv5, hint := Jav [] }
def Kki (F : Nat) : List (LoE Unit) := []
def Jvs (F : Nat) : Jbu Unit := { toBook := J3n, lo := Jcf (Kki F), need := Jaw [] }
theorem Kv6 (F : Nat) : Jhk prog (Jvs F) F := Ja0 (l := Kki F) rfl fz
theorem K2w (F : Nat) (b : ZB) (x_ : Int) (kend : List BV → ZO) : Jam prog (Jvs F) F 20 50 [.d (.slc (.int .u8)) b, .f 51, .d (.int .i64) x_] [.o 5 (.int .u8)] kend = Kys F b x_ none (fun y0 => kend [BV.o 5 (.int .u8) y0]) := by kernel_rfl
theorem Jtl  : Jad prog 50 (Orc.of [.d (.slc (.int .u8)), .f, .d (.int .i64)] true 1 fun x => ((Nat.beq x.2.1 51) && Jr1 x.1 x.2.1 x.2.2.1, [.o 5 (.int .u8) (Jlt x.1 x.2.1 x.2.2.1)])) := Jem (B0 := J3n) bkN bkG Jao bkT (Jac (fa Jx3 fz)) (by kernel_rfl) (fun x h => by
 obtain ⟨x0, x1, x2, _⟩ := x
 simp only [Bool.and_eq_true] at h
 obtain ⟨e, h⟩ := h
 have e := Nat.eq_of_beq_eq_true e
 subst e
 obtain ⟨F, hF⟩ := Kng x0 x2 h
 exact ⟨F, 20, Jvs F, rfl, Kv6 F, fun kend => (K2w F x0 x2 kend).trans (hF none (fun y0 => kend [BV.o 5 (.int .u8) y0]))⟩)
def Kv7  : Orc := Orc.of [.d (.slc (.int .u8)), .f, .d (.int .i64)] true 1 fun x => ((Nat.beq x.2.1 51) && Jr1 x.1 x.2.1 x.2.2.1, [.o 5 (.int .u8) (Jlt x.1 x.2.1 x.2.2.1)])
theorem Kg8  : Jad prog 50 Kv7 := Jkt Jtl.1 (fun x h => by
 obtain ⟨x0, x1, x2, _⟩ := x
 simp only [Bool.and_eq_true] at h
 obtain ⟨e, _⟩ := h
 rcases e with e
 ·have e := Nat.eq_of_beq_eq_true e
  subst e
  exact ⟨_, Jtl, rfl⟩)
def Kv8  : List (FuncId × Orc) := [(53, Jq3)]
def J3o  : Book := { Γ := gam, orc := Jbc Kv8, hint := Jav [] }
def Kkj (F : Nat) : List (LoE Unit) := []
def Jvt (F : Nat) : Jbu Unit := { toBook := J3o, lo := Jcf (Kkj F), need := Jaw [] }
theorem Kv9 (F : Nat) : Jhk prog (Jvt F) F := Ja0 (l := Kkj F) rfl fz
theorem K2x (F : Nat) (b x_ : ZB) (kend : List BV → ZO) : Jam prog (Jvt F) F 20 52 [.d (.slc (.int .u8)) b, .f 53, .d (.slc (.int .u8)) x_] [.o 5 (.int .u8)] kend = Kyt F b x_ none (fun y0 => kend [BV.o 5 (.int .u8) y0]) := by kernel_rfl
theorem Jtm  : Jad prog 52 (Orc.of [.d (.slc (.int .u8)), .f, .d (.slc (.int .u8))] true 1 fun x => ((Nat.beq x.2.1 53) && Jzk x.1 x.2.1 x.2.2.1, [.o 5 (.int .u8) (Jui x.1 x.2.1 x.2.2.1)])) := Jem (B0 := J3o) bkN bkG Jao bkT (Jac (fa Jtt fz)) (by kernel_rfl) (fun x h => by
 obtain ⟨x0, x1, x2, _⟩ := x
 simp only [Bool.and_eq_true] at h
 obtain ⟨e, h⟩ := h
 have e := Nat.eq_of_beq_eq_true e
 subst e
 obtain ⟨F, hF⟩ := Knh x0 x2 h
 exact ⟨F, 20, Jvt F, rfl, Kv9 F, fun kend => (K2x F x0 x2 kend).trans (hF none (fun y0 => kend [BV.o 5 (.int .u8) y0]))⟩)
def Kwa  : Orc := Orc.of [.d (.slc (.int .u8)), .f, .d (.slc (.int .u8))] true 1 fun x => ((Nat.beq x.2.1 53) && Jzk x.1 x.2.1 x.2.2.1, [.o 5 (.int .u8) (Jui x.1 x.2.1 x.2.2.1)])
theorem Kg9  : Jad prog 52 Kwa := Jkt Jtm.1 (fun x h => by
 obtain ⟨x0, x1, x2, _⟩ := x
 simp only [Bool.and_eq_true] at h
 obtain ⟨e, _⟩ := h
 rcases e with e
 ·have e := Nat.eq_of_beq_eq_true e
  subst e
  exact ⟨_, Jtm, rfl⟩)
@[reducible] def Jq6  : List PM := [.d (.slc (.pair (.int .i64) (.pair (.slc (.int .u8)) .unit)))]
def J0f  : Orc := Orc.of Jq6 true 1 fun x => (Juj x.1, [.o 5 (.int .u8) (Jc7 x.1), .d (.int .i64) (Jka x.1)])
@[reducible] def Jdk  : Tpl := { cur := ⟨[(5, .row 0), (10, .var (.slc (.pair (.int .i64) (.pair (.slc (.int .u8)) .unit)))), (0, .var (.int .i64)), (0, .var (.int .i64))], 15⟩, stk := [⟨[], 0⟩], heap := [.row 5 (.int .u8) false] }
def Kwb  : List (FuncId × Orc) := [(37, Kkh), (50, Kv7), (52, Kwa)]
def J3p  : Book := { Γ := gam, orc := Jbc Kwb, hint := Jav [(23, { keep := some [5, 16, 17, 18], keeps := [(6, [5, 16, 17, 18])], own := [], dat := [], stk := [] })] }
def Kwc (F : Nat) (nx : Jdk.T → ZO) (kq : ZK) (x : Jdk.T) : ZO := Jxf F none (fun s16 s17 s18 b => nx (((), (s16, (s17, (s18, ())))), (((), ()), (b, ())))) (fun y0 y1 y2 y3 => kq (.exit 0) (Jdk.inst (((), (y0, (y1, (y2, ())))), (((), ()), (y3, ()))))) x.1.2.1 x.1.2.2.1 x.1.2.2.2.1 x.2.2.1
def Kwd (F m : Nat) (x : Jdk.T) (kq : ZK) : ZO := Jg0 F none (fun y0 y1 y2 y3 => kq (.exit 0) (Jdk.inst (((), (y0, (y1, (y2, ())))), (((), ()), (y3, ()))))) m x.1.2.1 x.1.2.2.1 x.1.2.2.2.1 x.2.2.1
def J5p (F : Nat) : List (LoE Unit) := [⟨23, 6, LO.of Jdk (Kwd F F)⟩]
def Jvu (F : Nat) : Jbu Unit := { toBook := J3p, lo := Jcf (J5p F), need := Jaw [] }
def Kwe (Jdx : (List ZR) → Bool) (Jdn : (List ZR) → Int) (Jey : ZB → Nat → Int → Bool) (Jeh : ZB → Nat → Int → ZB) (Jfd : ZB → Nat → ZB → Bool) (Jfc : ZB → Nat → ZB → ZB) {X : Type} (F : Nat) (fail : X) (next ex0 : List ZR → Int → Int → ZB → X) (s16 : List ZR) (s17 s18 : Int) (b : ZB) : X :=
 bif (decide (s18 < s17)) then
  bif ((decide ((0 : Int) ≤ s18)) && (decide (s18 < ((s16.length : Nat) : Int)))) then
  bif (Jey b (51 : Nat) (List.getD s16 (s18).toNat ((0 : Int), (([] : ZB), ()))).1) then
  bif (Jfd (Jeh b (51 : Nat) (List.getD s16 (s18).toNat ((0 : Int), (([] : ZB), ()))).1) (53 : Nat) (List.getD s16 (s18).toNat ((0 : Int), (([] : ZB), ()))).2.1) then
  next s16 s17 (Jag s18 (1 : Int)) (Jfc (Jeh b (51 : Nat) (List.getD s16 (s18).toNat ((0 : Int), (([] : ZB), ()))).1) (53 : Nat) (List.getD s16 (s18).toNat ((0 : Int), (([] : ZB), ()))).2.1)
  else fail
  else fail
  else fail
 else
 ex0 s16 s17 s18 b
def Qgu (Jdx : (List ZR) → Bool) (Jdn : (List ZR) → Int) (Jey : ZB → Nat → Int → Bool) (Jeh : ZB → Nat → Int → ZB) (Jfd : ZB → Nat → ZB → Bool) (Jfc : ZB → Nat → ZB → ZB) {X : Type} (F : Nat) (l : List ZR) (fail : X) (ret : ZB → Int → X) : X :=
 bif (Jdx l) then
 bif ((Jdn l) != (0 : Int)) then
  ret ([] : ZB) (Jdn l)
 else
 bif (Jey ([] : ZB) (51 : Nat) ((l.length : Nat) : Int)) then
 Jg0 F fail
  (fun (s16 : List ZR) (s17 : Int) (s18 : Int) (b : ZB) =>
   bif (decide (((b.length : Nat) : Int) > (65536 : Int))) then
    ret ([] : ZB) (5 : Int)
   else
   ret b (0 : Int))
  F l ((l.length : Nat) : Int) (0 : Int) (Jeh ([] : ZB) (51 : Nat) ((l.length : Nat) : Int))
 else fail
 else fail
def Kha (Jdx : (List ZR) → Bool) (Jdn : (List ZR) → Int) (Jey : ZB → Nat → Int → Bool) (Jeh : ZB → Nat → Int → ZB) (Jfd : ZB → Nat → ZB → Bool) (Jfc : ZB → Nat → ZB → ZB) : List (FuncId × Orc) := [(37, Orc.of J3m true 0 fun x => (Jdx x.1, [.d (.int .i64) (Jdn x.1)])), (50, Orc.of [.d (.slc (.int .u8)), .f, .d (.int .i64)] true 1 fun x => ((Nat.beq x.2.1 51) && Jey x.1 x.2.1 x.2.2.1, [.o 5 (.int .u8) (Jeh x.1 x.2.1 x.2.2.1)])), (52, Orc.of [.d (.slc (.int .u8)), .f, .d (.slc (.int .u8))] true 1 fun x => ((Nat.beq x.2.1 53) && Jfd x.1 x.2.1 x.2.2.1, [.o 5 (.int .u8) (Jfc x.1 x.2.1 x.2.2.1)]))]
def Kek (Jdx : (List ZR) → Bool) (Jdn : (List ZR) → Int) (Jey : ZB → Nat → Int → Bool) (Jeh : ZB → Nat → Int → ZB) (Jfd : ZB → Nat → ZB → Bool) (Jfc : ZB → Nat → ZB → ZB) : Book := { Γ := gam, orc := Jbc (Kha Jdx Jdn Jey Jeh Jfd Jfc), hint := Jav [(23, { keep := some [5, 16, 17, 18], keeps := [(6, [5, 16, 17, 18])], own := [], dat := [], stk := [] })] }
def Jyr (Jdx : (List ZR) → Bool) (Jdn : (List ZR) → Int) (Jey : ZB → Nat → Int → Bool) (Jeh : ZB → Nat → Int → ZB) (Jfd : ZB → Nat → ZB → Bool) (Jfc : ZB → Nat → ZB → ZB) (F : Nat) : Jbu Unit := { toBook := Kek Jdx Jdn Jey Jeh Jfd Jfc, lo := Jcf (J5p F), need := Jaw [] }
def Khb (Jdx : (List ZR) → Bool) (Jdn : (List ZR) → Int) (Jey : ZB → Nat → Int → Bool) (Jeh : ZB → Nat → Int → ZB) (Jfd : ZB → Nat → ZB → Bool) (Jfc : ZB → Nat → ZB → ZB) (F : Nat) (nx : Jdk.T → ZO) (kq : ZK) (x : Jdk.T) : ZO := Kwe Jdx Jdn Jey Jeh Jfd Jfc F none (fun s16 s17 s18 b => nx (((), (s16, (s17, (s18, ())))), (((), ()), (b, ())))) (fun y0 y1 y2 y3 => kq (.exit 0) (Jdk.inst (((), (y0, (y1, (y2, ())))), (((), ()), (y3, ()))))) x.1.2.1 x.1.2.2.1 x.1.2.2.2.1 x.2.2.1
theorem J5q (Jdx : (List ZR) → Bool) (Jdn : (List ZR) → Int) (Jey : ZB → Nat → Int → Bool) (Jeh : ZB → Nat → Int → ZB) (Jfd : ZB → Nat → ZB → Bool) (Jfc : ZB → Nat → ZB → ZB) (F : Nat) : Jbn prog (Jyr Jdx Jdn Jey Jeh Jfd Jfc F) F 23 0 6 Jdk (Khb Jdx Jdn Jey Jeh Jfd Jfc F) := fun d x KQ => by kernel_rfl
theorem Kpb (Jdx : (List ZR) → Bool) (Jdn : (List ZR) → Int) (Jey : ZB → Nat → Int → Bool) (Jeh : ZB → Nat → Int → ZB) (Jfd : ZB → Nat → ZB → Bool) (Jfc : ZB → Nat → ZB → ZB) (F : Nat) (x : Jaz Jq6) (kend : List BV → ZO) : Jam prog (Jyr Jdx Jdn Jey Jeh Jfd Jfc F) F 20 23 (Jae Jq6 x) [.o 5 (.int .u8), .d (.int .i64)] kend = Qgu Jdx Jdn Jey Jeh Jfd Jfc F x.1 none (fun y0 y1 => kend [BV.o 5 (.int .u8) y0, BV.d (.int .i64) y1]) := by kernel_rfl
theorem Kel (F : Nat) : Jbn prog (Jvu F) F 23 0 6 Jdk (Kwc F) := J5q Jwo Jo4 Jr1 Jlt Jzk Jui F
theorem Kwf (F : Nat) : Jhk prog (Jvu F) F := Ja0 (l := J5p F) rfl (fa (Jal 0 (by kernel_rfl) (by kernel_rfl) (Jah (Kel F) (fun _ _ => rfl) (fun _ _ _ _ => rfl))) fz)
theorem K2y (F : Nat) (x : Jaz Jq6) (kend : List BV → ZO) : Jam prog (Jvu F) F 20 23 (Jae Jq6 x) [.o 5 (.int .u8), .d (.int .i64)] kend = Kyu F x.1 none (fun y0 y1 => kend [BV.o 5 (.int .u8) y0, BV.d (.int .i64) y1]) := Kpb Jwo Jo4 Jr1 Jlt Jzk Jui F x kend
theorem Jtn  : Jad prog 23 J0f := Jap (B0 := J3p) bkN bkG Jao bkT K2y (Jac (fa Kej (fa Kg8 (fa Kg9 fz)))) (by kernel_rfl) (fun _ => rfl) Kwf (fun x h => (Kni x.1 h).elim fun F hF => ⟨F, fun kend => hF none _⟩)
@[reducible] def Jm3  : List PM := [.d (.slc (.int .u8))]
def Kem  : Orc := Orc.of Jm3 false 0 fun x => (Jle x.1, [.d (.slc (.pair (.int .i64) (.pair (.slc (.int .u8)) .unit))) (Jfj x.1), .d (.int .i64) (Jfk x.1)])
@[reducible] def Jcl  : Tpl := { cur := ⟨[(1, .ptr 0 []), (0, .nils), (0, .var (.int .i64)), (2, .row 1), (12, .var (.int .i64)), (0, .var (.int .i64))], 24⟩, stk := [⟨[], 0⟩], heap := [.box (.var (.slc (.int .u8))), .row 66 (.pair (.int .i64) (.pair (.slc (.int .u8)) .unit)) false] }
def Kwg  : List (FuncId × Orc) := [(72, Ju3), (75, Jyk)]
def J3q  : Book := { Γ := gam, orc := Jbc Kwg, hint := Jav [(33, { keep := some [1, 2, 3, 6, 19, 20], keeps := [(11, [1, 2, 3, 6, 19, 20])], own := [(6, 25)], dat := [], stk := [] })] }
def Kwh (F : Nat) (nx : Jcl.T → ZO) (kq : ZK) (x : Jcl.T) : ZO := Jxg F none (fun s3 s19 s20 b out => nx (((), ((), (s3, ((), (s19, (s20, ())))))), (((), ()), (b, (out, ()))))) (fun y0 y1 y2 y3 y4 => kq .ret (Jcl.inst (((), ((), (y0, ((), (y1, (y2, ())))))), (((), ()), (y3, (y4, ())))))) (fun y0 y1 y2 y3 y4 => kq (.exit 0) (Jcl.inst (((), ((), (y0, ((), (y1, (y2, ())))))), (((), ()), (y3, (y4, ())))))) x.1.2.2.1 x.1.2.2.2.2.1 x.1.2.2.2.2.2.1 x.2.2.1 x.2.2.2.1
def Kwi (F m : Nat) (x : Jcl.T) (kq : ZK) : ZO := Jf4 F none (fun y0 y1 y2 y3 y4 => kq .ret (Jcl.inst (((), ((), (y0, ((), (y1, (y2, ())))))), (((), ()), (y3, (y4, ())))))) (fun y0 y1 y2 y3 y4 => kq (.exit 0) (Jcl.inst (((), ((), (y0, ((), (y1, (y2, ())))))), (((), ()), (y3, (y4, ())))))) m x.1.2.2.1 x.1.2.2.2.2.1 x.1.2.2.2.2.2.1 x.2.2.1 x.2.2.2.1
def J5r (F : Nat) : List (LoE Unit) := [⟨33, 11, LO.of Jcl (Kwi F F)⟩]
def Jvv (F : Nat) : Jbu Unit := { toBook := J3q, lo := Jcf (J5r F), need := Jaw [(33, 1)] }
def Kwj (Jce : ZB → Bool) (Jbb : ZB → Int) (Jat : ZB → ZB) (Ja5 : ZB → Int) (Jbr : ZB → Bool) (Jbg Jbh : ZB → ZB) (Ja6 : ZB → Int) {X : Type} (F : Nat) (fail : X) (next ex0 ex1 : Int → Int → Int → ZB → List ZR → X) (s3 s19 s20 : Int) (b : ZB) (out : List ZR) : X :=
 bif (decide (s20 < s19)) then
  bif (Jce b) then
  bif ((Ja5 b) == (0 : Int)) then
   bif ((Ja5 b) != (0 : Int)) then
    ex0 (Ja5 b) s19 s20 (Jat b) out
   else
   bif (decide ((Jbb b) ≥ (1 : Int))) then
    bif (!(decide ((Jbb b) ≤ (4 : Int)))) then
     ex0 (1 : Int) s19 s20 (Jat b) out
    else
    bif (Jbr (Jat b)) then
    bif ((Ja6 (Jat b)) == (0 : Int)) then
     bif ((Ja6 (Jat b)) != (0 : Int)) then
      ex0 (Ja6 (Jat b)) s19 s20 (Jbh (Jat b)) out
     else
     bif (decide ((out ++ ([((Jbb b), ((Jbg (Jat b)), ()))] : List ZR)).length ≤ big)) then
     next s3 s19 (Jag s20 (1 : Int)) (Jbh (Jat b)) (out ++ ([((Jbb b), ((Jbg (Jat b)), ()))] : List ZR))
     else fail
    else
    bif ((Ja6 (Jat b)) != (0 : Int)) then
     ex0 (Ja6 (Jat b)) s19 s20 (Jat b) out
    else
    bif (decide ((out ++ ([((Jbb b), (([] : ZB), ()))] : List ZR)).length ≤ big)) then
    next s3 s19 (Jag s20 (1 : Int)) (Jat b) (out ++ ([((Jbb b), (([] : ZB), ()))] : List ZR))
    else fail
    else fail
   else
   ex0 (1 : Int) s19 s20 (Jat b) out
  else
  bif ((Ja5 b) != (0 : Int)) then
   ex0 (Ja5 b) s19 s20 b out
  else
  ex0 (1 : Int) s19 s20 b out
  else fail
 else
 ex1 s3 s19 s20 b out
def Qgv (Jce : ZB → Bool) (Jbb : ZB → Int) (Jat : ZB → ZB) (Ja5 : ZB → Int) (Jbr : ZB → Bool) (Jbg Jbh : ZB → ZB) (Ja6 : ZB → Int) {X : Type} (F : Nat) (b : ZB) (fail : X) (ret : List ZR → Int → X) : X :=
 bif (decide (((b.length : Nat) : Int) > (65536 : Int))) then
  ret ([] : List ZR) (5 : Int)
 else
 bif (Jce b) then
 bif ((Ja5 b) == (0 : Int)) then
  bif ((Ja5 b) != (0 : Int)) then
   ret ([] : List ZR) (Ja5 b)
  else
  bif (decide ((Jbb b) > (1024 : Int))) then
   ret ([] : List ZR) (6 : Int)
  else
  Jf4 F fail
   (fun (s3 : Int) (s19 : Int) (s20 : Int) (b1 : ZB) (out : List ZR) =>
    ret ([] : List ZR) s3)
   (fun (s31 : Int) (s191 : Int) (s201 : Int) (b2 : ZB) (out1 : List ZR) =>
    bif (decide (((b2.length : Nat) : Int) > (0 : Int))) then
     ret ([] : List ZR) (3 : Int)
    else
    ret out1 (0 : Int))
   F (0 : Int) (Jbb b) (0 : Int) (Jat b) ([] : List ZR)
 else
 bif ((Ja5 b) != (0 : Int)) then
  ret ([] : List ZR) (Ja5 b)
 else
 Jf4 F fail
  (fun (s32 : Int) (s192 : Int) (s202 : Int) (b3 : ZB) (out2 : List ZR) =>
   ret ([] : List ZR) s32)
  (fun (s33 : Int) (s193 : Int) (s203 : Int) (b4 : ZB) (out3 : List ZR) =>
   bif (decide (((b4.length : Nat) : Int) > (0 : Int))) then
    ret ([] : List ZR) (3 : Int)
   else
   ret out3 (0 : Int))
  F (0 : Int) (0 : Int) (0 : Int) b ([] : List ZR)
 else fail
def Khc (Jce : ZB → Bool) (Jbb : ZB → Int) (Jat : ZB → ZB) (Ja5 : ZB → Int) (Jbr : ZB → Bool) (Jbg Jbh : ZB → ZB) (Ja6 : ZB → Int) : List (FuncId × Orc) := [(72, Orc.of Jsq false 0 fun x => (Jce x.1, [.d (.int .i64) (Jbb x.1), .d (.slc (.int .u8)) (Jat x.1), .d (.int .i64) (Ja5 x.1)])), (75, Orc.of Jmk false 0 fun x => (Jbr x.1, [.d (.slc (.int .u8)) (Jbg x.1), .d (.slc (.int .u8)) (Jbh x.1), .d (.int .i64) (Ja6 x.1)]))]
def Ken (Jce : ZB → Bool) (Jbb : ZB → Int) (Jat : ZB → ZB) (Ja5 : ZB → Int) (Jbr : ZB → Bool) (Jbg Jbh : ZB → ZB) (Ja6 : ZB → Int) : Book := { Γ := gam, orc := Jbc (Khc Jce Jbb Jat Ja5 Jbr Jbg Jbh Ja6), hint := Jav [(33, { keep := some [1, 2, 3, 6, 19, 20], keeps := [(11, [1, 2, 3, 6, 19, 20])], own := [(6, 25)], dat := [], stk := [] })] }
def Jys (Jce : ZB → Bool) (Jbb : ZB → Int) (Jat : ZB → ZB) (Ja5 : ZB → Int) (Jbr : ZB → Bool) (Jbg Jbh : ZB → ZB) (Ja6 : ZB → Int) (F : Nat) : Jbu Unit := { toBook := Ken Jce Jbb Jat Ja5 Jbr Jbg Jbh Ja6, lo := Jcf (J5r F), need := Jaw [(33, 1)] }
def Khd (Jce : ZB → Bool) (Jbb : ZB → Int) (Jat : ZB → ZB) (Ja5 : ZB → Int) (Jbr : ZB → Bool) (Jbg Jbh : ZB → ZB) (Ja6 : ZB → Int) (F : Nat) (nx : Jcl.T → ZO) (kq : ZK) (x : Jcl.T) : ZO := Kwj Jce Jbb Jat Ja5 Jbr Jbg Jbh Ja6 F none (fun s3 s19 s20 b out => nx (((), ((), (s3, ((), (s19, (s20, ())))))), (((), ()), (b, (out, ()))))) (fun y0 y1 y2 y3 y4 => kq .ret (Jcl.inst (((), ((), (y0, ((), (y1, (y2, ())))))), (((), ()), (y3, (y4, ())))))) (fun y0 y1 y2 y3 y4 => kq (.exit 0) (Jcl.inst (((), ((), (y0, ((), (y1, (y2, ())))))), (((), ()), (y3, (y4, ())))))) x.1.2.2.1 x.1.2.2.2.2.1 x.1.2.2.2.2.2.1 x.2.2.1 x.2.2.2.1
theorem J5s (Jce : ZB → Bool) (Jbb : ZB → Int) (Jat : ZB → ZB) (Ja5 : ZB → Int) (Jbr : ZB → Bool) (Jbg Jbh : ZB → ZB) (Ja6 : ZB → Int) (F : Nat) : Jbn prog (Jys Jce Jbb Jat Ja5 Jbr Jbg Jbh Ja6 F) F 33 0 11 Jcl (Khd Jce Jbb Jat Ja5 Jbr Jbg Jbh Ja6 F) := fun d x KQ => by kernel_rfl
theorem Kpc (Jce : ZB → Bool) (Jbb : ZB → Int) (Jat : ZB → ZB) (Ja5 : ZB → Int) (Jbr : ZB → Bool) (Jbg Jbh : ZB → ZB) (Ja6 : ZB → Int) (F : Nat) (x : Jaz Jm3) (kend : List BV → ZO) : Jam prog (Jys Jce Jbb Jat Ja5 Jbr Jbg Jbh Ja6 F) F 20 33 (Jae Jm3 x) [.d (.slc (.pair (.int .i64) (.pair (.slc (.int .u8)) .unit))), .d (.int .i64)] kend = Qgv Jce Jbb Jat Ja5 Jbr Jbg Jbh Ja6 F x.1 none (fun y0 y1 => kend [BV.d (.slc (.pair (.int .i64) (.pair (.slc (.int .u8)) .unit))) y0, BV.d (.int .i64) y1]) := by kernel_rfl
theorem Keo (F : Nat) : Jbn prog (Jvv F) F 33 0 11 Jcl (Kwh F) := J5s Jfh Jas Jaq Jbk Jgt Jet Jeu Jc3 F
theorem Kwk (F : Nat) : Jhk prog (Jvv F) F := Ja0 (l := J5r F) rfl (fa (Jal 0 (by kernel_rfl) (by kernel_rfl) (Jah (Keo F) (fun _ _ => rfl) (fun _ _ _ _ => rfl))) fz)
theorem K2z (F : Nat) (x : Jaz Jm3) (kend : List BV → ZO) : Jam prog (Jvv F) F 20 33 (Jae Jm3 x) [.d (.slc (.pair (.int .i64) (.pair (.slc (.int .u8)) .unit))), .d (.int .i64)] kend = Kyv F x.1 none (fun y0 y1 => kend [BV.d (.slc (.pair (.int .i64) (.pair (.slc (.int .u8)) .unit))) y0, BV.d (.int .i64) y1]) := Kpc Jfh Jas Jaq Jbk Jgt Jet Jeu Jc3 F x kend
theorem J77  : Jad prog 33 Kem := Jap (B0 := J3q) bkN bkG Jao bkT K2z (Jac (fa Jq0 (fa Jzz fz))) (by kernel_rfl) (fun _ => rfl) Kwk (fun x h => (Knj x.1 h).elim fun F hF => ⟨F, fun kend => hF none _⟩)
end Go.AI
namespace Go.AI
open Go
open Go.Proofs.Tryz (prog)
set_option linter.unusedVariables false
@[reducible] def J5t  : List PM := [.d (.pair (.int .i64) (.pair (.int .i64) (.pair (.int .i64) .unit))), .d (.slc (.int .u8)), .d (.slc (.pair (.int .i64) (.pair (.slc (.int .u8)) .unit)))]
def Kep  : Orc := Orc.of J5t false 0 fun x => (J1r x.1 x.2.1 x.2.2.1, [.d (.pair (.int .i64) (.pair (.int .i64) (.pair (.int .i64) .unit))) (Jqe x.1 x.2.1 x.2.2.1), .d (.slc (.pair (.int .i64) (.pair (.int .i64) (.pair (.slc (.arr 16 (.int .u8))) .unit)))) (Jd7 x.1 x.2.1 x.2.2.1), .d (.int .i64) (Jqf x.1 x.2.1 x.2.2.1)])
def J65  : List (FuncId × Orc) := [(23, J0f), (24, J5i), (25, Kup), (26, Kd8)]
theorem K20 (F : Nat) (x : Jaz J5t) (kend : List BV → ZO) : Jam prog (bkZ J65) F 20 10 (Jae J5t x) [.d (.pair (.int .i64) (.pair (.int .i64) (.pair (.int .i64) .unit))), .d (.slc (.pair (.int .i64) (.pair (.int .i64) (.pair (.slc (.arr 16 (.int .u8))) .unit)))), .d (.int .i64)] kend = Kyx F x.1 x.2.1 x.2.2.1 none (fun y0 y1 y2 => kend [BV.d (.pair (.int .i64) (.pair (.int .i64) (.pair (.int .i64) .unit))) y0, BV.d (.slc (.pair (.int .i64) (.pair (.int .i64) (.pair (.slc (.arr 16 (.int .u8))) .unit)))) y1, BV.d (.int .i64) y2]) := by kernel_rfl
theorem J78  : Jad prog 10 Kep := Jap (B0 := bkY J65) bkN bkG Jao bkT K20 (Jac (fa Jtn (fa Jvl (fa Kgf (fa J74 fz))))) (by kernel_rfl) (fun _ => rfl) (bkO _) (fun x h => (Knl x.1 x.2.1 x.2.2.1 h).elim fun F hF => ⟨F, fun kend => hF none _⟩)
@[reducible] def Jpx  : List PM := []
def Jvw  : Orc := Orc.of Jpx true 0 fun x => (true, [.d .bool (Jjt)])
def Jto  : List (FuncId × Orc) := [(10, Kep), (23, J0f)]
theorem Keq (F : Nat) (x : Jaz Jpx) (kend : List BV → ZO) : Jam prog (bkZ Jto) F 20 9 (Jae Jpx x) [.d .bool] kend = Jzp F  none (fun y0 => kend [BV.d .bool y0]) := by kernel_rfl
theorem Jx5  : Jad prog 9 Jvw := Jap (B0 := bkY Jto) bkN bkG Jao bkT Keq (Jac (fa J78 (fa Jtn fz))) (by kernel_rfl) (fun _ => rfl) (bkO _) (fun x _ => (J4v ).elim fun F hF => ⟨F, fun kend => hF none _⟩)
end Go.AI
namespace Go.AI
open Go
open Go.Proofs.Tryz (prog)
set_option linter.unusedVariables false
@[reducible] def Jq7  : List PM := [.d (.pair (.slc (.arr 16 (.int .u8))) (.pair (.slc (.pair (.int .i64) (.pair (.arr 16 (.int .u8)) .unit))) .unit)), .d (.slc (.int .u8))]
def Ker  : Orc := Orc.of Jq7 false 0 fun x => (J1s x.1 x.2.1, [.d (.pair (.int .i64) (.pair (.int .i64) (.pair (.int .i64) .unit))) (Jwr x.1 x.2.1), .d (.slc (.slc (.pair (.int .i64) (.pair (.slc (.int .u8)) .unit)))) (Jqg x.1 x.2.1), .d (.int .i64) (Jws x.1 x.2.1)])
@[reducible] def Jdl  : Tpl := { cur := ⟨[(0, .hnd .yield 0), (1, .ptr 6 []), (4, .var (.slc (.slc (.int .u8)))), (0, .var (.int .i64)), (0, .var (.int .i64))], 21⟩, stk := [⟨[(0, .hnd .yield 0)], 0⟩, ⟨[(1, .var (.slc (.int .u8))), (2, .ptr 1 []), (0, .ptr 2 []), (0, .ptr 3 []), (0, .ptr 7 []), (2, .ptr 4 [])], 39⟩, ⟨[], 0⟩], heap := [.lp 14 8 ⟨[(4, .ptr 1 []), (0, .ptr 2 []), (0, .ptr 3 []), (3, .ptr 4 [])], 39⟩ .ready, .box (.var (.pair (.int .i64) (.pair (.int .i64) (.pair (.int .i64) .unit)))), .box (.nils), .box (.var (.int .i64)), .box (.row 5), .row 25 (.slc (.pair (.int .i64) (.pair (.slc (.int .u8)) .unit))) false, .box (.var (.slc (.int .u8))), .box (.var (.pair (.int .i64) (.pair (.int .i64) (.pair (.int .i64) .unit))))] }
@[reducible] def Js2  : Tpl := { cur := ⟨[(0, .hnd .yield 0), (1, .ptr 6 []), (4, .var (.slc (.slc (.int .u8)))), (0, .var (.int .i64)), (0, .var (.int .i64))], 21⟩, stk := [⟨[(0, .hnd .yield 0)], 0⟩, ⟨[(1, .var (.slc (.int .u8))), (2, .ptr 1 []), (0, .ptr 2 []), (0, .ptr 3 []), (0, .ptr 7 []), (2, .ptr 4 [])], 39⟩, ⟨[], 0⟩], heap := [.lp 14 8 ⟨[(4, .ptr 1 []), (0, .ptr 2 []), (0, .ptr 3 []), (3, .ptr 4 [])], 39⟩ (.done .ret), .box (.var (.pair (.int .i64) (.pair (.int .i64) (.pair (.int .i64) .unit)))), .box (.nils), .box (.var (.int .i64)), .box (.row 5), .row 25 (.slc (.pair (.int .i64) (.pair (.slc (.int .u8)) .unit))) false, .box (.var (.slc (.int .u8))), .box (.var (.pair (.int .i64) (.pair (.int .i64) (.pair (.int .i64) .unit))))] }
def Kwl  : List (FuncId × Orc) := [(19, Kvu), (33, Kem), (70, Kuq)]
def J3r  : Book := { Γ := gam, orc := Jbc Kwl, hint := Jav [(14, { keep := some [], keeps := [], own := [], dat := [], stk := [], rgb := [(5007, [(10, 0, 41)])] }), (69, { keep := some [0, 2, 7, 8, 9], keeps := [(1, [0, 2, 7, 8, 9])], own := [], dat := [], stk := [[0], [1, 4, 5, 6, 7, 10, 11, 12, 13, 31, 32, 34, 41]] })] }
def Kwm (F : Nat) (nx : Jdl.T → ZO) (kq : ZK) (x : Jdl.T) : ZO := Jxi F none (fun s7 s8 s9 key s4 s6 out s2 l => nx (((), ((), (s7, (s8, (s9, ()))))), ((((), ()), ((key, ((), ((), ((), ((), ((), ())))))), ((), ()))), (((), ((), ((), ((), ())))), (s4, ((), (s6, ((), (out, (s2, (l, ()))))))))))) (fun y0 y1 y2 y3 y4 y5 y6 y7 y8 => kq .ret (Js2.inst (((), ((), (y0, (y1, (y2, ()))))), ((((), ()), ((y3, ((), ((), ((), ((), ((), ())))))), ((), ()))), (((), ((), ((), ((), ())))), (y4, ((), (y5, ((), (y6, (y7, (y8, ())))))))))))) (fun y0 y1 y2 y3 y4 y5 y6 y7 y8 => kq (.exit 0) (Jdl.inst (((), ((), (y0, (y1, (y2, ()))))), ((((), ()), ((y3, ((), ((), ((), ((), ((), ())))))), ((), ()))), (((), ((), ((), ((), ())))), (y4, ((), (y5, ((), (y6, (y7, (y8, ())))))))))))) x.1.2.2.1 x.1.2.2.2.1 x.1.2.2.2.2.1 x.2.1.2.1.1 x.2.2.2.1 x.2.2.2.2.2.1 x.2.2.2.2.2.2.2.1 x.2.2.2.2.2.2.2.2.1 x.2.2.2.2.2.2.2.2.2.1
def Kwn (F m : Nat) (x : Jdl.T) (kq : ZK) : ZO := Jif F none (fun y0 y1 y2 y3 y4 y5 y6 y7 y8 => kq .ret (Js2.inst (((), ((), (y0, (y1, (y2, ()))))), ((((), ()), ((y3, ((), ((), ((), ((), ((), ())))))), ((), ()))), (((), ((), ((), ((), ())))), (y4, ((), (y5, ((), (y6, (y7, (y8, ())))))))))))) (fun y0 y1 y2 y3 y4 y5 y6 y7 y8 => kq (.exit 0) (Jdl.inst (((), ((), (y0, (y1, (y2, ()))))), ((((), ()), ((y3, ((), ((), ((), ((), ((), ())))))), ((), ()))), (((), ((), ((), ((), ())))), (y4, ((), (y5, ((), (y6, (y7, (y8, ())))))))))))) m x.1.2.2.1 x.1.2.2.2.1 x.1.2.2.2.2.1 x.2.1.2.1.1 x.2.2.2.1 x.2.2.2.2.2.1 x.2.2.2.2.2.2.2.1 x.2.2.2.2.2.2.2.2.1 x.2.2.2.2.2.2.2.2.2.1
def J5u (F : Nat) : List (LoE Unit) := [⟨69, 1, LO.of Jdl (Kwn F F)⟩]
def Jvx (F : Nat) : Jbu Unit := { toBook := J3r, lo := Jcf (J5u F), need := Jaw [(69, 1)] }
def Kwo (Jfa : (ZD) → Bool) (Jdz : (ZD) → (ZL)) (Jdo : (ZD) → (List ZB)) (Jdm : (ZD) → Int) (Jct : ZB → Bool) (Jb5 : ZB → (List ZR)) (Jb6 : ZB → Int) (Je8 : ZB → Int → ZB → Bool) (Jcu : ZB → Int → ZB → ZB) (Jdd : ZB → Int → ZB → Int) {X : Type} (F : Nat) (fail : X) (next ex0 ex1 : List ZB → Int → Int → ZB → ZL → Int → List (List ZR) → ZB → ZL → X) (s7 : List ZB) (s8 s9 : Int) (key : ZB) (s4 : ZL) (s6 : Int) (out : List (List ZR)) (s2 : ZB) (l : ZL) : X :=
 bif (decide (s9 < s8)) then
  bif ((decide ((0 : Int) ≤ s9)) && (decide (s9 < ((s7.length : Nat) : Int)))) then
  bif (decide (((s2.length : Nat) : Int) > (0 : Int))) then
   bif (Je8 s2 (Jag s9 (1 : Int)) (List.getD s7 (s9).toNat ([] : ZB))) then
   bif ((Jdd s2 (Jag s9 (1 : Int)) (List.getD s7 (s9).toNat ([] : ZB))) == (0 : Int)) then
    bif (Jct (Jcu s2 (Jag s9 (1 : Int)) (List.getD s7 (s9).toNat ([] : ZB)))) then
    bif ((Jb6 (Jcu s2 (Jag s9 (1 : Int)) (List.getD s7 (s9).toNat ([] : ZB)))) != (0 : Int)) then
     ex0 s7 s8 s9 key ((0 : Int), ((0 : Int), ((0 : Int), ()))) (Jb6 (Jcu s2 (Jag s9 (1 : Int)) (List.getD s7 (s9).toNat ([] : ZB)))) out s2 l
    else
    bif (decide ((out ++ ([(Jb5 (Jcu s2 (Jag s9 (1 : Int)) (List.getD s7 (s9).toNat ([] : ZB))))] : List (List ZR))).length ≤ big)) then
    next s7 s8 (Jag s9 (1 : Int)) key s4 s6 (out ++ ([(Jb5 (Jcu s2 (Jag s9 (1 : Int)) (List.getD s7 (s9).toNat ([] : ZB))))] : List (List ZR))) s2 l
    else fail
    else fail
   else
   bif ((Jdd s2 (Jag s9 (1 : Int)) (List.getD s7 (s9).toNat ([] : ZB))) != (0 : Int)) then
    ex0 s7 s8 s9 key ((0 : Int), ((0 : Int), ((0 : Int), ()))) (Jdd s2 (Jag s9 (1 : Int)) (List.getD s7 (s9).toNat ([] : ZB))) out s2 l
   else
   bif (decide ((out ++ ([([] : List ZR)] : List (List ZR))).length ≤ big)) then
   next s7 s8 (Jag s9 (1 : Int)) key s4 s6 (out ++ ([([] : List ZR)] : List (List ZR))) s2 l
   else fail
   else fail
  else
  bif (Jct (List.getD s7 (s9).toNat ([] : ZB))) then
  bif ((Jb6 (List.getD s7 (s9).toNat ([] : ZB))) != (0 : Int)) then
   ex0 s7 s8 s9 key ((0 : Int), ((0 : Int), ((0 : Int), ()))) (Jb6 (List.getD s7 (s9).toNat ([] : ZB))) out s2 l
  else
  bif (decide ((out ++ ([(Jb5 (List.getD s7 (s9).toNat ([] : ZB)))] : List (List ZR))).length ≤ big)) then
  next s7 s8 (Jag s9 (1 : Int)) key s4 s6 (out ++ ([(Jb5 (List.getD s7 (s9).toNat ([] : ZB)))] : List (List ZR))) s2 l
  else fail
  else fail
  else fail
 else
 ex1 s7 s8 s9 key s4 s6 out s2 l
def Qgw (Jfa : (ZD) → Bool) (Jdz : (ZD) → (ZL)) (Jdo : (ZD) → (List ZB)) (Jdm : (ZD) → Int) (Jct : ZB → Bool) (Jb5 : ZB → (List ZR)) (Jb6 : ZB → Int) (Je8 : ZB → Int → ZB → Bool) (Jcu : ZB → Int → ZB → ZB) (Jdd : ZB → Int → ZB → Int) {X : Type} (F : Nat) (d_ : ZD) (key : ZB) (fail : X) (ret : ZL → List (List ZR) → Int → X) : X :=
 bif (Jfa d_) then
 bif ((Jdm d_) != (0 : Int)) then
  ret ((0 : Int), ((0 : Int), ((0 : Int), ()))) ([] : List (List ZR)) (Jdm d_)
 else
 bif (decide (((key.length : Nat) : Int) > (64 : Int))) then
  ret ((0 : Int), ((0 : Int), ((0 : Int), ()))) ([] : List (List ZR)) (1 : Int)
 else
 Jif F fail
  (fun (s7 : List ZB) (s8 : Int) (s9 : Int) (Jtr : ZB) (s4 : ZL) (s6 : Int) (out : List (List ZR)) (s2 : ZB) (l : ZL) =>
   ret s4 ([] : List (List ZR)) s6)
  (fun (s71 : List ZB) (s81 : Int) (s91 : Int) (key2 : ZB) (s41 : ZL) (s61 : Int) (out1 : List (List ZR)) (s21 : ZB) (l1 : ZL) =>
   ret l1 out1 (0 : Int))
  F (Jdo d_) (((Jdo d_).length : Nat) : Int) (0 : Int) key ((0 : Int), ((0 : Int), ((0 : Int), ()))) (0 : Int) ([] : List (List ZR)) key (Jdz d_)
 else fail
def Khe (Jfa : (ZD) → Bool) (Jdz : (ZD) → (ZL)) (Jdo : (ZD) → (List ZB)) (Jdm : (ZD) → Int) (Jct : ZB → Bool) (Jb5 : ZB → (List ZR)) (Jb6 : ZB → Int) (Je8 : ZB → Int → ZB → Bool) (Jcu : ZB → Int → ZB → ZB) (Jdd : ZB → Int → ZB → Int) : List (FuncId × Orc) := [(19, Orc.of J9n false 0 fun x => (Jfa x.1, [.d (.pair (.int .i64) (.pair (.int .i64) (.pair (.int .i64) .unit))) (Jdz x.1), .d (.slc (.slc (.int .u8))) (Jdo x.1), .d (.int .i64) (Jdm x.1)])), (33, Orc.of Jm3 false 0 fun x => (Jct x.1, [.d (.slc (.pair (.int .i64) (.pair (.slc (.int .u8)) .unit))) (Jb5 x.1), .d (.int .i64) (Jb6 x.1)])), (70, Orc.of J9l true 1 fun x => (Je8 x.1 x.2.1 x.2.2.1, [.o 5 (.int .u8) (Jcu x.1 x.2.1 x.2.2.1), .d (.int .i64) (Jdd x.1 x.2.1 x.2.2.1)]))]
def Kes (Jfa : (ZD) → Bool) (Jdz : (ZD) → (ZL)) (Jdo : (ZD) → (List ZB)) (Jdm : (ZD) → Int) (Jct : ZB → Bool) (Jb5 : ZB → (List ZR)) (Jb6 : ZB → Int) (Je8 : ZB → Int → ZB → Bool) (Jcu : ZB → Int → ZB → ZB) (Jdd : ZB → Int → ZB → Int) : Book := { Γ := gam, orc := Jbc (Khe Jfa Jdz Jdo Jdm Jct Jb5 Jb6 Je8 Jcu Jdd), hint := Jav [(14, { keep := some [], keeps := [], own := [], dat := [], stk := [], rgb := [(5007, [(10, 0, 41)])] }), (69, { keep := some [0, 2, 7, 8, 9], keeps := [(1, [0, 2, 7, 8, 9])], own := [], dat := [], stk := [[0], [1, 4, 5, 6, 7, 10, 11, 12, 13, 31, 32, 34, 41]] })] }
def Jyt (Jfa : (ZD) → Bool) (Jdz : (ZD) → (ZL)) (Jdo : (ZD) → (List ZB)) (Jdm : (ZD) → Int) (Jct : ZB → Bool) (Jb5 : ZB → (List ZR)) (Jb6 : ZB → Int) (Je8 : ZB → Int → ZB → Bool) (Jcu : ZB → Int → ZB → ZB) (Jdd : ZB → Int → ZB → Int) (F : Nat) : Jbu Unit := { toBook := Kes Jfa Jdz Jdo Jdm Jct Jb5 Jb6 Je8 Jcu Jdd, lo := Jcf (J5u F), need := Jaw [(69, 1)] }
def Khf (Jfa : (ZD) → Bool) (Jdz : (ZD) → (ZL)) (Jdo : (ZD) → (List ZB)) (Jdm : (ZD) → Int) (Jct : ZB → Bool) (Jb5 : ZB → (List ZR)) (Jb6 : ZB → Int) (Je8 : ZB → Int → ZB → Bool) (Jcu : ZB → Int → ZB → ZB) (Jdd : ZB → Int → ZB → Int) (F : Nat) (nx : Jdl.T → ZO) (kq : ZK) (x : Jdl.T) : ZO := Kwo Jfa Jdz Jdo Jdm Jct Jb5 Jb6 Je8 Jcu Jdd F none (fun s7 s8 s9 key s4 s6 out s2 l => nx (((), ((), (s7, (s8, (s9, ()))))), ((((), ()), ((key, ((), ((), ((), ((), ((), ())))))), ((), ()))), (((), ((), ((), ((), ())))), (s4, ((), (s6, ((), (out, (s2, (l, ()))))))))))) (fun y0 y1 y2 y3 y4 y5 y6 y7 y8 => kq .ret (Js2.inst (((), ((), (y0, (y1, (y2, ()))))), ((((), ()), ((y3, ((), ((), ((), ((), ((), ())))))), ((), ()))), (((), ((), ((), ((), ())))), (y4, ((), (y5, ((), (y6, (y7, (y8, ())))))))))))) (fun y0 y1 y2 y3 y4 y5 y6 y7 y8 => kq (.exit 0) (Jdl.inst (((), ((), (y0, (y1, (y2, ()))))), ((((), ()), ((y3, ((), ((), ((), ((), ((), ())))))), ((), ()))), (((), ((), ((), ((), ())))), (y4, ((), (y5, ((), (y6, (y7, (y8, ())))))))))))) x.1.2.2.1 x.1.2.2.2.1 x.1.2.2.2.2.1 x.2.1.2.1.1 x.2.2.2.1 x.2.2.2.2.2.1 x.2.2.2.2.2.2.2.1 x.2.2.2.2.2.2.2.2.1 x.2.2.2.2.2.2.2.2.2.1
theorem J5v (Jfa : (ZD) → Bool) (Jdz : (ZD) → (ZL)) (Jdo : (ZD) → (List ZB)) (Jdm : (ZD) → Int) (Jct : ZB → Bool) (Jb5 : ZB → (List ZR)) (Jb6 : ZB → Int) (Je8 : ZB → Int → ZB → Bool) (Jcu : ZB → Int → ZB → ZB) (Jdd : ZB → Int → ZB → Int) (F : Nat) : Jbn prog (Jyt Jfa Jdz Jdo Jdm Jct Jb5 Jb6 Je8 Jcu Jdd F) F 69 0 1 Jdl (Khf Jfa Jdz Jdo Jdm Jct Jb5 Jb6 Je8 Jcu Jdd F) := fun d x KQ => by kernel_rfl
theorem Kpd (Jfa : (ZD) → Bool) (Jdz : (ZD) → (ZL)) (Jdo : (ZD) → (List ZB)) (Jdm : (ZD) → Int) (Jct : ZB → Bool) (Jb5 : ZB → (List ZR)) (Jb6 : ZB → Int) (Je8 : ZB → Int → ZB → Bool) (Jcu : ZB → Int → ZB → ZB) (Jdd : ZB → Int → ZB → Int) (F : Nat) (x : Jaz Jq7) (kend : List BV → ZO) : Jam prog (Jyt Jfa Jdz Jdo Jdm Jct Jb5 Jb6 Je8 Jcu Jdd F) F 20 14 (Jae Jq7 x) [.d (.pair (.int .i64) (.pair (.int .i64) (.pair (.int .i64) .unit))), .d (.slc (.slc (.pair (.int .i64) (.pair (.slc (.int .u8)) .unit)))), .d (.int .i64)] kend = Qgw Jfa Jdz Jdo Jdm Jct Jb5 Jb6 Je8 Jcu Jdd F x.1 x.2.1 none (fun y0 y1 y2 => kend [BV.d (.pair (.int .i64) (.pair (.int .i64) (.pair (.int .i64) .unit))) y0, BV.d (.slc (.slc (.pair (.int .i64) (.pair (.slc (.int .u8)) .unit)))) y1, BV.d (.int .i64) y2]) := by kernel_rfl
theorem Ket (F : Nat) : Jbn prog (Jvx F) F 69 0 1 Jdl (Kwm F) := J5v Jj9 Jry Jo2 Jo3 Jle Jfj Jfk J4a Jjn Jl5 F
theorem Kwp (F : Nat) : Jhk prog (Jvx F) F := Ja0 (l := J5u F) rfl (fa (Jal 0 (by kernel_rfl) (by kernel_rfl) (Jah (Ket F) (fun _ _ => rfl) (fun _ _ _ _ => rfl))) fz)
theorem K21 (F : Nat) (x : Jaz Jq7) (kend : List BV → ZO) : Jam prog (Jvx F) F 20 14 (Jae Jq7 x) [.d (.pair (.int .i64) (.pair (.int .i64) (.pair (.int .i64) .unit))), .d (.slc (.slc (.pair (.int .i64) (.pair (.slc (.int .u8)) .unit)))), .d (.int .i64)] kend = Kyy F x.1 x.2.1 none (fun y0 y1 y2 => kend [BV.d (.pair (.int .i64) (.pair (.int .i64) (.pair (.int .i64) .unit))) y0, BV.d (.slc (.slc (.pair (.int .i64) (.pair (.slc (.int .u8)) .unit)))) y1, BV.d (.int .i64) y2]) := Kpd Jj9 Jry Jo2 Jo3 Jle Jfj Jfk J4a Jjn Jl5 F x kend
theorem J79  : Jad prog 14 Ker := Jap (B0 := J3r) bkN bkG Jao bkT K21 (Jac (fa Kgw (fa J77 (fa Kgg fz)))) (by kernel_rfl) (fun _ => rfl) Kwp (fun x h => (Knn x.1 x.2.1 h).elim fun F hF => ⟨F, fun kend => hF none _⟩)
end Go.AI
namespace Go.AI
open Go
open Go.Proofs.Tryz (prog)
set_option linter.unusedVariables false
@[reducible] def J9p  : List PM := [.d (.int .i64)]
def Kwq  : Orc := Orc.of J9p true 0 fun x => (true, [.d (.int .i64) (Jpq x.1)])
def Kkk  : List (FuncId × Orc) := []
theorem Qgx (F : Nat) (x : Jaz J9p) (kend : List BV → ZO) : Jam prog (bkZ Kkk) F 20 81 (Jae J9p x) [.d (.int .i64)] kend = Qmi F x.1 none (fun y0 => kend [BV.d (.int .i64) y0]) := by kernel_rfl
theorem Khg  : Jad prog 81 Kwq := Jap (B0 := bkY Kkk) bkN bkG Jao bkT Qgx (Jac fz) (by kernel_rfl) (fun _ => rfl) (bkO _) (fun x _ => (Kzy x.1).elim fun F hF => ⟨F, fun kend => hF none _⟩)
@[reducible] def Jm4  : List PM := [.d (.slc (.int .u8))]
def Keu  : Orc := Orc.of Jm4 false 0 fun x => (Jlf x.1, [.d (.slc (.pair (.int .i64) (.pair (.slc (.int .u8)) .unit))) (Jfl x.1), .d (.int .i64) (Jdf x.1)])
@[reducible] def Jcm  : Tpl := { cur := ⟨[(0, .row 0), (1, .nils), (0, .var (.int .i64)), (0, .var (.int .i64)), (1, .row 1), (0, .var (.int .i64))], 53⟩, stk := [⟨[], 0⟩], heap := [.row 5 (.int .u8) false, .row 66 (.pair (.int .i64) (.pair (.slc (.int .u8)) .unit)) false] }
def Kwr  : List (FuncId × Orc) := [(80, Jsu), (81, Kwq), (82, Jva)]
def J3s  : Book := { Γ := gam, orc := Jbc Kwr, hint := Jav [(35, { keep := some [0, 2, 3, 4, 6, 7], keeps := [(10, [0, 2, 3, 4, 6, 7])], own := [(6, 25)], dat := [], stk := [] })] }
def Kws (F : Nat) (nx : Jcm.T → ZO) (kq : ZK) (x : Jcm.T) : ZO := Jxh F none (fun s3 n i b out => nx (((), ((), (s3, (n, ((), (i, ())))))), (((), ()), (b, (out, ()))))) (fun y0 y1 y2 y3 y4 => kq .ret (Jcm.inst (((), ((), (y0, (y1, ((), (y2, ())))))), (((), ()), (y3, (y4, ())))))) (fun y0 y1 y2 y3 y4 => kq (.exit 0) (Jcm.inst (((), ((), (y0, (y1, ((), (y2, ())))))), (((), ()), (y3, (y4, ())))))) x.1.2.2.1 x.1.2.2.2.1 x.1.2.2.2.2.2.1 x.2.2.1 x.2.2.2.1
def Kwt (F m : Nat) (x : Jcm.T) (kq : ZK) : ZO := Jie F none (fun y0 y1 y2 y3 y4 => kq .ret (Jcm.inst (((), ((), (y0, (y1, ((), (y2, ())))))), (((), ()), (y3, (y4, ())))))) (fun y0 y1 y2 y3 y4 => kq (.exit 0) (Jcm.inst (((), ((), (y0, (y1, ((), (y2, ())))))), (((), ()), (y3, (y4, ())))))) m x.1.2.2.1 x.1.2.2.2.1 x.1.2.2.2.2.2.1 x.2.2.1 x.2.2.2.1
def J5w (F : Nat) : List (LoE Unit) := [⟨35, 10, LO.of Jcm (Kwt F F)⟩]
def Jvy (F : Nat) : Jbu Unit := { toBook := J3s, lo := Jcf (J5w F), need := Jaw [] }
def Kwu (Jb0 : ZB → Bool) (Jar : ZB → Int) (Jan : ZB → ZB) (Jba : ZB → Int) (Jei : Int → Int) (Jbi : ZB → Bool) (Ja3 Ja2 : ZB → ZB) (Ja1 : ZB → Int) {X : Type} (F : Nat) (fail : X) (next ex0 ex1 : Int → Int → Int → ZB → List ZR → X) (s3 n i : Int) (b : ZB) (out : List ZR) : X :=
 bif (decide (i < n)) then
  bif (Jb0 b) then
  bif ((Jba b) == (0 : Int)) then
   bif ((Jei (Jar b)) == (0 : Int)) then
    bif (Jbi (Jan b)) then
    bif ((Ja1 (Jan b)) != (0 : Int)) then
     ex0 (Ja1 (Jan b)) n i (Ja2 (Jan b)) out
    else
    bif (decide ((out ++ ([((Jar b), ((Ja3 (Jan b)), ()))] : List ZR)).length ≤ big)) then
    next s3 n (Jag i (1 : Int)) (Ja2 (Jan b)) (out ++ ([((Jar b), ((Ja3 (Jan b)), ()))] : List ZR))
    else fail
    else fail
   else
   bif ((Jei (Jar b)) != (0 : Int)) then
    ex0 (Jei (Jar b)) n i (Jan b) out
   else
   bif (decide ((out ++ ([((Jar b), (([] : ZB), ()))] : List ZR)).length ≤ big)) then
   next s3 n (Jag i (1 : Int)) (Jan b) (out ++ ([((Jar b), (([] : ZB), ()))] : List ZR))
   else fail
  else
  bif ((Jba b) == (0 : Int)) then
   bif (Jbi (Jan b)) then
   bif ((Ja1 (Jan b)) != (0 : Int)) then
    ex0 (Ja1 (Jan b)) n i (Ja2 (Jan b)) out
   else
   bif (decide ((out ++ ([((Jar b), ((Ja3 (Jan b)), ()))] : List ZR)).length ≤ big)) then
   next s3 n (Jag i (1 : Int)) (Ja2 (Jan b)) (out ++ ([((Jar b), ((Ja3 (Jan b)), ()))] : List ZR))
   else fail
   else fail
  else
  bif ((Jba b) != (0 : Int)) then
   ex0 (Jba b) n i (Jan b) out
  else
  bif (decide ((out ++ ([((Jar b), (([] : ZB), ()))] : List ZR)).length ≤ big)) then
  next s3 n (Jag i (1 : Int)) (Jan b) (out ++ ([((Jar b), (([] : ZB), ()))] : List ZR))
  else fail
  else fail
 else
 ex1 s3 n i b out
def Qgy (Jb0 : ZB → Bool) (Jar : ZB → Int) (Jan : ZB → ZB) (Jba : ZB → Int) (Jei : Int → Int) (Jbi : ZB → Bool) (Ja3 Ja2 : ZB → ZB) (Ja1 : ZB → Int) {X : Type} (F : Nat) (b : ZB) (fail : X) (ret : List ZR → Int → X) : X :=
 bif (decide (((b.length : Nat) : Int) > (65536 : Int))) then
  ret ([] : List ZR) (5 : Int)
 else
 bif (Jb0 b) then
 bif ((Jba b) != (0 : Int)) then
  ret ([] : List ZR) (Jba b)
 else
 bif (decide ((Jar b) > (1024 : Int))) then
  ret ([] : List ZR) (6 : Int)
 else
 Jie F fail
  (fun (s3 : Int) (n : Int) (i : Int) (b1 : ZB) (out : List ZR) =>
   ret ([] : List ZR) s3)
  (fun (s31 : Int) (n1 : Int) (i1 : Int) (b2 : ZB) (out1 : List ZR) =>
   bif (decide (((b2.length : Nat) : Int) > (0 : Int))) then
    ret ([] : List ZR) (3 : Int)
   else
   ret out1 (0 : Int))
  F (0 : Int) (Jar b) (0 : Int) (Jan b) ([] : List ZR)
 else fail
def Khh (Jb0 : ZB → Bool) (Jar : ZB → Int) (Jan : ZB → ZB) (Jba : ZB → Int) (Jei : Int → Int) (Jbi : ZB → Bool) (Ja3 Ja2 : ZB → ZB) (Ja1 : ZB → Int) : List (FuncId × Orc) := [(80, Orc.of Jpj true 1 fun x => (Jb0 x.1, [.d (.int .i64) (Jar x.1), .o 5 (.int .u8) (Jan x.1), .d (.int .i64) (Jba x.1)])), (81, Orc.of J9p true 0 fun x => (true, [.d (.int .i64) (Jei x.1)])), (82, Orc.of Jkz true 2 fun x => (Jbi x.1, [.o 5 (.int .u8) (Ja3 x.1), .o 5 (.int .u8) (Ja2 x.1), .d (.int .i64) (Ja1 x.1)]))]
def Kev (Jb0 : ZB → Bool) (Jar : ZB → Int) (Jan : ZB → ZB) (Jba : ZB → Int) (Jei : Int → Int) (Jbi : ZB → Bool) (Ja3 Ja2 : ZB → ZB) (Ja1 : ZB → Int) : Book := { Γ := gam, orc := Jbc (Khh Jb0 Jar Jan Jba Jei Jbi Ja3 Ja2 Ja1), hint := Jav [(35, { keep := some [0, 2, 3, 4, 6, 7], keeps := [(10, [0, 2, 3, 4, 6, 7])], own := [(6, 25)], dat := [], stk := [] })] }
def Jyu (Jb0 : ZB → Bool) (Jar : ZB → Int) (Jan : ZB → ZB) (Jba : ZB → Int) (Jei : Int → Int) (Jbi : ZB → Bool) (Ja3 Ja2 : ZB → ZB) (Ja1 : ZB → Int) (F : Nat) : Jbu Unit := { toBook := Kev Jb0 Jar Jan Jba Jei Jbi Ja3 Ja2 Ja1, lo := Jcf (J5w F), need := Jaw [] }
def Khi (Jb0 : ZB → Bool) (Jar : ZB → Int) (Jan : ZB → ZB) (Jba : ZB → Int) (Jei : Int → Int) (Jbi : ZB → Bool) (Ja3 Ja2 : ZB → ZB) (Ja1 : ZB → Int) (F : Nat) (nx : Jcm.T → ZO) (kq : ZK) (x : Jcm.T) : ZO := Kwu Jb0 Jar Jan Jba Jei Jbi Ja3 Ja2 Ja1 F none (fun s3 n i b out => nx (((), ((), (s3, (n, ((), (i, ())))))), (((), ()), (b, (out, ()))))) (fun y0 y1 y2 y3 y4 => kq .ret (Jcm.inst (((), ((), (y0, (y1, ((), (y2, ())))))), (((), ()), (y3, (y4, ())))))) (fun y0 y1 y2 y3 y4 => kq (.exit 0) (Jcm.inst (((), ((), (y0, (y1, ((), (y2, ())))))), (((), ()), (y3, (y4, ())))))) x.1.2.2.1 x.1.2.2.2.1 x.1.2.2.2.2.2.1 x.2.2.1 x.2.2.2.1
theorem J5x (Jb0 : ZB → Bool) (Jar : ZB → Int) (Jan : ZB → ZB) (Jba : ZB → Int) (Jei : Int → Int) (Jbi : ZB → Bool) (Ja3 Ja2 : ZB → ZB) (Ja1 : ZB → Int) (F : Nat) : Jbn prog (Jyu Jb0 Jar Jan Jba Jei Jbi Ja3 Ja2 Ja1 F) F 35 0 10 Jcm (Khi Jb0 Jar Jan Jba Jei Jbi Ja3 Ja2 Ja1 F) := fun d x KQ => by kernel_rfl
theorem Kpe (Jb0 : ZB → Bool) (Jar : ZB → Int) (Jan : ZB → ZB) (Jba : ZB → Int) (Jei : Int → Int) (Jbi : ZB → Bool) (Ja3 Ja2 : ZB → ZB) (Ja1 : ZB → Int) (F : Nat) (x : Jaz Jm4) (kend : List BV → ZO) : Jam prog (Jyu Jb0 Jar Jan Jba Jei Jbi Ja3 Ja2 Ja1 F) F 20 35 (Jae Jm4 x) [.d (.slc (.pair (.int .i64) (.pair (.slc (.int .u8)) .unit))), .d (.int .i64)] kend = Qgy Jb0 Jar Jan Jba Jei Jbi Ja3 Ja2 Ja1 F x.1 none (fun y0 y1 => kend [BV.d (.slc (.pair (.int .i64) (.pair (.slc (.int .u8)) .unit))) y0, BV.d (.int .i64) y1]) := by kernel_rfl
theorem Kew (F : Nat) : Jbn prog (Jvy F) F 35 0 10 Jcm (Kws F) := J5x Jec Ja7 Jay Jbz Jpq Jes Jcx Jcy Jcz F
theorem Kwv (F : Nat) : Jhk prog (Jvy F) F := Ja0 (l := J5w F) rfl (fa (Jal 0 (by kernel_rfl) (by kernel_rfl) (Jah (Kew F) (fun _ _ => rfl) (fun _ _ _ _ => rfl))) fz)
theorem K22 (F : Nat) (x : Jaz Jm4) (kend : List BV → ZO) : Jam prog (Jvy F) F 20 35 (Jae Jm4 x) [.d (.slc (.pair (.int .i64) (.pair (.slc (.int .u8)) .unit))), .d (.int .i64)] kend = Kyw F x.1 none (fun y0 y1 => kend [BV.d (.slc (.pair (.int .i64) (.pair (.slc (.int .u8)) .unit))) y0, BV.d (.int .i64) y1]) := Kpe Jec Ja7 Jay Jbz Jpq Jes Jcx Jcy Jcz F x kend
theorem J8a  : Jad prog 35 Keu := Jap (B0 := J3s) bkN bkG Jao bkT K22 (Jac (fa Jpk (fa Khg (fa Jx4 fz)))) (by kernel_rfl) (fun _ => rfl) Kwv (fun x h => (Knk x.1 h).elim fun F hF => ⟨F, fun kend => hF none _⟩)
end Go.AI
namespace Go.AI
open Go
open Go.Proofs.Tryz (prog)
set_option linter.unusedVariables false
@[reducible] def Jq8  : List PM := [.d (.pair (.slc (.arr 16 (.int .u8))) (.pair (.slc (.pair (.int .i64) (.pair (.arr 16 (.int .u8)) .unit))) .unit)), .d (.slc (.int .u8))]
def Kex  : Orc := Orc.of Jq8 false 0 fun x => (J1t x.1 x.2.1, [.d (.pair (.int .i64) (.pair (.int .i64) (.pair (.int .i64) .unit))) (Jwt x.1 x.2.1), .d (.slc (.slc (.pair (.int .i64) (.pair (.slc (.int .u8)) .unit)))) (Jqh x.1 x.2.1), .d (.int .i64) (Jwu x.1 x.2.1)])
@[reducible] def Jcn  : Tpl := { cur := ⟨[(1, .var (.slc (.int .u8))), (2, .ptr 0 []), (0, .nils), (0, .var (.int .i64)), (0, .ptr 1 []), (0, .var (.slc (.slc (.int .u8)))), (0, .var (.int .i64)), (0, .row 2), (0, .var (.int .i64))], 54⟩, stk := [⟨[], 0⟩], heap := [.box (.var (.pair (.int .i64) (.pair (.int .i64) (.pair (.int .i64) .unit)))), .box (.var (.pair (.int .i64) (.pair (.int .i64) (.pair (.int .i64) .unit)))), .row 25 (.slc (.pair (.int .i64) (.pair (.slc (.int .u8)) .unit))) false] }
def Kww  : List (FuncId × Orc) := [(20, Kuy), (34, Kv3), (35, Keu)]
def J3t  : Book := { Γ := gam, orc := Jbc Kww, hint := Jav [(15, { keep := some [1, 4, 5, 6, 7, 8, 9, 10, 11], keeps := [(8, [1, 4, 5, 6, 7, 8, 9, 10, 11])], own := [(10, 41)], dat := [], stk := [] })] }
def Kwx (F : Nat) (nx : Jcn.T → ZO) (kq : ZK) (x : Jcn.T) : ZO := Jxj F none (fun key s6 payloads e_ i s4 l out => nx ((key, ((), ((), (s6, ((), (payloads, (e_, ((), (i, ()))))))))), (((), ()), (s4, (l, (out, ())))))) (fun y0 y1 y2 y3 y4 y5 y6 y7 => kq .ret (Jcn.inst ((y0, ((), ((), (y1, ((), (y2, (y3, ((), (y4, ()))))))))), (((), ()), (y5, (y6, (y7, ()))))))) (fun y0 y1 y2 y3 y4 y5 y6 y7 => kq (.exit 0) (Jcn.inst ((y0, ((), ((), (y1, ((), (y2, (y3, ((), (y4, ()))))))))), (((), ()), (y5, (y6, (y7, ()))))))) x.1.1 x.1.2.2.2.1 x.1.2.2.2.2.2.1 x.1.2.2.2.2.2.2.1 x.1.2.2.2.2.2.2.2.2.1 x.2.2.1 x.2.2.2.1 x.2.2.2.2.1
def Kwy (F m : Nat) (x : Jcn.T) (kq : ZK) : ZO := Jig F none (fun y0 y1 y2 y3 y4 y5 y6 y7 => kq .ret (Jcn.inst ((y0, ((), ((), (y1, ((), (y2, (y3, ((), (y4, ()))))))))), (((), ()), (y5, (y6, (y7, ()))))))) (fun y0 y1 y2 y3 y4 y5 y6 y7 => kq (.exit 0) (Jcn.inst ((y0, ((), ((), (y1, ((), (y2, (y3, ((), (y4, ()))))))))), (((), ()), (y5, (y6, (y7, ()))))))) m x.1.1 x.1.2.2.2.1 x.1.2.2.2.2.2.1 x.1.2.2.2.2.2.2.1 x.1.2.2.2.2.2.2.2.2.1 x.2.2.1 x.2.2.2.1 x.2.2.2.2.1
def J5y (F : Nat) : List (LoE Unit) := [⟨15, 8, LO.of Jcn (Kwy F F)⟩]
def Jvz (F : Nat) : Jbu Unit := { toBook := J3t, lo := Jcf (J5y F), need := Jaw [] }
def Kwz (Je9 : ZB → Int → ZB → Bool) (Jci : ZB → Int → ZB → ZB) (Jcr : ZB → Int → ZB → Int) (Jfb : (ZD) → Bool) (Jd0 : (ZD) → (ZL)) (Jdy : (ZD) → (List ZB)) (Jde : (ZD) → Int) (Jcs : ZB → Bool) (Jb4 : ZB → (List ZR)) (Jbl : ZB → Int) {X : Type} (F : Nat) (fail : X) (next ex0 ex1 : ZB → Int → List ZB → Int → Int → ZL → ZL → List (List ZR) → X) (key : ZB) (s6 : Int) (payloads : List ZB) (e_ i : Int) (s4 l : ZL) (out : List (List ZR)) : X :=
 bif (decide (i < ((payloads.length : Nat) : Int))) then
  bif ((decide ((0 : Int) ≤ i)) && (decide (i < ((payloads.length : Nat) : Int)))) then
  bif (decide (((key.length : Nat) : Int) > (0 : Int))) then
   bif (Je9 key (Jag i (1 : Int)) (List.getD payloads (i).toNat ([] : ZB))) then
   bif ((Jcr key (Jag i (1 : Int)) (List.getD payloads (i).toNat ([] : ZB))) == (0 : Int)) then
    bif (Jcs (Jci key (Jag i (1 : Int)) (List.getD payloads (i).toNat ([] : ZB)))) then
    bif ((Jbl (Jci key (Jag i (1 : Int)) (List.getD payloads (i).toNat ([] : ZB)))) != (0 : Int)) then
     ex0 key (Jbl (Jci key (Jag i (1 : Int)) (List.getD payloads (i).toNat ([] : ZB)))) payloads (Jbl (Jci key (Jag i (1 : Int)) (List.getD payloads (i).toNat ([] : ZB)))) i ((0 : Int), ((0 : Int), ((0 : Int), ()))) l out
    else
    bif (decide ((out ++ ([(Jb4 (Jci key (Jag i (1 : Int)) (List.getD payloads (i).toNat ([] : ZB))))] : List (List ZR))).length ≤ big)) then
    next key s6 payloads (Jbl (Jci key (Jag i (1 : Int)) (List.getD payloads (i).toNat ([] : ZB)))) (Jag i (1 : Int)) s4 l (out ++ ([(Jb4 (Jci key (Jag i (1 : Int)) (List.getD payloads (i).toNat ([] : ZB))))] : List (List ZR)))
    else fail
    else fail
   else
   bif ((Jcr key (Jag i (1 : Int)) (List.getD payloads (i).toNat ([] : ZB))) != (0 : Int)) then
    ex0 key (Jcr key (Jag i (1 : Int)) (List.getD payloads (i).toNat ([] : ZB))) payloads (Jcr key (Jag i (1 : Int)) (List.getD payloads (i).toNat ([] : ZB))) i ((0 : Int), ((0 : Int), ((0 : Int), ()))) l out
   else
   bif (decide ((out ++ ([([] : List ZR)] : List (List ZR))).length ≤ big)) then
   next key s6 payloads (Jcr key (Jag i (1 : Int)) (List.getD payloads (i).toNat ([] : ZB))) (Jag i (1 : Int)) s4 l (out ++ ([([] : List ZR)] : List (List ZR)))
   else fail
   else fail
  else
  bif (e_ == (0 : Int)) then
   bif (Jcs (List.getD payloads (i).toNat ([] : ZB))) then
   bif ((Jbl (List.getD payloads (i).toNat ([] : ZB))) != (0 : Int)) then
    ex0 key (Jbl (List.getD payloads (i).toNat ([] : ZB))) payloads (Jbl (List.getD payloads (i).toNat ([] : ZB))) i ((0 : Int), ((0 : Int), ((0 : Int), ()))) l out
   else
   bif (decide ((out ++ ([(Jb4 (List.getD payloads (i).toNat ([] : ZB)))] : List (List ZR))).length ≤ big)) then
   next key s6 payloads (Jbl (List.getD payloads (i).toNat ([] : ZB))) (Jag i (1 : Int)) s4 l (out ++ ([(Jb4 (List.getD payloads (i).toNat ([] : ZB)))] : List (List ZR)))
   else fail
   else fail
  else
  bif (e_ != (0 : Int)) then
   ex0 key e_ payloads e_ i ((0 : Int), ((0 : Int), ((0 : Int), ()))) l out
  else
  bif (decide ((out ++ ([([] : List ZR)] : List (List ZR))).length ≤ big)) then
  next key s6 payloads e_ (Jag i (1 : Int)) s4 l (out ++ ([([] : List ZR)] : List (List ZR)))
  else fail
  else fail
 else
 ex1 key s6 payloads e_ i s4 l out
def Qgz (Je9 : ZB → Int → ZB → Bool) (Jci : ZB → Int → ZB → ZB) (Jcr : ZB → Int → ZB → Int) (Jfb : (ZD) → Bool) (Jd0 : (ZD) → (ZL)) (Jdy : (ZD) → (List ZB)) (Jde : (ZD) → Int) (Jcs : ZB → Bool) (Jb4 : ZB → (List ZR)) (Jbl : ZB → Int) {X : Type} (F : Nat) (d_ : ZD) (key : ZB) (fail : X) (ret : ZL → List (List ZR) → Int → X) : X :=
 bif (Jfb d_) then
 bif ((Jde d_) != (0 : Int)) then
  ret ((0 : Int), ((0 : Int), ((0 : Int), ()))) ([] : List (List ZR)) (Jde d_)
 else
 bif (decide (((key.length : Nat) : Int) > (64 : Int))) then
  ret ((0 : Int), ((0 : Int), ((0 : Int), ()))) ([] : List (List ZR)) (1 : Int)
 else
 Jig F fail
  (fun (Jtr : ZB) (s6 : Int) (payloads : List ZB) (e_ : Int) (i : Int) (s4 : ZL) (l : ZL) (out : List (List ZR)) =>
   ret s4 ([] : List (List ZR)) s6)
  (fun (key2 : ZB) (s61 : Int) (payloads1 : List ZB) (e_1 : Int) (i1 : Int) (s41 : ZL) (l1 : ZL) (out1 : List (List ZR)) =>
   ret l1 out1 (0 : Int))
  F key (0 : Int) (Jdy d_) (Jde d_) (0 : Int) ((0 : Int), ((0 : Int), ((0 : Int), ()))) (Jd0 d_) ([] : List (List ZR))
 else fail
def Khj (Je9 : ZB → Int → ZB → Bool) (Jci : ZB → Int → ZB → ZB) (Jcr : ZB → Int → ZB → Int) (Jfb : (ZD) → Bool) (Jd0 : (ZD) → (ZL)) (Jdy : (ZD) → (List ZB)) (Jde : (ZD) → Int) (Jcs : ZB → Bool) (Jb4 : ZB → (List ZR)) (Jbl : ZB → Int) : List (FuncId × Orc) := [(20, Orc.of J9m true 1 fun x => (Je9 x.1 x.2.1 x.2.2.1, [.o 5 (.int .u8) (Jci x.1 x.2.1 x.2.2.1), .d (.int .i64) (Jcr x.1 x.2.1 x.2.2.1)])), (34, Orc.of J9o false 0 fun x => (Jfb x.1, [.d (.pair (.int .i64) (.pair (.int .i64) (.pair (.int .i64) .unit))) (Jd0 x.1), .d (.slc (.slc (.int .u8))) (Jdy x.1), .d (.int .i64) (Jde x.1)])), (35, Orc.of Jm4 false 0 fun x => (Jcs x.1, [.d (.slc (.pair (.int .i64) (.pair (.slc (.int .u8)) .unit))) (Jb4 x.1), .d (.int .i64) (Jbl x.1)]))]
def Key (Je9 : ZB → Int → ZB → Bool) (Jci : ZB → Int → ZB → ZB) (Jcr : ZB → Int → ZB → Int) (Jfb : (ZD) → Bool) (Jd0 : (ZD) → (ZL)) (Jdy : (ZD) → (List ZB)) (Jde : (ZD) → Int) (Jcs : ZB → Bool) (Jb4 : ZB → (List ZR)) (Jbl : ZB → Int) : Book := { Γ := gam, orc := Jbc (Khj Je9 Jci Jcr Jfb Jd0 Jdy Jde Jcs Jb4 Jbl), hint := Jav [(15, { keep := some [1, 4, 5, 6, 7, 8, 9, 10, 11], keeps := [(8, [1, 4, 5, 6, 7, 8, 9, 10, 11])], own := [(10, 41)], dat := [], stk := [] })] }
def Jyv (Je9 : ZB → Int → ZB → Bool) (Jci : ZB → Int → ZB → ZB) (Jcr : ZB → Int → ZB → Int) (Jfb : (ZD) → Bool) (Jd0 : (ZD) → (ZL)) (Jdy : (ZD) → (List ZB)) (Jde : (ZD) → Int) (Jcs : ZB → Bool) (Jb4 : ZB → (List ZR)) (Jbl : ZB → Int) (F : Nat) : Jbu Unit := { toBook := Key Je9 Jci Jcr Jfb Jd0 Jdy Jde Jcs Jb4 Jbl, lo := Jcf (J5y F), need := Jaw [] }
def Khk (Je9 : ZB → Int → ZB → Bool) (Jci : ZB → Int → ZB → ZB) (Jcr : ZB → Int → ZB → Int) (Jfb : (ZD) → Bool) (Jd0 : (ZD) → (ZL)) (Jdy : (ZD) → (List ZB)) (Jde : (ZD) → Int) (Jcs : ZB → Bool) (Jb4 : ZB → (List ZR)) (Jbl : ZB → Int) (F : Nat) (nx : Jcn.T → ZO) (kq : ZK) (x : Jcn.T) : ZO := Kwz Je9 Jci Jcr Jfb Jd0 Jdy Jde Jcs Jb4 Jbl F none (fun key s6 payloads e_ i s4 l out => nx ((key, ((), ((), (s6, ((), (payloads, (e_, ((), (i, ()))))))))), (((), ()), (s4, (l, (out, ())))))) (fun y0 y1 y2 y3 y4 y5 y6 y7 => kq .ret (Jcn.inst ((y0, ((), ((), (y1, ((), (y2, (y3, ((), (y4, ()))))))))), (((), ()), (y5, (y6, (y7, ()))))))) (fun y0 y1 y2 y3 y4 y5 y6 y7 => kq (.exit 0) (Jcn.inst ((y0, ((), ((), (y1, ((), (y2, (y3, ((), (y4, ()))))))))), (((), ()), (y5, (y6, (y7, ()))))))) x.1.1 x.1.2.2.2.1 x.1.2.2.2.2.2.1 x.1.2.2.2.2.2.2.1 x.1.2.2.2.2.2.2.2.2.1 x.2.2.1 x.2.2.2.1 x.2.2.2.2.1
theorem J5z (Je9 : ZB → Int → ZB → Bool) (Jci : ZB → Int → ZB → ZB) (Jcr : ZB → Int → ZB → Int) (Jfb : (ZD) → Bool) (Jd0 : (ZD) → (ZL)) (Jdy : (ZD) → (List ZB)) (Jde : (ZD) → Int) (Jcs : ZB → Bool) (Jb4 : ZB → (List ZR)) (Jbl : ZB → Int) (F : Nat) : Jbn prog (Jyv Je9 Jci Jcr Jfb Jd0 Jdy Jde Jcs Jb4 Jbl F) F 15 0 8 Jcn (Khk Je9 Jci Jcr Jfb Jd0 Jdy Jde Jcs Jb4 Jbl F) := fun d x KQ => by kernel_rfl
theorem Kpf (Je9 : ZB → Int → ZB → Bool) (Jci : ZB → Int → ZB → ZB) (Jcr : ZB → Int → ZB → Int) (Jfb : (ZD) → Bool) (Jd0 : (ZD) → (ZL)) (Jdy : (ZD) → (List ZB)) (Jde : (ZD) → Int) (Jcs : ZB → Bool) (Jb4 : ZB → (List ZR)) (Jbl : ZB → Int) (F : Nat) (x : Jaz Jq8) (kend : List BV → ZO) : Jam prog (Jyv Je9 Jci Jcr Jfb Jd0 Jdy Jde Jcs Jb4 Jbl F) F 20 15 (Jae Jq8 x) [.d (.pair (.int .i64) (.pair (.int .i64) (.pair (.int .i64) .unit))), .d (.slc (.slc (.pair (.int .i64) (.pair (.slc (.int .u8)) .unit)))), .d (.int .i64)] kend = Qgz Je9 Jci Jcr Jfb Jd0 Jdy Jde Jcs Jb4 Jbl F x.1 x.2.1 none (fun y0 y1 y2 => kend [BV.d (.pair (.int .i64) (.pair (.int .i64) (.pair (.int .i64) .unit))) y0, BV.d (.slc (.slc (.pair (.int .i64) (.pair (.slc (.int .u8)) .unit)))) y1, BV.d (.int .i64) y2]) := by kernel_rfl
theorem Kez (F : Nat) : Jbn prog (Jvz F) F 15 0 8 Jcn (Kwx F) := J5z J4c Jho Jjr Jzj Jrz Jr0 Jl8 Jlf Jfl Jdf F
theorem Kw0 (F : Nat) : Jhk prog (Jvz F) F := Ja0 (l := J5y F) rfl (fa (Jal 0 (by kernel_rfl) (by kernel_rfl) (Jah (Kez F) (fun _ _ => rfl) (fun _ _ _ _ => rfl))) fz)
theorem K23 (F : Nat) (x : Jaz Jq8) (kend : List BV → ZO) : Jam prog (Jvz F) F 20 15 (Jae Jq8 x) [.d (.pair (.int .i64) (.pair (.int .i64) (.pair (.int .i64) .unit))), .d (.slc (.slc (.pair (.int .i64) (.pair (.slc (.int .u8)) .unit)))), .d (.int .i64)] kend = Kyz F x.1 x.2.1 none (fun y0 y1 y2 => kend [BV.d (.pair (.int .i64) (.pair (.int .i64) (.pair (.int .i64) .unit))) y0, BV.d (.slc (.slc (.pair (.int .i64) (.pair (.slc (.int .u8)) .unit)))) y1, BV.d (.int .i64) y2]) := Kpf J4c Jho Jjr Jzj Jrz Jr0 Jl8 Jlf Jfl Jdf F x kend
theorem J8b  : Jad prog 15 Kex := Jap (B0 := J3t) bkN bkG Jao bkT K23 (Jac (fa Kgi (fa Kg6 (fa J8a fz)))) (by kernel_rfl) (fun _ => rfl) Kw0 (fun x h => (Kno x.1 x.2.1 h).elim fun F hF => ⟨F, fun kend => hF none _⟩)
end Go.AI
namespace Go.AI
open Go
open Go.Proofs.Tryz (prog)
set_option linter.unusedVariables false
@[reducible] def Kpg  : List PM := [.d (.slc (.pair (.int .i64) (.pair (.slc (.int .u8)) .unit))), .d (.slc (.pair (.int .i64) (.pair (.slc (.int .u8)) .unit)))]
def Kw1  : Orc := Orc.of Kpg true 0 fun x => (Klu x.1 x.2.1, [.d .bool (Ka5 x.1 x.2.1)])
@[reducible] def Jhu  : Tpl := { cur := ⟨[(0, .var (.slc (.pair (.int .i64) (.pair (.slc (.int .u8)) .unit)))), (0, .var (.slc (.pair (.int .i64) (.pair (.slc (.int .u8)) .unit)))), (2, .var .bool), (0, .var (.int .i64))], 37⟩, stk := [⟨[], 0⟩], heap := [] }
def K9g  : List (FuncId × Orc) := []
def Ke0  : Book := { Γ := gam, orc := Jbc K9g, hint := Jav [(36, { keep := some [0, 1, 4, 5], keeps := [(4, [0, 1, 4, 5])], own := [], dat := [], stk := [] })] }
def K9h (F : Nat) (nx : Jhu.T → ZO) (kq : ZK) (x : Jhu.T) : ZO := J9a F none (fun a b s4 i => nx ((a, (b, (s4, (i, ())))), (((), ()), ()))) (fun y0 y1 y2 y3 => kq .ret (Jhu.inst ((y0, (y1, (y2, (y3, ())))), (((), ()), ())))) (fun y0 y1 y2 y3 => kq (.exit 0) (Jhu.inst ((y0, (y1, (y2, (y3, ())))), (((), ()), ())))) x.1.1 x.1.2.1 x.1.2.2.1 x.1.2.2.2.1
def K9i (F m : Nat) (x : Jhu.T) (kq : ZK) : ZO := Jqu F none (fun y0 y1 y2 y3 => kq .ret (Jhu.inst ((y0, (y1, (y2, (y3, ())))), (((), ()), ())))) (fun y0 y1 y2 y3 => kq (.exit 0) (Jhu.inst ((y0, (y1, (y2, (y3, ())))), (((), ()), ())))) m x.1.1 x.1.2.1 x.1.2.2.1 x.1.2.2.2.1
def K51 (F : Nat) : List (LoE Unit) := [⟨36, 4, LO.of Jhu (K9i F F)⟩]
def J50 (F : Nat) : Jbu Unit := { toBook := Ke0, lo := Jcf (K51 F), need := Jaw [] }
theorem Kph (F : Nat) : Jbn prog (J50 F) F 36 0 4 Jhu (K9h F) := fun d x KQ => by kernel_rfl
theorem K9j (F : Nat) : Jhk prog (J50 F) F := Ja0 (l := K51 F) rfl (fa (Jal 0 (by kernel_rfl) (by kernel_rfl) (Jah (Kph F) (fun _ _ => rfl) (fun _ _ _ _ => rfl))) fz)
theorem Qg0 (F : Nat) (x : Jaz Kpg) (kend : List BV → ZO) : Jam prog (J50 F) F 20 36 (Jae Kpg x) [.d .bool] kend = Qmj F x.1 x.2.1 none (fun y0 => kend [BV.d .bool y0]) := by kernel_rfl
theorem Khl  : Jad prog 36 Kw1 := Jap (B0 := Ke0) bkN bkG Jao bkT Qg0 (Jac fz) (by kernel_rfl) (fun _ => rfl) K9j (fun x h => (Kzz x.1 x.2.1 h).elim fun F hF => ⟨F, fun kend => hF none _⟩)
@[reducible] def J0g  : List PM := [.d (.slc (.slc (.pair (.int .i64) (.pair (.slc (.int .u8)) .unit)))), .d (.slc (.slc (.pair (.int .i64) (.pair (.slc (.int .u8)) .unit))))]
def J66  : Orc := Orc.of J0g true 0 fun x => (Jwp x.1 x.2.1, [.d .bool (Jwq x.1 x.2.1)])
@[reducible] def Jd4  : Tpl := { cur := ⟨[(0, .var (.slc (.slc (.pair (.int .i64) (.pair (.slc (.int .u8)) .unit))))), (0, .var (.slc (.slc (.pair (.int .i64) (.pair (.slc (.int .u8)) .unit))))), (2, .var .bool), (0, .var (.int .i64))], 21⟩, stk := [⟨[], 0⟩], heap := [] }
def Kpi  : List (FuncId × Orc) := [(36, Kw1)]
def Jyw  : Book := { Γ := gam, orc := Jbc Kpi, hint := Jav [(16, { keep := some [0, 1, 4, 5], keeps := [(4, [0, 1, 4, 5])], own := [], dat := [], stk := [] })] }
def Kpj (F : Nat) (nx : Jd4.T → ZO) (kq : ZK) (x : Jd4.T) : ZO := Jsg F none (fun a b s4 i => nx ((a, (b, (s4, (i, ())))), (((), ()), ()))) (fun y0 y1 y2 y3 => kq .ret (Jd4.inst ((y0, (y1, (y2, (y3, ())))), (((), ()), ())))) (fun y0 y1 y2 y3 => kq (.exit 0) (Jd4.inst ((y0, (y1, (y2, (y3, ())))), (((), ()), ())))) x.1.1 x.1.2.1 x.1.2.2.1 x.1.2.2.2.1
def Kpk (F m : Nat) (x : Jd4.T) (kq : ZK) : ZO := Jje F none (fun y0 y1 y2 y3 => kq .ret (Jd4.inst ((y0, (y1, (y2, (y3, ())))), (((), ()), ())))) (fun y0 y1 y2 y3 => kq (.exit 0) (Jd4.inst ((y0, (y1, (y2, (y3, ())))), (((), ()), ())))) m x.1.1 x.1.2.1 x.1.2.2.1 x.1.2.2.2.1
def Ke1 (F : Nat) : List (LoE Unit) := [⟨16, 4, LO.of Jd4 (Kpk F F)⟩]
def Js3 (F : Nat) : Jbu Unit := { toBook := Jyw, lo := Jcf (Ke1 F), need := Jaw [] }
theorem J8c (F : Nat) : Jbn prog (Js3 F) F 16 0 4 Jd4 (Kpj F) := fun d x KQ => by kernel_rfl
theorem Kpl (F : Nat) : Jhk prog (Js3 F) F := Ja0 (l := Ke1 F) rfl (fa (Jal 0 (by kernel_rfl) (by kernel_rfl) (Jah (J8c F) (fun _ _ => rfl) (fun _ _ _ _ => rfl))) fz)
theorem Kw2 (F : Nat) (x : Jaz J0g) (kend : List BV → ZO) : Jam prog (Js3 F) F 20 16 (Jae J0g x) [.d .bool] kend = Kmh F x.1 x.2.1 none (fun y0 => kend [BV.d .bool y0]) := by kernel_rfl
theorem J51  : Jad prog 16 J66 := Jap (B0 := Jyw) bkN bkG Jao bkT Kw2 (Jac (fa Khl fz)) (by kernel_rfl) (fun _ => rfl) Kpl (fun x h => (Kfi x.1 x.2.1 h).elim fun F hF => ⟨F, fun kend => hF none _⟩)
end Go.AI
namespace Go.AI
open Go
open Go.Proofs.Tryz (prog)
set_option linter.unusedVariables false
@[reducible] def Jhh  : List PM := [.d (.pair (.slc (.arr 16 (.int .u8))) (.pair (.slc (.pair (.int .i64) (.pair (.arr 16 (.int .u8)) .unit))) .unit)), .d (.slc (.int .u8))]
def Jtu  : Orc := Orc.of Jhh true 0 fun x => (TransactionReplays_P x.1 x.2.1, [.d .bool (TransactionReplays_r x.1 x.2.1)])
def Jjz  : List (FuncId × Orc) := [(9, Jvw), (13, K5p), (14, Ker), (15, Kex), (16, J66)]
theorem Jtv (F : Nat) (x : Jaz Jhh) (kend : List BV → ZO) : Jam prog (bkZ Jjz) F 20 4 (Jae Jhh x) [.d .bool] kend = TransactionReplays F x.1 x.2.1 none (fun y0 => kend [BV.d .bool y0]) := by kernel_rfl
theorem TransactionReplays_contract  : Jad prog 4 Jtu := Jap (B0 := bkY Jjz) bkN bkG Jao bkT Jtv (Jac (fa Jx5 (fa Koq (fa J79 (fa J8b (fa J51 fz)))))) (by kernel_rfl) (fun _ => rfl) (bkO _) (fun x h => (Jqx x.1 x.2.1 h).elim fun F hF => ⟨F, fun kend => hF none _⟩)
end Go.AI
namespace Go.AI
open Go
abbrev dkS : Sch := .pair (.slc (.arr 16 (.int .u8))) (.pair (.slc (.pair (.int .i64) (.pair (.arr 16 (.int .u8)) .unit))) .unit)
theorem TransactionReplays_wf (x : LawT [dkS, .slc (.int .u8)]) (h : WfArgs [dkS, .slc (.int .u8)] x) : TransactionReplays_P x.1 x.2.1 = true := by
 show (J1o x.1.1 && x.1.2.1.all fun p => decide (p.2.1.length = 16)) = true
 rw [Bool.and_eq_true]
 exact ⟨List.all_eq_true.2 fun p hp => tt (h.1.1.2 p hp).1, List.all_eq_true.2 fun p hp => tt (h.1.2.1.2 p hp).2.1.1⟩
end Go.AI
