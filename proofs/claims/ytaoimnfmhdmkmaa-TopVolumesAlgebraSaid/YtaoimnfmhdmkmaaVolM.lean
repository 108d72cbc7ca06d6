/- The machine runs as the plain functions say. -/
import Derived.Test.YtaoimnfmhdmkmaaVolB
import Derived.Test.YtaoimnfmhdmkmaaVolF
import Derived.KernelRfl
noncomputable section
namespace Go.AI
open Go
open Go.Proofs.Try (prog)
set_option linter.unusedVariables false

@[reducible] def tMul_ps : List PM := [.p (.pair (.arr 255 (.int .u8)) (.pair (.arr 256 (.int .i64)) .unit)), .d (.int .u8), .d (.int .u8)]
def tMul_orc : Orc := Orc.of tMul_ps true 0 fun x => (tMul_P x.1 x.2.1 x.2.2.1, [.d (.int .u8) (tMul_r x.1 x.2.1 x.2.2.1)])
def tMul_orcs : List (FuncId × Orc) := []
def tMul_book0 : Book := { Γ := gam, orc := orcsOf tMul_orcs, hint := hintsOf [] }
def tMul_lo (F : Nat) : List (LoE Unit) := []
def tMul_book (F : Nat) : BookL Unit := { toBook := tMul_book0, lo := losOf (tMul_lo F), need := needsOf [] }
theorem tMul_loOk (F : Nat) : LoOk prog (tMul_book F) F := loOk_of (l := tMul_lo F) rfl fz
set_option maxRecDepth 100000 in
theorem tMul_run (F : Nat) (x : ArgsT tMul_ps) (kend : List BV → Option Unit) : runFnL prog (tMul_book F) F 20 22 (argsInst tMul_ps x) [.d (.int .u8)] kend = tMul F x.1 x.2.1 x.2.2.1 none (fun y0 => kend [BV.d (.int .u8) y0]) := by kernel_rfl
theorem tMul_contract : Contract prog 22 tMul_orc := con_of (B0 := tMul_book0) (noNumB_ok num_ok) (rangesB_ok rng_ok) mix_ok (gamB_ok gam_ok) tMul_run (orcsOf_ok fz) (by kernel_rfl) (fun _ => rfl) tMul_loOk (fun x h => (tMul_plain x.1 x.2.1 x.2.2.1 h).elim fun F hF => ⟨F, fun kend => hF none _⟩)

@[reducible] def tInv_ps : List PM := [.p (.pair (.arr 255 (.int .u8)) (.pair (.arr 256 (.int .i64)) .unit)), .d (.int .u8)]
def tInv_orc : Orc := Orc.of tInv_ps true 0 fun x => (tInv_P x.1 x.2.1, [.d (.int .u8) (tInv_r x.1 x.2.1)])
def tInv_orcs : List (FuncId × Orc) := []
def tInv_book0 : Book := { Γ := gam, orc := orcsOf tInv_orcs, hint := hintsOf [] }
def tInv_lo (F : Nat) : List (LoE Unit) := []
def tInv_book (F : Nat) : BookL Unit := { toBook := tInv_book0, lo := losOf (tInv_lo F), need := needsOf [] }
theorem tInv_loOk (F : Nat) : LoOk prog (tInv_book F) F := loOk_of (l := tInv_lo F) rfl fz
set_option maxRecDepth 100000 in
theorem tInv_run (F : Nat) (x : ArgsT tInv_ps) (kend : List BV → Option Unit) : runFnL prog (tInv_book F) F 20 20 (argsInst tInv_ps x) [.d (.int .u8)] kend = tInv F x.1 x.2.1 none (fun y0 => kend [BV.d (.int .u8) y0]) := by kernel_rfl
theorem tInv_contract : Contract prog 20 tInv_orc := con_of (B0 := tInv_book0) (noNumB_ok num_ok) (rangesB_ok rng_ok) mix_ok (gamB_ok gam_ok) tInv_run (orcsOf_ok fz) (by kernel_rfl) (fun _ => rfl) tInv_loOk (fun x h => (tInv_plain x.1 x.2.1 h).elim fun F hF => ⟨F, fun kend => hF none _⟩)

@[reducible] def gMul_ps : List PM := [.d (.int .u8), .d (.int .u8)]
def gMul_orc : Orc := Orc.of gMul_ps true 0 fun x => (gMul_P x.1 x.2.1, [.d (.int .u8) (gMul_r x.1 x.2.1)])
def gMul_orcs : List (FuncId × Orc) := [(19, gField_orc), (22, tMul_orc)]
def gMul_book0 : Book := { Γ := gam, orc := orcsOf gMul_orcs, hint := hintsOf [] }
def gMul_lo (F : Nat) : List (LoE Unit) := []
def gMul_book (F : Nat) : BookL Unit := { toBook := gMul_book0, lo := losOf (gMul_lo F), need := needsOf [] }
theorem gMul_loOk (F : Nat) : LoOk prog (gMul_book F) F := loOk_of (l := gMul_lo F) rfl fz
set_option maxRecDepth 100000 in
theorem gMul_run (F : Nat) (x : ArgsT gMul_ps) (kend : List BV → Option Unit) : runFnL prog (gMul_book F) F 20 36 (argsInst gMul_ps x) [.d (.int .u8)] kend = gMul F x.1 x.2.1 none (fun y0 => kend [BV.d (.int .u8) y0]) := by kernel_rfl
theorem gMul_contract : Contract prog 36 gMul_orc := con_of (B0 := gMul_book0) (noNumB_ok num_ok) (rangesB_ok rng_ok) mix_ok (gamB_ok gam_ok) gMul_run (orcsOf_ok (fa gField_contract (fa tMul_contract fz))) (by kernel_rfl) (fun _ => rfl) gMul_loOk (fun x h => (gMul_plain x.1 x.2.1 h).elim fun F hF => ⟨F, fun kend => hF none _⟩)

@[reducible] def isMat_ps : List PM := [.d (.slc (.slc (.int .u8)))]
def isMat_orc : Orc := Orc.of isMat_ps true 0 fun x => (isMat_P x.1, [.d .bool (isMat_r x.1)])
@[reducible] def isMat_l1_T : Tpl := { cur := ⟨[(0, .var (.slc (.slc (.int .u8)))), (0, .fn 37 (.pr (.ptr 0 []) (.un))), (2, .var (.int .i64)), (2, .var (.int .i64)), (0, .var (.int .i64))], 10⟩, stk := [⟨[], 9⟩, ⟨[], 29⟩, ⟨[], 0⟩], heap := [.box (.var (.slc (.slc (.int .u8))))] }
def isMat_orcs : List (FuncId × Orc) := []
def isMat_book0 : Book := { Γ := gam, orc := orcsOf isMat_orcs, hint := hintsOf [(34, { keep := some [0, 1, 4, 7, 8], keeps := [(2, [0, 1, 4, 7, 8])], own := [], dat := [], stk := [[], []] })] }
def isMat_l1_G (F : Nat) (nx : isMat_l1_T.T → Option Unit) (kq : AExit → ASt → Option Unit) (x : isMat_l1_T.T) : Option Unit := isMat_l1 F none (fun s s4 s7 s8 f => nx ((s, (((), ()), (s4, (s7, (s8, ()))))), (((), ((), ((), ()))), (f, ())))) (fun y0 y1 y2 y3 y4 => kq .ret (isMat_l1_T.inst ((y0, (((), ()), (y1, (y2, (y3, ()))))), (((), ((), ((), ()))), (y4, ()))))) (fun y0 y1 y2 y3 y4 => kq (.exit 0) (isMat_l1_T.inst ((y0, (((), ()), (y1, (y2, (y3, ()))))), (((), ((), ((), ()))), (y4, ()))))) x.1.1 x.1.2.2.1 x.1.2.2.2.1 x.1.2.2.2.2.1 x.2.2.1
def isMat_l1_R (F m : Nat) (x : isMat_l1_T.T) (kq : AExit → ASt → Option Unit) : Option Unit := isMat_l1F F none (fun y0 y1 y2 y3 y4 => kq .ret (isMat_l1_T.inst ((y0, (((), ()), (y1, (y2, (y3, ()))))), (((), ((), ((), ()))), (y4, ()))))) (fun y0 y1 y2 y3 y4 => kq (.exit 0) (isMat_l1_T.inst ((y0, (((), ()), (y1, (y2, (y3, ()))))), (((), ((), ((), ()))), (y4, ()))))) m x.1.1 x.1.2.2.1 x.1.2.2.2.1 x.1.2.2.2.2.1 x.2.2.1
def isMat_lo (F : Nat) : List (LoE Unit) := [⟨34, 2, LO.of isMat_l1_T (isMat_l1_R F F)⟩]
def isMat_book (F : Nat) : BookL Unit := { toBook := isMat_book0, lo := losOf (isMat_lo F), need := needsOf [(34, 1)] }
set_option maxRecDepth 100000 in
theorem isMat_l1_step (F : Nat) : LStep prog (isMat_book F) F 34 0 2 isMat_l1_T (isMat_l1_G F) := fun d x KQ => by kernel_rfl
theorem isMat_loOk (F : Nat) : LoOk prog (isMat_book F) F := loOk_of (l := isMat_lo F) rfl (fa (loOne_of 0 (by kernel_rfl) (by kernel_rfl) (lstep_run (isMat_l1_step F) (fun _ _ => rfl) (fun _ _ _ _ => rfl))) fz)
set_option maxRecDepth 100000 in
theorem isMat_run (F : Nat) (x : ArgsT isMat_ps) (kend : List BV → Option Unit) : runFnL prog (isMat_book F) F 20 21 (argsInst isMat_ps x) [.d .bool] kend = isMat F x.1 none (fun y0 => kend [BV.d .bool y0]) := by kernel_rfl
theorem isMat_contract : Contract prog 21 isMat_orc := con_of (B0 := isMat_book0) (noNumB_ok num_ok) (rangesB_ok rng_ok) mix_ok (gamB_ok gam_ok) isMat_run (orcsOf_ok fz) (by kernel_rfl) (fun _ => rfl) isMat_loOk (fun x h => (isMat_plain x.1 h).elim fun F hF => ⟨F, fun kend => hF none _⟩)

@[reducible] def gCauchy_ps : List PM := [.d (.int .i64), .d (.int .i64)]
def gCauchy_orc : Orc := Orc.of gCauchy_ps false 0 fun x => (gCauchy_P x.1 x.2.1, [.d (.slc (.slc (.int .u8))) (gCauchy_r0 x.1 x.2.1), .d (.int .i64) (gCauchy_r1 x.1 x.2.1)])
@[reducible] def gCauchy_l2_T : Tpl := { cur := ⟨[(0, .var (.int .i64)), (0, .var (.int .i64)), (4, .vptr (.pair (.arr 255 (.int .u8)) (.pair (.arr 256 (.int .i64)) .unit))), (0, .row 0), (0, .var (.int .i64)), (0, .row 1), (12, .var (.int .i64)), (0, .var (.int .i64)), (2, .var (.int .i64)), (0, .var (.int .i64))], 21⟩, stk := [⟨[], 0⟩], heap := [.row 24 (.slc (.int .u8)) false, .row 5 (.int .u8) false] }
@[reducible] def gCauchy_l1_T : Tpl := { cur := ⟨[(0, .var (.int .i64)), (0, .var (.int .i64)), (4, .vptr (.pair (.arr 255 (.int .u8)) (.pair (.arr 256 (.int .i64)) .unit))), (0, .row 0), (14, .var (.int .i64)), (0, .var (.int .i64))], 25⟩, stk := [⟨[], 0⟩], heap := [.row 24 (.slc (.int .u8)) false] }
def gCauchy_orcs : List (FuncId × Orc) := [(19, gField_orc), (20, tInv_orc)]
def gCauchy_book0 : Book := { Γ := gam, orc := orcsOf gCauchy_orcs, hint := hintsOf [(7, { keep := some [0, 1, 6, 7, 8, 9, 22, 23, 26, 27], keeps := [(6, [0, 1, 6, 7, 22, 23]), (10, [0, 1, 6, 7, 8, 9, 22, 23, 26, 27])], own := [(9, 24), (7, 22)], dat := [], stk := [] })] }
def gCauchy_l2_G (F : Nat) (nx : gCauchy_l2_T.T → Option Unit) (kq : AExit → ASt → Option Unit) (x : gCauchy_l2_T.T) : Option Unit := gCauchy_l2 F none (fun rows columns t i s22 s23 s26 s27 out row => nx ((rows, (columns, (t, ((), (i, ((), (s22, (s23, (s26, (s27, ())))))))))), (((), ()), (out, (row, ()))))) (fun y0 y1 y2 y3 y4 y5 y6 y7 y8 y9 => kq (.exit 2) (gCauchy_l2_T.inst ((y0, (y1, (y2, ((), (y3, ((), (y4, (y5, (y6, (y7, ())))))))))), (((), ()), (y8, (y9, ())))))) x.1.1 x.1.2.1 x.1.2.2.1 x.1.2.2.2.2.1 x.1.2.2.2.2.2.2.1 x.1.2.2.2.2.2.2.2.1 x.1.2.2.2.2.2.2.2.2.1 x.1.2.2.2.2.2.2.2.2.2.1 x.2.2.1 x.2.2.2.1
def gCauchy_l2_R (F m : Nat) (x : gCauchy_l2_T.T) (kq : AExit → ASt → Option Unit) : Option Unit := gCauchy_l2F F none (fun y0 y1 y2 y3 y4 y5 y6 y7 y8 y9 => kq (.exit 2) (gCauchy_l2_T.inst ((y0, (y1, (y2, ((), (y3, ((), (y4, (y5, (y6, (y7, ())))))))))), (((), ()), (y8, (y9, ())))))) m x.1.1 x.1.2.1 x.1.2.2.1 x.1.2.2.2.2.1 x.1.2.2.2.2.2.2.1 x.1.2.2.2.2.2.2.2.1 x.1.2.2.2.2.2.2.2.2.1 x.1.2.2.2.2.2.2.2.2.2.1 x.2.2.1 x.2.2.2.1
def gCauchy_l1_G (F : Nat) (nx : gCauchy_l1_T.T → Option Unit) (kq : AExit → ASt → Option Unit) (x : gCauchy_l1_T.T) : Option Unit := gCauchy_l1 F none (fun rows columns t s22 s23 out => nx ((rows, (columns, (t, ((), (s22, (s23, ())))))), (((), ()), (out, ())))) (fun y0 y1 y2 y3 y4 y5 => kq (.exit 0) (gCauchy_l1_T.inst ((y0, (y1, (y2, ((), (y3, (y4, ())))))), (((), ()), (y5, ()))))) x.1.1 x.1.2.1 x.1.2.2.1 x.1.2.2.2.2.1 x.1.2.2.2.2.2.1 x.2.2.1
def gCauchy_l1_R (F m : Nat) (x : gCauchy_l1_T.T) (kq : AExit → ASt → Option Unit) : Option Unit := gCauchy_l1F F none (fun y0 y1 y2 y3 y4 y5 => kq (.exit 0) (gCauchy_l1_T.inst ((y0, (y1, (y2, ((), (y3, (y4, ())))))), (((), ()), (y5, ()))))) m x.1.1 x.1.2.1 x.1.2.2.1 x.1.2.2.2.2.1 x.1.2.2.2.2.2.1 x.2.2.1
def gCauchy_lo (F : Nat) : List (LoE Unit) := [⟨7, 10, LO.of gCauchy_l2_T (gCauchy_l2_R F F)⟩,
  ⟨7, 6, LO.of gCauchy_l1_T (gCauchy_l1_R F F)⟩]
def gCauchy_book (F : Nat) : BookL Unit := { toBook := gCauchy_book0, lo := losOf (gCauchy_lo F), need := needsOf [] }
set_option maxRecDepth 100000 in
theorem gCauchy_l2_step (F : Nat) : LStep prog (gCauchy_book F) F 7 1 10 gCauchy_l2_T (gCauchy_l2_G F) := fun d x KQ => by kernel_rfl
set_option maxRecDepth 100000 in
theorem gCauchy_l1_step (F : Nat) : LStep prog (gCauchy_book F) F 7 0 6 gCauchy_l1_T (gCauchy_l1_G F) := fun d x KQ => by kernel_rfl
theorem gCauchy_loOk (F : Nat) : LoOk prog (gCauchy_book F) F := loOk_of (l := gCauchy_lo F) rfl (fa (loOne_of 1 (by kernel_rfl) (by kernel_rfl) (lstep_run (gCauchy_l2_step F) (fun _ _ => rfl) (fun _ _ _ _ => rfl))) (fa (loOne_of 0 (by kernel_rfl) (by kernel_rfl) (lstep_run (gCauchy_l1_step F) (fun _ _ => rfl) (fun _ _ _ _ => rfl))) fz))
set_option maxRecDepth 100000 in
theorem gCauchy_run (F : Nat) (x : ArgsT gCauchy_ps) (kend : List BV → Option Unit) : runFnL prog (gCauchy_book F) F 20 7 (argsInst gCauchy_ps x) [.d (.slc (.slc (.int .u8))), .d (.int .i64)] kend = gCauchy F x.1 x.2.1 none (fun y0 y1 => kend [BV.d (.slc (.slc (.int .u8))) y0, BV.d (.int .i64) y1]) := by kernel_rfl
theorem gCauchy_contract : Contract prog 7 gCauchy_orc := con_of (B0 := gCauchy_book0) (noNumB_ok num_ok) (rangesB_ok rng_ok) mix_ok (gamB_ok gam_ok) gCauchy_run (orcsOf_ok (fa gField_contract (fa tInv_contract fz))) (by kernel_rfl) (fun _ => rfl) gCauchy_loOk (fun x h => (gCauchy_plain x.1 x.2.1 h).elim fun F hF => ⟨F, fun kend => hF none _⟩)

@[reducible] def gProduct_ps : List PM := [.d (.slc (.slc (.int .u8))), .d (.slc (.slc (.int .u8)))]
def gProduct_orc : Orc := Orc.of gProduct_ps false 0 fun x => (gProduct_P x.1 x.2.1, [.d (.slc (.slc (.int .u8))) (gProduct_r0 x.1 x.2.1), .d (.int .i64) (gProduct_r1 x.1 x.2.1)])
@[reducible] def gProduct_l3_T : Tpl := { cur := ⟨[(1, .var (.slc (.slc (.int .u8)))), (4, .vptr (.pair (.arr 255 (.int .u8)) (.pair (.arr 256 (.int .i64)) .unit))), (0, .row 0), (2, .row 1), (1, .var (.int .u8)), (18, .var (.slc (.slc (.int .u8)))), (0, .var (.int .i64)), (0, .var (.int .i64)), (8, .var (.slc (.int .u8))), (0, .var (.int .i64)), (0, .var (.int .i64)), (7, .var (.slc (.int .u8))), (0, .var (.int .i64)), (0, .var (.int .i64))], 22⟩, stk := [⟨[], 0⟩], heap := [.row 24 (.slc (.int .u8)) false, .row 5 (.int .u8) false] }
@[reducible] def gProduct_l2_T : Tpl := { cur := ⟨[(1, .var (.slc (.slc (.int .u8)))), (4, .vptr (.pair (.arr 255 (.int .u8)) (.pair (.arr 256 (.int .i64)) .unit))), (0, .row 0), (2, .row 1), (20, .var (.slc (.slc (.int .u8)))), (0, .var (.int .i64)), (0, .var (.int .i64)), (8, .var (.slc (.int .u8))), (0, .var (.int .i64)), (0, .var (.int .i64))], 32⟩, stk := [⟨[], 0⟩], heap := [.row 24 (.slc (.int .u8)) false, .row 5 (.int .u8) false] }
@[reducible] def gProduct_l1_T : Tpl := { cur := ⟨[(1, .var (.slc (.slc (.int .u8)))), (4, .vptr (.pair (.arr 255 (.int .u8)) (.pair (.arr 256 (.int .i64)) .unit))), (0, .row 0), (23, .var (.slc (.slc (.int .u8)))), (0, .var (.int .i64)), (0, .var (.int .i64))], 43⟩, stk := [⟨[], 0⟩], heap := [.row 24 (.slc (.int .u8)) false] }
def gProduct_orcs : List (FuncId × Orc) := [(19, gField_orc), (21, isMat_orc), (22, tMul_orc)]
def gProduct_book0 : Book := { Γ := gam, orc := orcsOf gProduct_orcs, hint := hintsOf [(8, { keep := some [1, 6, 7, 10, 12, 31, 32, 33, 42, 43, 44, 52, 53, 54], keeps := [(8, [1, 6, 7, 31, 32, 33]), (12, [1, 6, 7, 10, 31, 32, 33, 42, 43, 44]), (15, [1, 6, 7, 10, 12, 31, 32, 33, 42, 43, 44, 52, 53, 54])], own := [(7, 22)], dat := [], stk := [] })] }
def gProduct_l3_G (F : Nat) (nx : gProduct_l3_T.T → Option Unit) (kq : AExit → ASt → Option Unit) (x : gProduct_l3_T.T) : Option Unit := gProduct_l3 F none (fun b t x_ s31 s32 s33 s42 s43 s44 s52 s53 s54 out sums => nx ((b, (t, ((), ((), (x_, (s31, (s32, (s33, (s42, (s43, (s44, (s52, (s53, (s54, ())))))))))))))), (((), ()), (out, (sums, ()))))) (fun y0 y1 y2 y3 y4 y5 y6 y7 y8 y9 y10 y11 y12 y13 => kq (.exit 4) (gProduct_l3_T.inst ((y0, (y1, ((), ((), (y2, (y3, (y4, (y5, (y6, (y7, (y8, (y9, (y10, (y11, ())))))))))))))), (((), ()), (y12, (y13, ())))))) x.1.1 x.1.2.1 x.1.2.2.2.2.1 x.1.2.2.2.2.2.1 x.1.2.2.2.2.2.2.1 x.1.2.2.2.2.2.2.2.1 x.1.2.2.2.2.2.2.2.2.1 x.1.2.2.2.2.2.2.2.2.2.1 x.1.2.2.2.2.2.2.2.2.2.2.1 x.1.2.2.2.2.2.2.2.2.2.2.2.1 x.1.2.2.2.2.2.2.2.2.2.2.2.2.1 x.1.2.2.2.2.2.2.2.2.2.2.2.2.2.1 x.2.2.1 x.2.2.2.1
def gProduct_l3_R (F m : Nat) (x : gProduct_l3_T.T) (kq : AExit → ASt → Option Unit) : Option Unit := gProduct_l3F F none (fun y0 y1 y2 y3 y4 y5 y6 y7 y8 y9 y10 y11 y12 y13 => kq (.exit 4) (gProduct_l3_T.inst ((y0, (y1, ((), ((), (y2, (y3, (y4, (y5, (y6, (y7, (y8, (y9, (y10, (y11, ())))))))))))))), (((), ()), (y12, (y13, ())))))) m x.1.1 x.1.2.1 x.1.2.2.2.2.1 x.1.2.2.2.2.2.1 x.1.2.2.2.2.2.2.1 x.1.2.2.2.2.2.2.2.1 x.1.2.2.2.2.2.2.2.2.1 x.1.2.2.2.2.2.2.2.2.2.1 x.1.2.2.2.2.2.2.2.2.2.2.1 x.1.2.2.2.2.2.2.2.2.2.2.2.1 x.1.2.2.2.2.2.2.2.2.2.2.2.2.1 x.1.2.2.2.2.2.2.2.2.2.2.2.2.2.1 x.2.2.1 x.2.2.2.1
def gProduct_l2_G (F : Nat) (nx : gProduct_l2_T.T → Option Unit) (kq : AExit → ASt → Option Unit) (x : gProduct_l2_T.T) : Option Unit := gProduct_l2 F none (fun b t s31 s32 s33 s42 s43 s44 out sums => nx ((b, (t, ((), ((), (s31, (s32, (s33, (s42, (s43, (s44, ())))))))))), (((), ()), (out, (sums, ()))))) (fun y0 y1 y2 y3 y4 y5 y6 y7 y8 y9 => kq (.exit 2) (gProduct_l2_T.inst ((y0, (y1, ((), ((), (y2, (y3, (y4, (y5, (y6, (y7, ())))))))))), (((), ()), (y8, (y9, ())))))) x.1.1 x.1.2.1 x.1.2.2.2.2.1 x.1.2.2.2.2.2.1 x.1.2.2.2.2.2.2.1 x.1.2.2.2.2.2.2.2.1 x.1.2.2.2.2.2.2.2.2.1 x.1.2.2.2.2.2.2.2.2.2.1 x.2.2.1 x.2.2.2.1
def gProduct_l2_R (F m : Nat) (x : gProduct_l2_T.T) (kq : AExit → ASt → Option Unit) : Option Unit := gProduct_l2F F none (fun y0 y1 y2 y3 y4 y5 y6 y7 y8 y9 => kq (.exit 2) (gProduct_l2_T.inst ((y0, (y1, ((), ((), (y2, (y3, (y4, (y5, (y6, (y7, ())))))))))), (((), ()), (y8, (y9, ())))))) m x.1.1 x.1.2.1 x.1.2.2.2.2.1 x.1.2.2.2.2.2.1 x.1.2.2.2.2.2.2.1 x.1.2.2.2.2.2.2.2.1 x.1.2.2.2.2.2.2.2.2.1 x.1.2.2.2.2.2.2.2.2.2.1 x.2.2.1 x.2.2.2.1
def gProduct_l1_G (F : Nat) (nx : gProduct_l1_T.T → Option Unit) (kq : AExit → ASt → Option Unit) (x : gProduct_l1_T.T) : Option Unit := gProduct_l1 F none (fun b t s31 s32 s33 out => nx ((b, (t, ((), (s31, (s32, (s33, ())))))), (((), ()), (out, ())))) (fun y0 y1 y2 y3 y4 y5 => kq (.exit 0) (gProduct_l1_T.inst ((y0, (y1, ((), (y2, (y3, (y4, ())))))), (((), ()), (y5, ()))))) x.1.1 x.1.2.1 x.1.2.2.2.1 x.1.2.2.2.2.1 x.1.2.2.2.2.2.1 x.2.2.1
def gProduct_l1_R (F m : Nat) (x : gProduct_l1_T.T) (kq : AExit → ASt → Option Unit) : Option Unit := gProduct_l1F F none (fun y0 y1 y2 y3 y4 y5 => kq (.exit 0) (gProduct_l1_T.inst ((y0, (y1, ((), (y2, (y3, (y4, ())))))), (((), ()), (y5, ()))))) m x.1.1 x.1.2.1 x.1.2.2.2.1 x.1.2.2.2.2.1 x.1.2.2.2.2.2.1 x.2.2.1
def gProduct_lo (F : Nat) : List (LoE Unit) := [⟨8, 15, LO.of gProduct_l3_T (gProduct_l3_R F F)⟩,
  ⟨8, 12, LO.of gProduct_l2_T (gProduct_l2_R F F)⟩,
  ⟨8, 8, LO.of gProduct_l1_T (gProduct_l1_R F F)⟩]
def gProduct_book (F : Nat) : BookL Unit := { toBook := gProduct_book0, lo := losOf (gProduct_lo F), need := needsOf [] }
set_option maxRecDepth 100000 in
theorem gProduct_l3_step (F : Nat) : LStep prog (gProduct_book F) F 8 2 15 gProduct_l3_T (gProduct_l3_G F) := fun d x KQ => by kernel_rfl
set_option maxRecDepth 100000 in
theorem gProduct_l2_step (F : Nat) : LStep prog (gProduct_book F) F 8 1 12 gProduct_l2_T (gProduct_l2_G F) := fun d x KQ => by kernel_rfl
set_option maxRecDepth 100000 in
theorem gProduct_l1_step (F : Nat) : LStep prog (gProduct_book F) F 8 0 8 gProduct_l1_T (gProduct_l1_G F) := fun d x KQ => by kernel_rfl
theorem gProduct_loOk (F : Nat) : LoOk prog (gProduct_book F) F := loOk_of (l := gProduct_lo F) rfl (fa (loOne_of 2 (by kernel_rfl) (by kernel_rfl) (lstep_run (gProduct_l3_step F) (fun _ _ => rfl) (fun _ _ _ _ => rfl))) (fa (loOne_of 1 (by kernel_rfl) (by kernel_rfl) (lstep_run (gProduct_l2_step F) (fun _ _ => rfl) (fun _ _ _ _ => rfl))) (fa (loOne_of 0 (by kernel_rfl) (by kernel_rfl) (lstep_run (gProduct_l1_step F) (fun _ _ => rfl) (fun _ _ _ _ => rfl))) fz)))
set_option maxRecDepth 100000 in
theorem gProduct_run (F : Nat) (x : ArgsT gProduct_ps) (kend : List BV → Option Unit) : runFnL prog (gProduct_book F) F 20 8 (argsInst gProduct_ps x) [.d (.slc (.slc (.int .u8))), .d (.int .i64)] kend = gProduct F x.1 x.2.1 none (fun y0 y1 => kend [BV.d (.slc (.slc (.int .u8))) y0, BV.d (.int .i64) y1]) := by kernel_rfl
theorem gProduct_contract : Contract prog 8 gProduct_orc := con_of (B0 := gProduct_book0) (noNumB_ok num_ok) (rangesB_ok rng_ok) mix_ok (gamB_ok gam_ok) gProduct_run (orcsOf_ok (fa gField_contract (fa isMat_contract (fa tMul_contract fz)))) (by kernel_rfl) (fun _ => rfl) gProduct_loOk (fun x h => (gProduct_plain x.1 x.2.1 h).elim fun F hF => ⟨F, fun kend => hF none _⟩)

@[reducible] def sClone_ps : List PM := [.d (.slc (.int .u8))]
def sClone_orc : Orc := Orc.of sClone_ps true 1 fun x => (sClone_P x.1, [.o 5 (.int .u8) (sClone_r x.1)])
def sClone_orcs : List (FuncId × Orc) := []
def sClone_book0 : Book := { Γ := gam, orc := orcsOf sClone_orcs, hint := hintsOf [] }
def sClone_lo (F : Nat) : List (LoE Unit) := []
def sClone_book (F : Nat) : BookL Unit := { toBook := sClone_book0, lo := losOf (sClone_lo F), need := needsOf [] }
theorem sClone_loOk (F : Nat) : LoOk prog (sClone_book F) F := loOk_of (l := sClone_lo F) rfl fz
set_option maxRecDepth 100000 in
theorem sClone_run (F : Nat) (x : ArgsT sClone_ps) (kend : List BV → Option Unit) : runFnL prog (sClone_book F) F 20 25 (argsInst sClone_ps x) [.o 5 (.int .u8)] kend = sClone F x.1 none both (fun y0 => kend [BV.o 5 (.int .u8) y0]) := by kernel_rfl
theorem sClone_contract : Contract prog 25 sClone_orc := con_of (B0 := sClone_book0) (noNumB_ok num_ok) (rangesB_ok rng_ok) mix_ok (gamB_ok gam_ok) sClone_run (orcsOf_ok fz) (by kernel_rfl) (fun _ => rfl) sClone_loOk (fun x h => (sClone_plain x.1 h).elim fun F hF => ⟨F, fun kend => hF none both both_self _⟩)

@[reducible] def bEqual_ps : List PM := [.d (.slc (.int .u8)), .d (.slc (.int .u8))]
def bEqual_orc : Orc := Orc.of bEqual_ps true 0 fun x => (bEqual_P x.1 x.2.1, [.d .bool (bEqual_r x.1 x.2.1)])
def bEqual_orcs : List (FuncId × Orc) := []
def bEqual_book0 : Book := { Γ := gam, orc := orcsOf bEqual_orcs, hint := hintsOf [] }
def bEqual_lo (F : Nat) : List (LoE Unit) := []
def bEqual_book (F : Nat) : BookL Unit := { toBook := bEqual_book0, lo := losOf (bEqual_lo F), need := needsOf [] }
theorem bEqual_loOk (F : Nat) : LoOk prog (bEqual_book F) F := loOk_of (l := bEqual_lo F) rfl fz
set_option maxRecDepth 100000 in
theorem bEqual_run (F : Nat) (x : ArgsT bEqual_ps) (kend : List BV → Option Unit) : runFnL prog (bEqual_book F) F 20 9 (argsInst bEqual_ps x) [.d .bool] kend = bEqual F x.1 x.2.1 none (fun y0 => kend [BV.d .bool y0]) := by kernel_rfl
theorem bEqual_contract : Contract prog 9 bEqual_orc := con_of (B0 := bEqual_book0) (noNumB_ok num_ok) (rangesB_ok rng_ok) mix_ok (gamB_ok gam_ok) bEqual_run (orcsOf_ok fz) (by kernel_rfl) (fun _ => rfl) bEqual_loOk (fun x h => (bEqual_plain x.1 x.2.1 h).elim fun F hF => ⟨F, fun kend => hF none _⟩)

end Go.AI
