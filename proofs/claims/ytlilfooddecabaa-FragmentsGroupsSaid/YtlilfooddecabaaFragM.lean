/- The machine runs as the plain functions say. -/
import Derived.Test.YtlilfooddecabaaDigestM
import Derived.Test.YtlilfooddecabaaFragP5
import Derived.KernelRfl
namespace Go.AI
open Go
open Go.Proofs.Try (prog)
set_option linter.unusedVariables false

@[reducible] def between_ps : List PM := [.d (.int .i64), .d (.int .i64), .d (.int .i64)]
def between_orc : Orc := Orc.of between_ps true 0 fun x => (true, [.d .bool (between_r x.1 x.2.1 x.2.2.1)])
def between_orcs : List (FuncId × Orc) := []
def between_book0 : Book := { Γ := gam, orc := orcsOf between_orcs, hint := hintsOf [] }
def between_lo (F : Nat) : List (LoE Unit) := []
def between_book (F : Nat) : BookL Unit := { toBook := between_book0, lo := losOf (between_lo F), need := needsOf [] }
theorem between_loOk (F : Nat) : LoOk prog (between_book F) F := loOk_of (l := between_lo F) rfl fz
set_option maxRecDepth 100000 in
theorem between_run (F : Nat) (x : ArgsT between_ps) (kend : List BV → Option Unit) : runFnL prog (between_book F) F 20 37 (argsInst between_ps x) [.d .bool] kend = between F x.1 x.2.1 x.2.2.1 none (fun y0 => kend [BV.d .bool y0]) := by kernel_rfl
theorem between_contract : Contract prog 37 between_orc := con_of (B0 := between_book0) (noNumB_ok num_ok) (rangesB_ok rng_ok) mix_ok (gamB_ok gam_ok) between_run (orcsOf_ok fz) (by kernel_rfl) (fun _ => rfl) between_loOk (fun x _ => (between_plain x.1 x.2.1 x.2.2.1).elim fun F hF => ⟨F, fun kend => hF none _⟩)

@[reducible] def placed_ps : List PM := [.d (.int .i64), .d (.int .i64), .d (.int .i64)]
def placed_orc : Orc := Orc.of placed_ps true 0 fun x => (placed_P x.1 x.2.1 x.2.2.1, [.d .bool (placed_r x.1 x.2.1 x.2.2.1)])
def placed_orcs : List (FuncId × Orc) := [(37, between_orc)]
def placed_book0 : Book := { Γ := gam, orc := orcsOf placed_orcs, hint := hintsOf [] }
def placed_lo (F : Nat) : List (LoE Unit) := []
def placed_book (F : Nat) : BookL Unit := { toBook := placed_book0, lo := losOf (placed_lo F), need := needsOf [] }
theorem placed_loOk (F : Nat) : LoOk prog (placed_book F) F := loOk_of (l := placed_lo F) rfl fz
set_option maxRecDepth 100000 in
theorem placed_run (F : Nat) (x : ArgsT placed_ps) (kend : List BV → Option Unit) : runFnL prog (placed_book F) F 20 38 (argsInst placed_ps x) [.d .bool] kend = placed F x.1 x.2.1 x.2.2.1 none (fun y0 => kend [BV.d .bool y0]) := by kernel_rfl
theorem placed_contract : Contract prog 38 placed_orc := con_of (B0 := placed_book0) (noNumB_ok num_ok) (rangesB_ok rng_ok) mix_ok (gamB_ok gam_ok) placed_run (orcsOf_ok (fa between_contract fz)) (by kernel_rfl) (fun _ => rfl) placed_loOk (fun x h => (placed_plain x.1 x.2.1 x.2.2.1 h).elim fun F hF => ⟨F, fun kend => hF none _⟩)

@[reducible] def fCheck_ps : List PM := [.d (.pair (.slc (.pair (.arr 32 (.int .u8)) (.pair (.int .i64) (.pair (.int .i64) (.pair (.int .i64) .unit))))) .unit)]
def fCheck_orc : Orc := Orc.of fCheck_ps true 0 fun x => (fCheck_P x.1, [.d (.int .i64) (fCheck_r x.1)])
@[reducible] def fCheck_l1_T : Tpl := { cur := ⟨[(2, .nilp), (0, .var (.int .i64)), (0, .ptr 0 []), (12, .var (.slc (.pair (.arr 32 (.int .u8)) (.pair (.int .i64) (.pair (.int .i64) (.pair (.int .i64) .unit)))))), (0, .var (.int .i64)), (0, .var (.int .i64))], 42⟩, stk := [⟨[], 11⟩, ⟨[], 0⟩], heap := [.box (.pr (.row 1) (.pr (.hnd .map 2) (.var .unit))), .row 58 (.pair (.arr 32 (.int .u8)) (.pair (.int .i64) (.pair (.int .i64) (.pair (.int .i64) .unit)))) false, .mp 94 3 (.pair (.arr 32 (.int .u8)) (.pair (.int .i64) .unit)) (.int .i64)] }
def fCheck_orcs : List (FuncId × Orc) := [(37, between_orc), (38, placed_orc)]
def fCheck_book0 : Book := { Γ := gam, orc := orcsOf fCheck_orcs, hint := hintsOf [(31, { keep := some [2, 3, 4, 17, 18, 19], keeps := [(5, [2, 3, 4, 17, 18, 19])], own := [], dat := [], stk := [[]], ownb := [(4, 0, 22)] })] }
def fCheck_l1_G (F : Nat) (nx : fCheck_l1_T.T → Option Unit) (kq : AExit → ASt → Option Unit) (x : fCheck_l1_T.T) : Option Unit := fCheck_l1 F none (fun s3 s17 s18 s19 h1 h2 => nx (((), (s3, ((), (s17, (s18, (s19, ())))))), (((), ((), ())), (((), ((), ())), (h1, (h2, ())))))) (fun y0 y1 y2 y3 y4 y5 => kq .ret (fCheck_l1_T.inst (((), (y0, ((), (y1, (y2, (y3, ())))))), (((), ((), ())), (((), ((), ())), (y4, (y5, ()))))))) (fun y0 y1 y2 y3 y4 y5 => kq (.exit 0) (fCheck_l1_T.inst (((), (y0, ((), (y1, (y2, (y3, ())))))), (((), ((), ())), (((), ((), ())), (y4, (y5, ()))))))) x.1.2.1 x.1.2.2.2.1 x.1.2.2.2.2.1 x.1.2.2.2.2.2.1 x.2.2.2.1 x.2.2.2.2.1
def fCheck_l1_R (F m : Nat) (x : fCheck_l1_T.T) (kq : AExit → ASt → Option Unit) : Option Unit := fCheck_l1F F none (fun y0 y1 y2 y3 y4 y5 => kq .ret (fCheck_l1_T.inst (((), (y0, ((), (y1, (y2, (y3, ())))))), (((), ((), ())), (((), ((), ())), (y4, (y5, ()))))))) (fun y0 y1 y2 y3 y4 y5 => kq (.exit 0) (fCheck_l1_T.inst (((), (y0, ((), (y1, (y2, (y3, ())))))), (((), ((), ())), (((), ((), ())), (y4, (y5, ()))))))) m x.1.2.1 x.1.2.2.2.1 x.1.2.2.2.2.1 x.1.2.2.2.2.2.1 x.2.2.2.1 x.2.2.2.2.1
def fCheck_lo (F : Nat) : List (LoE Unit) := [⟨31, 5, LO.of fCheck_l1_T (fCheck_l1_R F F)⟩]
def fCheck_book (F : Nat) : BookL Unit := { toBook := fCheck_book0, lo := losOf (fCheck_lo F), need := needsOf [(31, 1)] }
set_option maxRecDepth 100000 in
theorem fCheck_l1_step (F : Nat) : LStep prog (fCheck_book F) F 31 0 5 fCheck_l1_T (fCheck_l1_G F) := fun d x KQ => by kernel_rfl
theorem fCheck_loOk (F : Nat) : LoOk prog (fCheck_book F) F := loOk_of (l := fCheck_lo F) rfl (fa (loOne_of 0 (by kernel_rfl) (by kernel_rfl) (lstep_run (fCheck_l1_step F) (fun _ _ => rfl) (fun _ _ _ _ => rfl))) fz)
set_option maxRecDepth 100000 in
theorem fCheck_run (F : Nat) (x : ArgsT fCheck_ps) (kend : List BV → Option Unit) : runFnL prog (fCheck_book F) F 20 27 (argsInst fCheck_ps x) [.d (.int .i64)] kend = fCheck F x.1 none (fun y0 => kend [BV.d (.int .i64) y0]) := by kernel_rfl
theorem fCheck_contract : Contract prog 27 fCheck_orc := con_of (B0 := fCheck_book0) (noNumB_ok num_ok) (rangesB_ok rng_ok) mix_ok (gamB_ok gam_ok) fCheck_run (orcsOf_ok (fa between_contract (fa placed_contract fz))) (by kernel_rfl) (fun _ => rfl) fCheck_loOk (fun x h => (fCheck_plain x.1 h).elim fun F hF => ⟨F, fun kend => hF none _⟩)

@[reducible] def fFind_ps : List PM := [.d (.pair (.slc (.pair (.arr 32 (.int .u8)) (.pair (.int .i64) (.pair (.int .i64) (.pair (.int .i64) .unit))))) .unit), .d (.arr 32 (.int .u8)), .d (.int .i64)]
def fFind_orc : Orc := Orc.of fFind_ps true 0 fun x => (fFind_P x.1 x.2.1 x.2.2.1, [.d (.int .i64) (fFind_r0 x.1 x.2.1 x.2.2.1), .d .bool (fFind_r1 x.1 x.2.1 x.2.2.1)])
@[reducible] def fFind_l1_T : Tpl := { cur := ⟨[(2, .nilp), (0, .var (.int .i64)), (0, .ptr 0 []), (12, .var (.slc (.pair (.arr 32 (.int .u8)) (.pair (.int .i64) (.pair (.int .i64) (.pair (.int .i64) .unit)))))), (0, .var (.int .i64)), (0, .var (.int .i64))], 42⟩, stk := [⟨[(2, .var (.int .i64)), (1, .ptr 3 [])], 18⟩, ⟨[], 0⟩], heap := [.box (.pr (.row 1) (.pr (.hnd .map 2) (.var .unit))), .row 58 (.pair (.arr 32 (.int .u8)) (.pair (.int .i64) (.pair (.int .i64) (.pair (.int .i64) .unit)))) false, .mp 94 3 (.pair (.arr 32 (.int .u8)) (.pair (.int .i64) .unit)) (.int .i64), .box (.var (.arr 32 (.int .u8)))] }
def fFind_orcs : List (FuncId × Orc) := [(37, between_orc), (38, placed_orc)]
def fFind_book0 : Book := { Γ := gam, orc := orcsOf fFind_orcs, hint := hintsOf [(31, { keep := some [2, 3, 4, 17, 18, 19], keeps := [(5, [2, 3, 4, 17, 18, 19])], own := [], dat := [], stk := [[2, 4]], ownb := [(4, 0, 22)] })] }
def fFind_l1_G (F : Nat) (nx : fFind_l1_T.T → Option Unit) (kq : AExit → ASt → Option Unit) (x : fFind_l1_T.T) : Option Unit := fFind_l1 F none (fun s3 s17 s18 s19 length h1 h2 d_ => nx (((), (s3, ((), (s17, (s18, (s19, ())))))), (((length, ((), ())), ((), ())), (((), ((), ())), (h1, (h2, (d_, ()))))))) (fun y0 y1 y2 y3 y4 y5 y6 y7 => kq .ret (fFind_l1_T.inst (((), (y0, ((), (y1, (y2, (y3, ())))))), (((y4, ((), ())), ((), ())), (((), ((), ())), (y5, (y6, (y7, ())))))))) (fun y0 y1 y2 y3 y4 y5 y6 y7 => kq (.exit 0) (fFind_l1_T.inst (((), (y0, ((), (y1, (y2, (y3, ())))))), (((y4, ((), ())), ((), ())), (((), ((), ())), (y5, (y6, (y7, ())))))))) x.1.2.1 x.1.2.2.2.1 x.1.2.2.2.2.1 x.1.2.2.2.2.2.1 x.2.1.1.1 x.2.2.2.1 x.2.2.2.2.1 x.2.2.2.2.2.1
def fFind_l1_R (F m : Nat) (x : fFind_l1_T.T) (kq : AExit → ASt → Option Unit) : Option Unit := fFind_l1F F none (fun y0 y1 y2 y3 y4 y5 y6 y7 => kq .ret (fFind_l1_T.inst (((), (y0, ((), (y1, (y2, (y3, ())))))), (((y4, ((), ())), ((), ())), (((), ((), ())), (y5, (y6, (y7, ())))))))) (fun y0 y1 y2 y3 y4 y5 y6 y7 => kq (.exit 0) (fFind_l1_T.inst (((), (y0, ((), (y1, (y2, (y3, ())))))), (((y4, ((), ())), ((), ())), (((), ((), ())), (y5, (y6, (y7, ())))))))) m x.1.2.1 x.1.2.2.2.1 x.1.2.2.2.2.1 x.1.2.2.2.2.2.1 x.2.1.1.1 x.2.2.2.1 x.2.2.2.2.1 x.2.2.2.2.2.1
def fFind_lo (F : Nat) : List (LoE Unit) := [⟨31, 5, LO.of fFind_l1_T (fFind_l1_R F F)⟩]
def fFind_book (F : Nat) : BookL Unit := { toBook := fFind_book0, lo := losOf (fFind_lo F), need := needsOf [(31, 1)] }
set_option maxRecDepth 100000 in
theorem fFind_l1_step (F : Nat) : LStep prog (fFind_book F) F 31 0 5 fFind_l1_T (fFind_l1_G F) := fun d x KQ => by kernel_rfl
theorem fFind_loOk (F : Nat) : LoOk prog (fFind_book F) F := loOk_of (l := fFind_lo F) rfl (fa (loOne_of 0 (by kernel_rfl) (by kernel_rfl) (lstep_run (fFind_l1_step F) (fun _ _ => rfl) (fun _ _ _ _ => rfl))) fz)
set_option maxRecDepth 100000 in
theorem fFind_run (F : Nat) (x : ArgsT fFind_ps) (kend : List BV → Option Unit) : runFnL prog (fFind_book F) F 20 25 (argsInst fFind_ps x) [.d (.int .i64), .d .bool] kend = fFind F x.1 x.2.1 x.2.2.1 none (fun y0 y1 => kend [BV.d (.int .i64) y0, BV.d .bool y1]) := by kernel_rfl
theorem fFind_contract : Contract prog 25 fFind_orc := con_of (B0 := fFind_book0) (noNumB_ok num_ok) (rangesB_ok rng_ok) mix_ok (gamB_ok gam_ok) fFind_run (orcsOf_ok (fa between_contract (fa placed_contract fz))) (by kernel_rfl) (fun _ => rfl) fFind_loOk (fun x h => (fFind_plain x.1 x.2.1 x.2.2.1 h).elim fun F hF => ⟨F, fun kend => hF none _⟩)

@[reducible] def fAdd_ps : List PM := [.d (.pair (.slc (.pair (.arr 32 (.int .u8)) (.pair (.int .i64) (.pair (.int .i64) (.pair (.int .i64) .unit))))) .unit), .d (.slc (.int .u8))]
def fAdd_orc : Orc := Orc.of fAdd_ps false 0 fun x => (fAdd_P x.1 x.2.1, [.d (.pair (.slc (.pair (.arr 32 (.int .u8)) (.pair (.int .i64) (.pair (.int .i64) (.pair (.int .i64) .unit))))) .unit) (fAdd_r0 x.1 x.2.1), .d (.int .i64) (fAdd_r1 x.1 x.2.1), .d .bool (fAdd_r2 x.1 x.2.1), .d (.int .i64) (fAdd_r3 x.1 x.2.1)])
@[reducible] def fAdd_l1_T : Tpl := { cur := ⟨[(2, .nilp), (0, .var (.int .i64)), (0, .ptr 0 []), (12, .var (.slc (.pair (.arr 32 (.int .u8)) (.pair (.int .i64) (.pair (.int .i64) (.pair (.int .i64) .unit)))))), (0, .var (.int .i64)), (0, .var (.int .i64))], 42⟩, stk := [⟨[(1, .var (.slc (.int .u8))), (2, .ptr 3 [])], 65⟩, ⟨[], 0⟩], heap := [.box (.pr (.row 1) (.pr (.hnd .map 2) (.var .unit))), .row 58 (.pair (.arr 32 (.int .u8)) (.pair (.int .i64) (.pair (.int .i64) (.pair (.int .i64) .unit)))) false, .mp 94 3 (.pair (.arr 32 (.int .u8)) (.pair (.int .i64) .unit)) (.int .i64), .box (.var (.pair (.slc (.pair (.arr 32 (.int .u8)) (.pair (.int .i64) (.pair (.int .i64) (.pair (.int .i64) .unit))))) .unit))] }
def fAdd_orcs : List (FuncId × Orc) := [(30, dSum_orc), (37, between_orc), (38, placed_orc)]
def fAdd_book0 : Book := { Γ := gam, orc := orcsOf fAdd_orcs, hint := hintsOf [(31, { keep := some [2, 3, 4, 17, 18, 19], keeps := [(5, [2, 3, 4, 17, 18, 19])], own := [], dat := [], stk := [[1, 4, 8, 10]], ownb := [(4, 0, 22)] })] }
def fAdd_l1_G (F : Nat) (nx : fAdd_l1_T.T → Option Unit) (kq : AExit → ASt → Option Unit) (x : fAdd_l1_T.T) : Option Unit := fAdd_l1 F none (fun s3 s17 s18 s19 data h1 h2 s4 => nx (((), (s3, ((), (s17, (s18, (s19, ())))))), (((data, ((), ())), ((), ())), (((), ((), ())), (h1, (h2, (s4, ()))))))) (fun y0 y1 y2 y3 y4 y5 y6 y7 => kq .ret (fAdd_l1_T.inst (((), (y0, ((), (y1, (y2, (y3, ())))))), (((y4, ((), ())), ((), ())), (((), ((), ())), (y5, (y6, (y7, ())))))))) (fun y0 y1 y2 y3 y4 y5 y6 y7 => kq (.exit 0) (fAdd_l1_T.inst (((), (y0, ((), (y1, (y2, (y3, ())))))), (((y4, ((), ())), ((), ())), (((), ((), ())), (y5, (y6, (y7, ())))))))) x.1.2.1 x.1.2.2.2.1 x.1.2.2.2.2.1 x.1.2.2.2.2.2.1 x.2.1.1.1 x.2.2.2.1 x.2.2.2.2.1 x.2.2.2.2.2.1
def fAdd_l1_R (F m : Nat) (x : fAdd_l1_T.T) (kq : AExit → ASt → Option Unit) : Option Unit := fAdd_l1F F none (fun y0 y1 y2 y3 y4 y5 y6 y7 => kq .ret (fAdd_l1_T.inst (((), (y0, ((), (y1, (y2, (y3, ())))))), (((y4, ((), ())), ((), ())), (((), ((), ())), (y5, (y6, (y7, ())))))))) (fun y0 y1 y2 y3 y4 y5 y6 y7 => kq (.exit 0) (fAdd_l1_T.inst (((), (y0, ((), (y1, (y2, (y3, ())))))), (((y4, ((), ())), ((), ())), (((), ((), ())), (y5, (y6, (y7, ())))))))) m x.1.2.1 x.1.2.2.2.1 x.1.2.2.2.2.1 x.1.2.2.2.2.2.1 x.2.1.1.1 x.2.2.2.1 x.2.2.2.2.1 x.2.2.2.2.2.1
def fAdd_lo (F : Nat) : List (LoE Unit) := [⟨31, 5, LO.of fAdd_l1_T (fAdd_l1_R F F)⟩]
def fAdd_book (F : Nat) : BookL Unit := { toBook := fAdd_book0, lo := losOf (fAdd_lo F), need := needsOf [(31, 1)] }
set_option maxRecDepth 100000 in
theorem fAdd_l1_step (F : Nat) : LStep prog (fAdd_book F) F 31 0 5 fAdd_l1_T (fAdd_l1_G F) := fun d x KQ => by kernel_rfl
theorem fAdd_loOk (F : Nat) : LoOk prog (fAdd_book F) F := loOk_of (l := fAdd_lo F) rfl (fa (loOne_of 0 (by kernel_rfl) (by kernel_rfl) (lstep_run (fAdd_l1_step F) (fun _ _ => rfl) (fun _ _ _ _ => rfl))) fz)
set_option maxRecDepth 100000 in
theorem fAdd_run (F : Nat) (x : ArgsT fAdd_ps) (kend : List BV → Option Unit) : runFnL prog (fAdd_book F) F 20 13 (argsInst fAdd_ps x) [.d (.pair (.slc (.pair (.arr 32 (.int .u8)) (.pair (.int .i64) (.pair (.int .i64) (.pair (.int .i64) .unit))))) .unit), .d (.int .i64), .d .bool, .d (.int .i64)] kend = fAdd F x.1 x.2.1 none (fun y0 y1 y2 y3 => kend [BV.d (.pair (.slc (.pair (.arr 32 (.int .u8)) (.pair (.int .i64) (.pair (.int .i64) (.pair (.int .i64) .unit))))) .unit) y0, BV.d (.int .i64) y1, BV.d .bool y2, BV.d (.int .i64) y3]) := by kernel_rfl
theorem fAdd_contract : Contract prog 13 fAdd_orc := con_of (B0 := fAdd_book0) (noNumB_ok num_ok) (rangesB_ok rng_ok) mix_ok (gamB_ok gam_ok) fAdd_run (orcsOf_ok (fa dSum_contract (fa between_contract (fa placed_contract fz)))) (by kernel_rfl) (fun _ => rfl) fAdd_loOk (fun x h => (fAdd_plain x.1 x.2.1 h).elim fun F hF => ⟨F, fun kend => hF none _⟩)

@[reducible] def fPlace_ps : List PM := [.d (.pair (.slc (.pair (.arr 32 (.int .u8)) (.pair (.int .i64) (.pair (.int .i64) (.pair (.int .i64) .unit))))) .unit), .d (.int .i64), .d (.int .i64), .d (.int .i64)]
def fPlace_orc : Orc := Orc.of fPlace_ps false 0 fun x => (fPlace_P x.1 x.2.1 x.2.2.1 x.2.2.2.1, [.d (.pair (.slc (.pair (.arr 32 (.int .u8)) (.pair (.int .i64) (.pair (.int .i64) (.pair (.int .i64) .unit))))) .unit) (fPlace_r0 x.1 x.2.1 x.2.2.1 x.2.2.2.1), .d (.int .i64) (fPlace_r1 x.1 x.2.1 x.2.2.1 x.2.2.2.1)])
@[reducible] def fPlace_l1_T : Tpl := { cur := ⟨[(2, .nilp), (0, .var (.int .i64)), (0, .ptr 0 []), (12, .var (.slc (.pair (.arr 32 (.int .u8)) (.pair (.int .i64) (.pair (.int .i64) (.pair (.int .i64) .unit)))))), (0, .var (.int .i64)), (0, .var (.int .i64))], 42⟩, stk := [⟨[(1, .var (.int .i64)), (0, .var (.int .i64)), (0, .var (.int .i64)), (4, .ptr 3 [])], 70⟩, ⟨[], 0⟩], heap := [.box (.pr (.row 1) (.pr (.hnd .map 2) (.var .unit))), .row 58 (.pair (.arr 32 (.int .u8)) (.pair (.int .i64) (.pair (.int .i64) (.pair (.int .i64) .unit)))) false, .mp 94 3 (.pair (.arr 32 (.int .u8)) (.pair (.int .i64) .unit)) (.int .i64), .box (.var (.pair (.slc (.pair (.arr 32 (.int .u8)) (.pair (.int .i64) (.pair (.int .i64) (.pair (.int .i64) .unit))))) .unit))] }
def fPlace_orcs : List (FuncId × Orc) := [(37, between_orc), (38, placed_orc)]
def fPlace_book0 : Book := { Γ := gam, orc := orcsOf fPlace_orcs, hint := hintsOf [(31, { keep := some [2, 3, 4, 17, 18, 19], keeps := [(5, [2, 3, 4, 17, 18, 19])], own := [], dat := [], stk := [[1, 2, 3, 8, 10]], ownb := [(4, 0, 22)] })] }
def fPlace_l1_G (F : Nat) (nx : fPlace_l1_T.T → Option Unit) (kq : AExit → ASt → Option Unit) (x : fPlace_l1_T.T) : Option Unit := fPlace_l1 F none (fun s3 s17 s18 s19 fragment block at_ h1 h2 s8 => nx (((), (s3, ((), (s17, (s18, (s19, ())))))), (((fragment, (block, (at_, ((), ())))), ((), ())), (((), ((), ())), (h1, (h2, (s8, ()))))))) (fun y0 y1 y2 y3 y4 y5 y6 y7 y8 y9 => kq .ret (fPlace_l1_T.inst (((), (y0, ((), (y1, (y2, (y3, ())))))), (((y4, (y5, (y6, ((), ())))), ((), ())), (((), ((), ())), (y7, (y8, (y9, ())))))))) (fun y0 y1 y2 y3 y4 y5 y6 y7 y8 y9 => kq (.exit 0) (fPlace_l1_T.inst (((), (y0, ((), (y1, (y2, (y3, ())))))), (((y4, (y5, (y6, ((), ())))), ((), ())), (((), ((), ())), (y7, (y8, (y9, ())))))))) x.1.2.1 x.1.2.2.2.1 x.1.2.2.2.2.1 x.1.2.2.2.2.2.1 x.2.1.1.1 x.2.1.1.2.1 x.2.1.1.2.2.1 x.2.2.2.1 x.2.2.2.2.1 x.2.2.2.2.2.1
def fPlace_l1_R (F m : Nat) (x : fPlace_l1_T.T) (kq : AExit → ASt → Option Unit) : Option Unit := fPlace_l1F F none (fun y0 y1 y2 y3 y4 y5 y6 y7 y8 y9 => kq .ret (fPlace_l1_T.inst (((), (y0, ((), (y1, (y2, (y3, ())))))), (((y4, (y5, (y6, ((), ())))), ((), ())), (((), ((), ())), (y7, (y8, (y9, ())))))))) (fun y0 y1 y2 y3 y4 y5 y6 y7 y8 y9 => kq (.exit 0) (fPlace_l1_T.inst (((), (y0, ((), (y1, (y2, (y3, ())))))), (((y4, (y5, (y6, ((), ())))), ((), ())), (((), ((), ())), (y7, (y8, (y9, ())))))))) m x.1.2.1 x.1.2.2.2.1 x.1.2.2.2.2.1 x.1.2.2.2.2.2.1 x.2.1.1.1 x.2.1.1.2.1 x.2.1.1.2.2.1 x.2.2.2.1 x.2.2.2.2.1 x.2.2.2.2.2.1
def fPlace_lo (F : Nat) : List (LoE Unit) := [⟨31, 5, LO.of fPlace_l1_T (fPlace_l1_R F F)⟩]
def fPlace_book (F : Nat) : BookL Unit := { toBook := fPlace_book0, lo := losOf (fPlace_lo F), need := needsOf [(31, 1)] }
set_option maxRecDepth 100000 in
theorem fPlace_l1_step (F : Nat) : LStep prog (fPlace_book F) F 31 0 5 fPlace_l1_T (fPlace_l1_G F) := fun d x KQ => by kernel_rfl
theorem fPlace_loOk (F : Nat) : LoOk prog (fPlace_book F) F := loOk_of (l := fPlace_lo F) rfl (fa (loOne_of 0 (by kernel_rfl) (by kernel_rfl) (lstep_run (fPlace_l1_step F) (fun _ _ => rfl) (fun _ _ _ _ => rfl))) fz)
set_option maxRecDepth 100000 in
theorem fPlace_run (F : Nat) (x : ArgsT fPlace_ps) (kend : List BV → Option Unit) : runFnL prog (fPlace_book F) F 20 16 (argsInst fPlace_ps x) [.d (.pair (.slc (.pair (.arr 32 (.int .u8)) (.pair (.int .i64) (.pair (.int .i64) (.pair (.int .i64) .unit))))) .unit), .d (.int .i64)] kend = fPlace F x.1 x.2.1 x.2.2.1 x.2.2.2.1 none (fun y0 y1 => kend [BV.d (.pair (.slc (.pair (.arr 32 (.int .u8)) (.pair (.int .i64) (.pair (.int .i64) (.pair (.int .i64) .unit))))) .unit) y0, BV.d (.int .i64) y1]) := by kernel_rfl
theorem fPlace_contract : Contract prog 16 fPlace_orc := con_of (B0 := fPlace_book0) (noNumB_ok num_ok) (rangesB_ok rng_ok) mix_ok (gamB_ok gam_ok) fPlace_run (orcsOf_ok (fa between_contract (fa placed_contract fz))) (by kernel_rfl) (fun _ => rfl) fPlace_loOk (fun x h => (fPlace_plain x.1 x.2.1 x.2.2.1 x.2.2.2.1 h).elim fun F hF => ⟨F, fun kend => hF none _⟩)

@[reducible] def fStored_ps : List PM := [.d (.pair (.slc (.pair (.arr 32 (.int .u8)) (.pair (.int .i64) (.pair (.int .i64) (.pair (.int .i64) .unit))))) .unit)]
def fStored_orc : Orc := Orc.of fStored_ps true 0 fun x => (fStored_P x.1, [.d (.int .i64) (fStored_r0 x.1), .d (.int .i64) (fStored_r1 x.1)])
@[reducible] def fStored_l1_T : Tpl := { cur := ⟨[(2, .nilp), (0, .var (.int .i64)), (0, .ptr 0 []), (12, .var (.slc (.pair (.arr 32 (.int .u8)) (.pair (.int .i64) (.pair (.int .i64) (.pair (.int .i64) .unit)))))), (0, .var (.int .i64)), (0, .var (.int .i64))], 42⟩, stk := [⟨[], 35⟩, ⟨[], 0⟩], heap := [.box (.pr (.row 1) (.pr (.hnd .map 2) (.var .unit))), .row 58 (.pair (.arr 32 (.int .u8)) (.pair (.int .i64) (.pair (.int .i64) (.pair (.int .i64) .unit)))) false, .mp 94 3 (.pair (.arr 32 (.int .u8)) (.pair (.int .i64) .unit)) (.int .i64)] }
@[reducible] def fStored_l2_T : Tpl := { cur := ⟨[(6, .var (.int .i64)), (13, .row 0), (0, .var (.int .i64)), (0, .var (.int .i64))], 12⟩, stk := [⟨[], 0⟩], heap := [.row 58 (.pair (.arr 32 (.int .u8)) (.pair (.int .i64) (.pair (.int .i64) (.pair (.int .i64) .unit)))) false] }
def fStored_orcs : List (FuncId × Orc) := [(37, between_orc), (38, placed_orc)]
def fStored_book0 : Book := { Γ := gam, orc := orcsOf fStored_orcs, hint := hintsOf [(18, { keep := some [6, 20, 21, 22], keeps := [(6, [6, 20, 21, 22])], own := [], dat := [], stk := [] }), (31, { keep := some [2, 3, 4, 17, 18, 19], keeps := [(5, [2, 3, 4, 17, 18, 19])], own := [], dat := [], stk := [[]], ownb := [(4, 0, 22)] })] }
def fStored_l1_G (F : Nat) (nx : fStored_l1_T.T → Option Unit) (kq : AExit → ASt → Option Unit) (x : fStored_l1_T.T) : Option Unit := fStored_l1 F none (fun s3 s17 s18 s19 h1 h2 => nx (((), (s3, ((), (s17, (s18, (s19, ())))))), (((), ((), ())), (((), ((), ())), (h1, (h2, ())))))) (fun y0 y1 y2 y3 y4 y5 => kq .ret (fStored_l1_T.inst (((), (y0, ((), (y1, (y2, (y3, ())))))), (((), ((), ())), (((), ((), ())), (y4, (y5, ()))))))) (fun y0 y1 y2 y3 y4 y5 => kq (.exit 0) (fStored_l1_T.inst (((), (y0, ((), (y1, (y2, (y3, ())))))), (((), ((), ())), (((), ((), ())), (y4, (y5, ()))))))) x.1.2.1 x.1.2.2.2.1 x.1.2.2.2.2.1 x.1.2.2.2.2.2.1 x.2.2.2.1 x.2.2.2.2.1
def fStored_l1_R (F m : Nat) (x : fStored_l1_T.T) (kq : AExit → ASt → Option Unit) : Option Unit := fStored_l1F F none (fun y0 y1 y2 y3 y4 y5 => kq .ret (fStored_l1_T.inst (((), (y0, ((), (y1, (y2, (y3, ())))))), (((), ((), ())), (((), ((), ())), (y4, (y5, ()))))))) (fun y0 y1 y2 y3 y4 y5 => kq (.exit 0) (fStored_l1_T.inst (((), (y0, ((), (y1, (y2, (y3, ())))))), (((), ((), ())), (((), ((), ())), (y4, (y5, ()))))))) m x.1.2.1 x.1.2.2.2.1 x.1.2.2.2.2.1 x.1.2.2.2.2.2.1 x.2.2.2.1 x.2.2.2.2.1
def fStored_l2_G (F : Nat) (nx : fStored_l2_T.T → Option Unit) (kq : AExit → ASt → Option Unit) (x : fStored_l2_T.T) : Option Unit := fStored_l2 F none (fun sum s21 s22 s20 => nx ((sum, ((), (s21, (s22, ())))), (((), ()), (s20, ())))) (fun y0 y1 y2 y3 => kq (.exit 0) (fStored_l2_T.inst ((y0, ((), (y1, (y2, ())))), (((), ()), (y3, ()))))) x.1.1 x.1.2.2.1 x.1.2.2.2.1 x.2.2.1
def fStored_l2_R (F m : Nat) (x : fStored_l2_T.T) (kq : AExit → ASt → Option Unit) : Option Unit := fStored_l2F F none (fun y0 y1 y2 y3 => kq (.exit 0) (fStored_l2_T.inst ((y0, ((), (y1, (y2, ())))), (((), ()), (y3, ()))))) m x.1.1 x.1.2.2.1 x.1.2.2.2.1 x.2.2.1
def fStored_lo (F : Nat) : List (LoE Unit) := [⟨31, 5, LO.of fStored_l1_T (fStored_l1_R F F)⟩,
  ⟨18, 6, LO.of fStored_l2_T (fStored_l2_R F F)⟩]
def fStored_book (F : Nat) : BookL Unit := { toBook := fStored_book0, lo := losOf (fStored_lo F), need := needsOf [(31, 1)] }
set_option maxRecDepth 100000 in
theorem fStored_l1_step (F : Nat) : LStep prog (fStored_book F) F 31 0 5 fStored_l1_T (fStored_l1_G F) := fun d x KQ => by kernel_rfl
set_option maxRecDepth 100000 in
theorem fStored_l2_step (F : Nat) : LStep prog (fStored_book F) F 18 0 6 fStored_l2_T (fStored_l2_G F) := fun d x KQ => by kernel_rfl
theorem fStored_loOk (F : Nat) : LoOk prog (fStored_book F) F := loOk_of (l := fStored_lo F) rfl (fa (loOne_of 0 (by kernel_rfl) (by kernel_rfl) (lstep_run (fStored_l1_step F) (fun _ _ => rfl) (fun _ _ _ _ => rfl))) (fa (loOne_of 0 (by kernel_rfl) (by kernel_rfl) (lstep_run (fStored_l2_step F) (fun _ _ => rfl) (fun _ _ _ _ => rfl))) fz))
set_option maxRecDepth 100000 in
theorem fStored_run (F : Nat) (x : ArgsT fStored_ps) (kend : List BV → Option Unit) : runFnL prog (fStored_book F) F 20 18 (argsInst fStored_ps x) [.d (.int .i64), .d (.int .i64)] kend = fStored F x.1 none (fun y0 y1 => kend [BV.d (.int .i64) y0, BV.d (.int .i64) y1]) := by kernel_rfl
theorem fStored_contract : Contract prog 18 fStored_orc := con_of (B0 := fStored_book0) (noNumB_ok num_ok) (rangesB_ok rng_ok) mix_ok (gamB_ok gam_ok) fStored_run (orcsOf_ok (fa between_contract (fa placed_contract fz))) (by kernel_rfl) (fun _ => rfl) fStored_loOk (fun x h => (fStored_plain x.1 h).elim fun F hF => ⟨F, fun kend => hF none _⟩)

@[reducible] def qFew_ps : List PM := [.d (.pair (.slc (.pair (.arr 32 (.int .u8)) (.pair (.int .i64) (.pair (.int .i64) (.pair (.int .i64) .unit))))) .unit)]
def qFew_orc : Orc := Orc.of qFew_ps true 0 fun x => (true, [.d .bool (qFew_r x.1)])
def qFew_orcs : List (FuncId × Orc) := []
def qFew_book0 : Book := { Γ := gam, orc := orcsOf qFew_orcs, hint := hintsOf [] }
def qFew_lo (F : Nat) : List (LoE Unit) := []
def qFew_book (F : Nat) : BookL Unit := { toBook := qFew_book0, lo := losOf (qFew_lo F), need := needsOf [] }
theorem qFew_loOk (F : Nat) : LoOk prog (qFew_book F) F := loOk_of (l := qFew_lo F) rfl fz
set_option maxRecDepth 100000 in
theorem qFew_run (F : Nat) (x : ArgsT qFew_ps) (kend : List BV → Option Unit) : runFnL prog (qFew_book F) F 20 11 (argsInst qFew_ps x) [.d .bool] kend = qFew F x.1 none (fun y0 => kend [BV.d .bool y0]) := by kernel_rfl
theorem qFew_contract : Contract prog 11 qFew_orc := con_of (B0 := qFew_book0) (noNumB_ok num_ok) (rangesB_ok rng_ok) mix_ok (gamB_ok gam_ok) qFew_run (orcsOf_ok fz) (by kernel_rfl) (fun _ => rfl) qFew_loOk (fun x _ => (qFew_plain x.1).elim fun F hF => ⟨F, fun kend => hF none _⟩)

@[reducible] def qfind_ps : List PM := [.d (.slc (.pair (.arr 32 (.int .u8)) (.pair (.int .i64) (.pair (.int .i64) (.pair (.int .i64) .unit))))), .d (.arr 32 (.int .u8)), .d (.int .i64)]
def qfind_orc : Orc := Orc.of qfind_ps true 0 fun x => (qfind_P x.1 x.2.1 x.2.2.1, [.d (.int .i64) (qfind_r x.1 x.2.1 x.2.2.1)])
@[reducible] def qfind_l1_T : Tpl := { cur := ⟨[(0, .var (.slc (.pair (.arr 32 (.int .u8)) (.pair (.int .i64) (.pair (.int .i64) (.pair (.int .i64) .unit)))))), (1, .var (.int .i64)), (1, .ptr 0 []), (1, .var (.int .i64)), (0, .var (.int .i64))], 23⟩, stk := [⟨[], 0⟩], heap := [.box (.var (.arr 32 (.int .u8)))] }
def qfind_orcs : List (FuncId × Orc) := []
def qfind_book0 : Book := { Γ := gam, orc := orcsOf qfind_orcs, hint := hintsOf [(36, { keep := some [0, 2, 4, 6, 7], keeps := [(2, [0, 2, 4, 6, 7])], own := [], dat := [], stk := [] })] }
def qfind_l1_G (F : Nat) (nx : qfind_l1_T.T → Option Unit) (kq : AExit → ASt → Option Unit) (x : qfind_l1_T.T) : Option Unit := qfind_l1 F none (fun l length s6 i d_ => nx ((l, (length, ((), (s6, (i, ()))))), (((), ()), (d_, ())))) (fun y0 y1 y2 y3 y4 => kq .ret (qfind_l1_T.inst ((y0, (y1, ((), (y2, (y3, ()))))), (((), ()), (y4, ()))))) (fun y0 y1 y2 y3 y4 => kq (.exit 0) (qfind_l1_T.inst ((y0, (y1, ((), (y2, (y3, ()))))), (((), ()), (y4, ()))))) x.1.1 x.1.2.1 x.1.2.2.2.1 x.1.2.2.2.2.1 x.2.2.1
def qfind_l1_R (F m : Nat) (x : qfind_l1_T.T) (kq : AExit → ASt → Option Unit) : Option Unit := qfind_l1F F none (fun y0 y1 y2 y3 y4 => kq .ret (qfind_l1_T.inst ((y0, (y1, ((), (y2, (y3, ()))))), (((), ()), (y4, ()))))) (fun y0 y1 y2 y3 y4 => kq (.exit 0) (qfind_l1_T.inst ((y0, (y1, ((), (y2, (y3, ()))))), (((), ()), (y4, ()))))) m x.1.1 x.1.2.1 x.1.2.2.2.1 x.1.2.2.2.2.1 x.2.2.1
def qfind_lo (F : Nat) : List (LoE Unit) := [⟨36, 2, LO.of qfind_l1_T (qfind_l1_R F F)⟩]
def qfind_book (F : Nat) : BookL Unit := { toBook := qfind_book0, lo := losOf (qfind_lo F), need := needsOf [] }
set_option maxRecDepth 100000 in
theorem qfind_l1_step (F : Nat) : LStep prog (qfind_book F) F 36 0 2 qfind_l1_T (qfind_l1_G F) := fun d x KQ => by kernel_rfl
theorem qfind_loOk (F : Nat) : LoOk prog (qfind_book F) F := loOk_of (l := qfind_lo F) rfl (fa (loOne_of 0 (by kernel_rfl) (by kernel_rfl) (lstep_run (qfind_l1_step F) (fun _ _ => rfl) (fun _ _ _ _ => rfl))) fz)
set_option maxRecDepth 100000 in
theorem qfind_run (F : Nat) (x : ArgsT qfind_ps) (kend : List BV → Option Unit) : runFnL prog (qfind_book F) F 20 36 (argsInst qfind_ps x) [.d (.int .i64)] kend = qfind F x.1 x.2.1 x.2.2.1 none (fun y0 => kend [BV.d (.int .i64) y0]) := by kernel_rfl
theorem qfind_contract : Contract prog 36 qfind_orc := con_of (B0 := qfind_book0) (noNumB_ok num_ok) (rangesB_ok rng_ok) mix_ok (gamB_ok gam_ok) qfind_run (orcsOf_ok fz) (by kernel_rfl) (fun _ => rfl) qfind_loOk (fun x h => (qfind_plain x.1 x.2.1 x.2.2.1 h).elim fun F hF => ⟨F, fun kend => hF none _⟩)

@[reducible] def qplace_ps : List PM := [.d (.int .i64), .d (.int .i64), .d (.int .i64)]
def qplace_orc : Orc := Orc.of qplace_ps true 0 fun x => (qplace_P x.1 x.2.1 x.2.2.1, [.d .bool (qplace_r x.1 x.2.1 x.2.2.1)])
def qplace_orcs : List (FuncId × Orc) := []
def qplace_book0 : Book := { Γ := gam, orc := orcsOf qplace_orcs, hint := hintsOf [] }
def qplace_lo (F : Nat) : List (LoE Unit) := []
def qplace_book (F : Nat) : BookL Unit := { toBook := qplace_book0, lo := losOf (qplace_lo F), need := needsOf [] }
theorem qplace_loOk (F : Nat) : LoOk prog (qplace_book F) F := loOk_of (l := qplace_lo F) rfl fz
set_option maxRecDepth 100000 in
theorem qplace_run (F : Nat) (x : ArgsT qplace_ps) (kend : List BV → Option Unit) : runFnL prog (qplace_book F) F 20 39 (argsInst qplace_ps x) [.d .bool] kend = qplace F x.1 x.2.1 x.2.2.1 none (fun y0 => kend [BV.d .bool y0]) := by kernel_rfl
theorem qplace_contract : Contract prog 39 qplace_orc := con_of (B0 := qplace_book0) (noNumB_ok num_ok) (rangesB_ok rng_ok) mix_ok (gamB_ok gam_ok) qplace_run (orcsOf_ok fz) (by kernel_rfl) (fun _ => rfl) qplace_loOk (fun x h => (qplace_plain x.1 x.2.1 x.2.2.1 h).elim fun F hF => ⟨F, fun kend => hF none _⟩)

@[reducible] def qCheck_ps : List PM := [.d (.pair (.slc (.pair (.arr 32 (.int .u8)) (.pair (.int .i64) (.pair (.int .i64) (.pair (.int .i64) .unit))))) .unit)]
def qCheck_orc : Orc := Orc.of qCheck_ps true 0 fun x => (qCheck_P x.1, [.d (.int .i64) (qCheck_r x.1)])
@[reducible] def qCheck_l1_T : Tpl := { cur := ⟨[(1, .ptr 0 []), (0, .var (.int .i64)), (0, .var (.int .i64))], 55⟩, stk := [⟨[], 0⟩], heap := [.box (.var (.pair (.slc (.pair (.arr 32 (.int .u8)) (.pair (.int .i64) (.pair (.int .i64) (.pair (.int .i64) .unit))))) .unit))] }
def qCheck_orcs : List (FuncId × Orc) := [(36, qfind_orc), (39, qplace_orc)]
def qCheck_book0 : Book := { Γ := gam, orc := orcsOf qCheck_orcs, hint := hintsOf [(28, { keep := some [1, 2, 3], keeps := [(4, [1, 2, 3])], own := [], dat := [], stk := [] })] }
def qCheck_l1_G (F : Nat) (nx : qCheck_l1_T.T → Option Unit) (kq : AExit → ASt → Option Unit) (x : qCheck_l1_T.T) : Option Unit := qCheck_l1 F none (fun s2 i f => nx (((), (s2, (i, ()))), (((), ()), (f, ())))) (fun y0 y1 y2 => kq .ret (qCheck_l1_T.inst (((), (y0, (y1, ()))), (((), ()), (y2, ()))))) (fun y0 y1 y2 => kq (.exit 0) (qCheck_l1_T.inst (((), (y0, (y1, ()))), (((), ()), (y2, ()))))) x.1.2.1 x.1.2.2.1 x.2.2.1
def qCheck_l1_R (F m : Nat) (x : qCheck_l1_T.T) (kq : AExit → ASt → Option Unit) : Option Unit := qCheck_l1F F none (fun y0 y1 y2 => kq .ret (qCheck_l1_T.inst (((), (y0, (y1, ()))), (((), ()), (y2, ()))))) (fun y0 y1 y2 => kq (.exit 0) (qCheck_l1_T.inst (((), (y0, (y1, ()))), (((), ()), (y2, ()))))) m x.1.2.1 x.1.2.2.1 x.2.2.1
def qCheck_lo (F : Nat) : List (LoE Unit) := [⟨28, 4, LO.of qCheck_l1_T (qCheck_l1_R F F)⟩]
def qCheck_book (F : Nat) : BookL Unit := { toBook := qCheck_book0, lo := losOf (qCheck_lo F), need := needsOf [] }
set_option maxRecDepth 100000 in
theorem qCheck_l1_step (F : Nat) : LStep prog (qCheck_book F) F 28 0 4 qCheck_l1_T (qCheck_l1_G F) := fun d x KQ => by kernel_rfl
theorem qCheck_loOk (F : Nat) : LoOk prog (qCheck_book F) F := loOk_of (l := qCheck_lo F) rfl (fa (loOne_of 0 (by kernel_rfl) (by kernel_rfl) (lstep_run (qCheck_l1_step F) (fun _ _ => rfl) (fun _ _ _ _ => rfl))) fz)
set_option maxRecDepth 100000 in
theorem qCheck_run (F : Nat) (x : ArgsT qCheck_ps) (kend : List BV → Option Unit) : runFnL prog (qCheck_book F) F 20 28 (argsInst qCheck_ps x) [.d (.int .i64)] kend = qCheck F x.1 none (fun y0 => kend [BV.d (.int .i64) y0]) := by kernel_rfl
theorem qCheck_contract : Contract prog 28 qCheck_orc := con_of (B0 := qCheck_book0) (noNumB_ok num_ok) (rangesB_ok rng_ok) mix_ok (gamB_ok gam_ok) qCheck_run (orcsOf_ok (fa qfind_contract (fa qplace_contract fz))) (by kernel_rfl) (fun _ => rfl) qCheck_loOk (fun x h => (qCheck_plain x.1 h).elim fun F hF => ⟨F, fun kend => hF none _⟩)

@[reducible] def qFind_ps : List PM := [.d (.pair (.slc (.pair (.arr 32 (.int .u8)) (.pair (.int .i64) (.pair (.int .i64) (.pair (.int .i64) .unit))))) .unit), .d (.arr 32 (.int .u8)), .d (.int .i64)]
def qFind_orc : Orc := Orc.of qFind_ps true 0 fun x => (qFind_P x.1 x.2.1 x.2.2.1, [.d (.int .i64) (qFind_r0 x.1 x.2.1 x.2.2.1), .d .bool (qFind_r1 x.1 x.2.1 x.2.2.1)])
def qFind_orcs : List (FuncId × Orc) := [(28, qCheck_orc), (36, qfind_orc)]
def qFind_book0 : Book := { Γ := gam, orc := orcsOf qFind_orcs, hint := hintsOf [] }
def qFind_lo (F : Nat) : List (LoE Unit) := []
def qFind_book (F : Nat) : BookL Unit := { toBook := qFind_book0, lo := losOf (qFind_lo F), need := needsOf [] }
theorem qFind_loOk (F : Nat) : LoOk prog (qFind_book F) F := loOk_of (l := qFind_lo F) rfl fz
set_option maxRecDepth 100000 in
theorem qFind_run (F : Nat) (x : ArgsT qFind_ps) (kend : List BV → Option Unit) : runFnL prog (qFind_book F) F 20 26 (argsInst qFind_ps x) [.d (.int .i64), .d .bool] kend = qFind F x.1 x.2.1 x.2.2.1 none (fun y0 y1 => kend [BV.d (.int .i64) y0, BV.d .bool y1]) := by kernel_rfl
theorem qFind_contract : Contract prog 26 qFind_orc := con_of (B0 := qFind_book0) (noNumB_ok num_ok) (rangesB_ok rng_ok) mix_ok (gamB_ok gam_ok) qFind_run (orcsOf_ok (fa qCheck_contract (fa qfind_contract fz))) (by kernel_rfl) (fun _ => rfl) qFind_loOk (fun x h => (qFind_plain x.1 x.2.1 x.2.2.1 h).elim fun F hF => ⟨F, fun kend => hF none _⟩)

@[reducible] def qCopy_ps : List PM := [.d (.pair (.slc (.pair (.arr 32 (.int .u8)) (.pair (.int .i64) (.pair (.int .i64) (.pair (.int .i64) .unit))))) .unit)]
def qCopy_orc : Orc := Orc.of qCopy_ps false 0 fun x => (qCopy_P x.1, [.d (.pair (.slc (.pair (.arr 32 (.int .u8)) (.pair (.int .i64) (.pair (.int .i64) (.pair (.int .i64) .unit))))) .unit) (qCopy_r x.1)])
def qCopy_orcs : List (FuncId × Orc) := []
def qCopy_book0 : Book := { Γ := gam, orc := orcsOf qCopy_orcs, hint := hintsOf [] }
def qCopy_lo (F : Nat) : List (LoE Unit) := []
def qCopy_book (F : Nat) : BookL Unit := { toBook := qCopy_book0, lo := losOf (qCopy_lo F), need := needsOf [] }
theorem qCopy_loOk (F : Nat) : LoOk prog (qCopy_book F) F := loOk_of (l := qCopy_lo F) rfl fz
set_option maxRecDepth 100000 in
theorem qCopy_run (F : Nat) (x : ArgsT qCopy_ps) (kend : List BV → Option Unit) : runFnL prog (qCopy_book F) F 20 34 (argsInst qCopy_ps x) [.d (.pair (.slc (.pair (.arr 32 (.int .u8)) (.pair (.int .i64) (.pair (.int .i64) (.pair (.int .i64) .unit))))) .unit)] kend = qCopy F x.1 none (fun y0 => kend [BV.d (.pair (.slc (.pair (.arr 32 (.int .u8)) (.pair (.int .i64) (.pair (.int .i64) (.pair (.int .i64) .unit))))) .unit) y0]) := by kernel_rfl
theorem qCopy_contract : Contract prog 34 qCopy_orc := con_of (B0 := qCopy_book0) (noNumB_ok num_ok) (rangesB_ok rng_ok) mix_ok (gamB_ok gam_ok) qCopy_run (orcsOf_ok fz) (by kernel_rfl) (fun _ => rfl) qCopy_loOk (fun x h => (qCopy_plain x.1 h).elim fun F hF => ⟨F, fun kend => hF none _⟩)

@[reducible] def qAdd_ps : List PM := [.d (.pair (.slc (.pair (.arr 32 (.int .u8)) (.pair (.int .i64) (.pair (.int .i64) (.pair (.int .i64) .unit))))) .unit), .d (.slc (.int .u8))]
def qAdd_orc : Orc := Orc.of qAdd_ps false 0 fun x => (qAdd_P x.1 x.2.1, [.d (.pair (.slc (.pair (.arr 32 (.int .u8)) (.pair (.int .i64) (.pair (.int .i64) (.pair (.int .i64) .unit))))) .unit) (qAdd_r0 x.1 x.2.1), .d (.int .i64) (qAdd_r1 x.1 x.2.1), .d .bool (qAdd_r2 x.1 x.2.1), .d (.int .i64) (qAdd_r3 x.1 x.2.1)])
def qAdd_orcs : List (FuncId × Orc) := [(28, qCheck_orc), (35, rSum_orc), (36, qfind_orc)]
def qAdd_book0 : Book := { Γ := gam, orc := orcsOf qAdd_orcs, hint := hintsOf [] }
def qAdd_lo (F : Nat) : List (LoE Unit) := []
def qAdd_book (F : Nat) : BookL Unit := { toBook := qAdd_book0, lo := losOf (qAdd_lo F), need := needsOf [] }
theorem qAdd_loOk (F : Nat) : LoOk prog (qAdd_book F) F := loOk_of (l := qAdd_lo F) rfl fz
set_option maxRecDepth 100000 in
theorem qAdd_run (F : Nat) (x : ArgsT qAdd_ps) (kend : List BV → Option Unit) : runFnL prog (qAdd_book F) F 20 14 (argsInst qAdd_ps x) [.d (.pair (.slc (.pair (.arr 32 (.int .u8)) (.pair (.int .i64) (.pair (.int .i64) (.pair (.int .i64) .unit))))) .unit), .d (.int .i64), .d .bool, .d (.int .i64)] kend = qAdd F x.1 x.2.1 none (fun y0 y1 y2 y3 => kend [BV.d (.pair (.slc (.pair (.arr 32 (.int .u8)) (.pair (.int .i64) (.pair (.int .i64) (.pair (.int .i64) .unit))))) .unit) y0, BV.d (.int .i64) y1, BV.d .bool y2, BV.d (.int .i64) y3]) := by kernel_rfl
theorem qAdd_contract : Contract prog 14 qAdd_orc := con_of (B0 := qAdd_book0) (noNumB_ok num_ok) (rangesB_ok rng_ok) mix_ok (gamB_ok gam_ok) qAdd_run (orcsOf_ok (fa qCheck_contract (fa rSum_contract (fa qfind_contract fz)))) (by kernel_rfl) (fun _ => rfl) qAdd_loOk (fun x h => (qAdd_plain x.1 x.2.1 h).elim fun F hF => ⟨F, fun kend => hF none _⟩)

@[reducible] def qPlace_ps : List PM := [.d (.pair (.slc (.pair (.arr 32 (.int .u8)) (.pair (.int .i64) (.pair (.int .i64) (.pair (.int .i64) .unit))))) .unit), .d (.int .i64), .d (.int .i64), .d (.int .i64)]
def qPlace_orc : Orc := Orc.of qPlace_ps false 0 fun x => (qPlace_P x.1 x.2.1 x.2.2.1 x.2.2.2.1, [.d (.pair (.slc (.pair (.arr 32 (.int .u8)) (.pair (.int .i64) (.pair (.int .i64) (.pair (.int .i64) .unit))))) .unit) (qPlace_r0 x.1 x.2.1 x.2.2.1 x.2.2.2.1), .d (.int .i64) (qPlace_r1 x.1 x.2.1 x.2.2.1 x.2.2.2.1)])
def qPlace_orcs : List (FuncId × Orc) := [(28, qCheck_orc), (39, qplace_orc)]
def qPlace_book0 : Book := { Γ := gam, orc := orcsOf qPlace_orcs, hint := hintsOf [] }
def qPlace_lo (F : Nat) : List (LoE Unit) := []
def qPlace_book (F : Nat) : BookL Unit := { toBook := qPlace_book0, lo := losOf (qPlace_lo F), need := needsOf [] }
theorem qPlace_loOk (F : Nat) : LoOk prog (qPlace_book F) F := loOk_of (l := qPlace_lo F) rfl fz
set_option maxRecDepth 100000 in
theorem qPlace_run (F : Nat) (x : ArgsT qPlace_ps) (kend : List BV → Option Unit) : runFnL prog (qPlace_book F) F 20 17 (argsInst qPlace_ps x) [.d (.pair (.slc (.pair (.arr 32 (.int .u8)) (.pair (.int .i64) (.pair (.int .i64) (.pair (.int .i64) .unit))))) .unit), .d (.int .i64)] kend = qPlace F x.1 x.2.1 x.2.2.1 x.2.2.2.1 none (fun y0 y1 => kend [BV.d (.pair (.slc (.pair (.arr 32 (.int .u8)) (.pair (.int .i64) (.pair (.int .i64) (.pair (.int .i64) .unit))))) .unit) y0, BV.d (.int .i64) y1]) := by kernel_rfl
theorem qPlace_contract : Contract prog 17 qPlace_orc := con_of (B0 := qPlace_book0) (noNumB_ok num_ok) (rangesB_ok rng_ok) mix_ok (gamB_ok gam_ok) qPlace_run (orcsOf_ok (fa qCheck_contract (fa qplace_contract fz))) (by kernel_rfl) (fun _ => rfl) qPlace_loOk (fun x h => (qPlace_plain x.1 x.2.1 x.2.2.1 x.2.2.2.1 h).elim fun F hF => ⟨F, fun kend => hF none _⟩)

@[reducible] def qStored_ps : List PM := [.d (.pair (.slc (.pair (.arr 32 (.int .u8)) (.pair (.int .i64) (.pair (.int .i64) (.pair (.int .i64) .unit))))) .unit)]
def qStored_orc : Orc := Orc.of qStored_ps true 0 fun x => (qStored_P x.1, [.d (.int .i64) (qStored_r0 x.1), .d (.int .i64) (qStored_r1 x.1)])
@[reducible] def qStored_l1_T : Tpl := { cur := ⟨[(1, .ptr 0 []), (3, .var (.int .i64)), (0, .var (.int .i64))], 28⟩, stk := [⟨[], 0⟩], heap := [.box (.var (.pair (.slc (.pair (.arr 32 (.int .u8)) (.pair (.int .i64) (.pair (.int .i64) (.pair (.int .i64) .unit))))) .unit))] }
def qStored_orcs : List (FuncId × Orc) := [(28, qCheck_orc)]
def qStored_book0 : Book := { Γ := gam, orc := orcsOf qStored_orcs, hint := hintsOf [(19, { keep := some [1, 5, 6], keeps := [(6, [1, 5, 6])], own := [], dat := [], stk := [] })] }
def qStored_l1_G (F : Nat) (nx : qStored_l1_T.T → Option Unit) (kq : AExit → ASt → Option Unit) (x : qStored_l1_T.T) : Option Unit := qStored_l1 F none (fun n i f => nx (((), (n, (i, ()))), (((), ()), (f, ())))) (fun y0 y1 y2 => kq (.exit 0) (qStored_l1_T.inst (((), (y0, (y1, ()))), (((), ()), (y2, ()))))) x.1.2.1 x.1.2.2.1 x.2.2.1
def qStored_l1_R (F m : Nat) (x : qStored_l1_T.T) (kq : AExit → ASt → Option Unit) : Option Unit := qStored_l1F F none (fun y0 y1 y2 => kq (.exit 0) (qStored_l1_T.inst (((), (y0, (y1, ()))), (((), ()), (y2, ()))))) m x.1.2.1 x.1.2.2.1 x.2.2.1
def qStored_lo (F : Nat) : List (LoE Unit) := [⟨19, 6, LO.of qStored_l1_T (qStored_l1_R F F)⟩]
def qStored_book (F : Nat) : BookL Unit := { toBook := qStored_book0, lo := losOf (qStored_lo F), need := needsOf [] }
set_option maxRecDepth 100000 in
theorem qStored_l1_step (F : Nat) : LStep prog (qStored_book F) F 19 0 6 qStored_l1_T (qStored_l1_G F) := fun d x KQ => by kernel_rfl
theorem qStored_loOk (F : Nat) : LoOk prog (qStored_book F) F := loOk_of (l := qStored_lo F) rfl (fa (loOne_of 0 (by kernel_rfl) (by kernel_rfl) (lstep_run (qStored_l1_step F) (fun _ _ => rfl) (fun _ _ _ _ => rfl))) fz)
set_option maxRecDepth 100000 in
theorem qStored_run (F : Nat) (x : ArgsT qStored_ps) (kend : List BV → Option Unit) : runFnL prog (qStored_book F) F 20 19 (argsInst qStored_ps x) [.d (.int .i64), .d (.int .i64)] kend = qStored F x.1 none (fun y0 y1 => kend [BV.d (.int .i64) y0, BV.d (.int .i64) y1]) := by kernel_rfl
theorem qStored_contract : Contract prog 19 qStored_orc := con_of (B0 := qStored_book0) (noNumB_ok num_ok) (rangesB_ok rng_ok) mix_ok (gamB_ok gam_ok) qStored_run (orcsOf_ok (fa qCheck_contract fz)) (by kernel_rfl) (fun _ => rfl) qStored_loOk (fun x h => (qStored_plain x.1 h).elim fun F hF => ⟨F, fun kend => hF none _⟩)

@[reducible] def qSame_ps : List PM := [.d (.pair (.slc (.pair (.arr 32 (.int .u8)) (.pair (.int .i64) (.pair (.int .i64) (.pair (.int .i64) .unit))))) .unit), .d (.pair (.slc (.pair (.arr 32 (.int .u8)) (.pair (.int .i64) (.pair (.int .i64) (.pair (.int .i64) .unit))))) .unit)]
def qSame_orc : Orc := Orc.of qSame_ps true 0 fun x => (qSame_P x.1 x.2.1, [.d .bool (qSame_r x.1 x.2.1)])
@[reducible] def qSame_l1_T : Tpl := { cur := ⟨[(2, .ptr 0 []), (0, .ptr 1 []), (0, .var .bool), (0, .var (.int .i64))], 25⟩, stk := [⟨[], 0⟩], heap := [.box (.var (.pair (.slc (.pair (.arr 32 (.int .u8)) (.pair (.int .i64) (.pair (.int .i64) (.pair (.int .i64) .unit))))) .unit)), .box (.var (.pair (.slc (.pair (.arr 32 (.int .u8)) (.pair (.int .i64) (.pair (.int .i64) (.pair (.int .i64) .unit))))) .unit))] }
def qSame_orcs : List (FuncId × Orc) := []
def qSame_book0 : Book := { Γ := gam, orc := orcsOf qSame_orcs, hint := hintsOf [(15, { keep := some [2, 3, 4, 5], keeps := [(4, [2, 3, 4, 5])], own := [], dat := [], stk := [] })] }
def qSame_l1_G (F : Nat) (nx : qSame_l1_T.T → Option Unit) (kq : AExit → ASt → Option Unit) (x : qSame_l1_T.T) : Option Unit := qSame_l1 F none (fun s4 i a b => nx (((), ((), (s4, (i, ())))), (((), ()), (a, (b, ()))))) (fun y0 y1 y2 y3 => kq .ret (qSame_l1_T.inst (((), ((), (y0, (y1, ())))), (((), ()), (y2, (y3, ())))))) (fun y0 y1 y2 y3 => kq (.exit 0) (qSame_l1_T.inst (((), ((), (y0, (y1, ())))), (((), ()), (y2, (y3, ())))))) x.1.2.2.1 x.1.2.2.2.1 x.2.2.1 x.2.2.2.1
def qSame_l1_R (F m : Nat) (x : qSame_l1_T.T) (kq : AExit → ASt → Option Unit) : Option Unit := qSame_l1F F none (fun y0 y1 y2 y3 => kq .ret (qSame_l1_T.inst (((), ((), (y0, (y1, ())))), (((), ()), (y2, (y3, ())))))) (fun y0 y1 y2 y3 => kq (.exit 0) (qSame_l1_T.inst (((), ((), (y0, (y1, ())))), (((), ()), (y2, (y3, ())))))) m x.1.2.2.1 x.1.2.2.2.1 x.2.2.1 x.2.2.2.1
def qSame_lo (F : Nat) : List (LoE Unit) := [⟨15, 4, LO.of qSame_l1_T (qSame_l1_R F F)⟩]
def qSame_book (F : Nat) : BookL Unit := { toBook := qSame_book0, lo := losOf (qSame_lo F), need := needsOf [] }
set_option maxRecDepth 100000 in
theorem qSame_l1_step (F : Nat) : LStep prog (qSame_book F) F 15 0 4 qSame_l1_T (qSame_l1_G F) := fun d x KQ => by kernel_rfl
theorem qSame_loOk (F : Nat) : LoOk prog (qSame_book F) F := loOk_of (l := qSame_lo F) rfl (fa (loOne_of 0 (by kernel_rfl) (by kernel_rfl) (lstep_run (qSame_l1_step F) (fun _ _ => rfl) (fun _ _ _ _ => rfl))) fz)
set_option maxRecDepth 100000 in
theorem qSame_run (F : Nat) (x : ArgsT qSame_ps) (kend : List BV → Option Unit) : runFnL prog (qSame_book F) F 20 15 (argsInst qSame_ps x) [.d .bool] kend = qSame F x.1 x.2.1 none (fun y0 => kend [BV.d .bool y0]) := by kernel_rfl
theorem qSame_contract : Contract prog 15 qSame_orc := con_of (B0 := qSame_book0) (noNumB_ok num_ok) (rangesB_ok rng_ok) mix_ok (gamB_ok gam_ok) qSame_run (orcsOf_ok fz) (by kernel_rfl) (fun _ => rfl) qSame_loOk (fun x h => (qSame_plain x.1 x.2.1 h).elim fun F hF => ⟨F, fun kend => hF none _⟩)

@[reducible] def qSameInts_ps : List PM := [.d (.slc (.int .i64)), .d (.slc (.int .i64))]
def qSameInts_orc : Orc := Orc.of qSameInts_ps true 0 fun x => (qSameInts_P x.1 x.2.1, [.d .bool (qSameInts_r x.1 x.2.1)])
@[reducible] def qSameInts_l1_T : Tpl := { cur := ⟨[(0, .var (.slc (.int .i64))), (0, .var (.slc (.int .i64))), (2, .var .bool), (0, .var (.int .i64))], 20⟩, stk := [⟨[], 0⟩], heap := [] }
def qSameInts_orcs : List (FuncId × Orc) := []
def qSameInts_book0 : Book := { Γ := gam, orc := orcsOf qSameInts_orcs, hint := hintsOf [(43, { keep := some [0, 1, 4, 5], keeps := [(4, [0, 1, 4, 5])], own := [], dat := [], stk := [] })] }
def qSameInts_l1_G (F : Nat) (nx : qSameInts_l1_T.T → Option Unit) (kq : AExit → ASt → Option Unit) (x : qSameInts_l1_T.T) : Option Unit := qSameInts_l1 F none (fun a b s4 i => nx ((a, (b, (s4, (i, ())))), (((), ()), ()))) (fun y0 y1 y2 y3 => kq .ret (qSameInts_l1_T.inst ((y0, (y1, (y2, (y3, ())))), (((), ()), ())))) (fun y0 y1 y2 y3 => kq (.exit 0) (qSameInts_l1_T.inst ((y0, (y1, (y2, (y3, ())))), (((), ()), ())))) x.1.1 x.1.2.1 x.1.2.2.1 x.1.2.2.2.1
def qSameInts_l1_R (F m : Nat) (x : qSameInts_l1_T.T) (kq : AExit → ASt → Option Unit) : Option Unit := qSameInts_l1F F none (fun y0 y1 y2 y3 => kq .ret (qSameInts_l1_T.inst ((y0, (y1, (y2, (y3, ())))), (((), ()), ())))) (fun y0 y1 y2 y3 => kq (.exit 0) (qSameInts_l1_T.inst ((y0, (y1, (y2, (y3, ())))), (((), ()), ())))) m x.1.1 x.1.2.1 x.1.2.2.1 x.1.2.2.2.1
def qSameInts_lo (F : Nat) : List (LoE Unit) := [⟨43, 4, LO.of qSameInts_l1_T (qSameInts_l1_R F F)⟩]
def qSameInts_book (F : Nat) : BookL Unit := { toBook := qSameInts_book0, lo := losOf (qSameInts_lo F), need := needsOf [] }
set_option maxRecDepth 100000 in
theorem qSameInts_l1_step (F : Nat) : LStep prog (qSameInts_book F) F 43 0 4 qSameInts_l1_T (qSameInts_l1_G F) := fun d x KQ => by kernel_rfl
theorem qSameInts_loOk (F : Nat) : LoOk prog (qSameInts_book F) F := loOk_of (l := qSameInts_lo F) rfl (fa (loOne_of 0 (by kernel_rfl) (by kernel_rfl) (lstep_run (qSameInts_l1_step F) (fun _ _ => rfl) (fun _ _ _ _ => rfl))) fz)
set_option maxRecDepth 100000 in
theorem qSameInts_run (F : Nat) (x : ArgsT qSameInts_ps) (kend : List BV → Option Unit) : runFnL prog (qSameInts_book F) F 20 43 (argsInst qSameInts_ps x) [.d .bool] kend = qSameInts F x.1 x.2.1 none (fun y0 => kend [BV.d .bool y0]) := by kernel_rfl
theorem qSameInts_contract : Contract prog 43 qSameInts_orc := con_of (B0 := qSameInts_book0) (noNumB_ok num_ok) (rangesB_ok rng_ok) mix_ok (gamB_ok gam_ok) qSameInts_run (orcsOf_ok fz) (by kernel_rfl) (fun _ => rfl) qSameInts_loOk (fun x h => (qSameInts_plain x.1 x.2.1 h).elim fun F hF => ⟨F, fun kend => hF none _⟩)

@[reducible] def fGroups_ps : List PM := [.d (.slc (.int .i64)), .d (.int .i64)]
def fGroups_orc : Orc := Orc.of fGroups_ps false 0 fun x => (fGroups_P x.1 x.2.1, [.d (.slc (.slc (.int .i64))) (fGroups_r0 x.1 x.2.1), .d (.int .i64) (fGroups_r1 x.1 x.2.1)])
@[reducible] def fGroups_l1_T : Tpl := { cur := ⟨[(0, .var (.slc (.int .i64))), (0, .fn 40 (.un)), (2, .var (.int .i64)), (2, .var (.int .i64)), (0, .var (.int .i64))], 10⟩, stk := [⟨[], 9⟩, ⟨[(0, .var (.slc (.int .i64))), (0, .var (.int .i64)), (2, .nils), (0, .var (.int .i64)), (0, .fn 40 (.un)), (10, .lit false)], 13⟩, ⟨[], 0⟩], heap := [] }
@[reducible] def fGroups_l2_T : Tpl := { cur := ⟨[(0, .hnd .yield 0), (1, .ptr 3 []), (1, .row 4), (0, .var (.int .i64)), (2, .var (.slc (.int .i64))), (0, .var (.int .i64)), (0, .var (.int .i64))], 32⟩, stk := [⟨[(0, .hnd .yield 0)], 0⟩, ⟨[(0, .var (.slc (.int .i64))), (0, .var (.int .i64)), (2, .nils), (0, .var (.int .i64)), (0, .fn 40 (.un)), (0, .ptr 1 []), (9, .lit false)], 13⟩, ⟨[], 0⟩], heap := [.lp 20 8 ⟨[(7, .ptr 1 [])], 23⟩ .ready, .box (.row 2), .row 45 (.slc (.int .i64)) false, .box (.var (.int .i64)), .row 3 (.int .i64) false] }
def fGroups_orcs : List (FuncId × Orc) := [(37, between_orc)]
def fGroups_book0 : Book := { Γ := gam, orc := orcsOf fGroups_orcs, hint := hintsOf [(20, { keep := some [], keeps := [], own := [], dat := [], stk := [], rgb := [(5007, [(7, 0, 46)])] }), (50, { keep := some [0, 1, 4, 7, 8], keeps := [(2, [0, 1, 4, 7, 8])], own := [], dat := [], stk := [[], [0, 1, 4, 5, 6, 7, 8, 17, 25]] }), (51, { keep := some [0, 2, 4, 5, 8, 9, 10], keeps := [(3, [0, 2, 4, 5, 8, 9, 10])], own := [(4, 45)], dat := [], stk := [[0], [0, 1, 4, 5, 6, 7, 8, 17, 25]] })] }
def fGroups_l1_G (F : Nat) (nx : fGroups_l1_T.T → Option Unit) (kq : AExit → ASt → Option Unit) (x : fGroups_l1_T.T) : Option Unit := fGroups_l1 F none (fun s s4 s7 s8 lengths most s5 => nx ((s, ((), (s4, (s7, (s8, ()))))), (((), ((lengths, (most, ((), (s5, ((), ((), ())))))), ((), ()))), ()))) (fun y0 y1 y2 y3 y4 y5 y6 => kq .ret (fGroups_l1_T.inst ((y0, ((), (y1, (y2, (y3, ()))))), (((), ((y4, (y5, ((), (y6, ((), ((), ())))))), ((), ()))), ())))) (fun y0 y1 y2 y3 y4 y5 y6 => kq (.exit 0) (fGroups_l1_T.inst ((y0, ((), (y1, (y2, (y3, ()))))), (((), ((y4, (y5, ((), (y6, ((), ((), ())))))), ((), ()))), ())))) x.1.1 x.1.2.2.1 x.1.2.2.2.1 x.1.2.2.2.2.1 x.2.1.2.1.1 x.2.1.2.1.2.1 x.2.1.2.1.2.2.2.1
def fGroups_l1_R (F m : Nat) (x : fGroups_l1_T.T) (kq : AExit → ASt → Option Unit) : Option Unit := fGroups_l1F F none (fun y0 y1 y2 y3 y4 y5 y6 => kq .ret (fGroups_l1_T.inst ((y0, ((), (y1, (y2, (y3, ()))))), (((), ((y4, (y5, ((), (y6, ((), ((), ())))))), ((), ()))), ())))) (fun y0 y1 y2 y3 y4 y5 y6 => kq (.exit 0) (fGroups_l1_T.inst ((y0, ((), (y1, (y2, (y3, ()))))), (((), ((y4, (y5, ((), (y6, ((), ((), ())))))), ((), ()))), ())))) m x.1.1 x.1.2.2.1 x.1.2.2.2.1 x.1.2.2.2.2.1 x.2.1.2.1.1 x.2.1.2.1.2.1 x.2.1.2.1.2.2.2.1
def fGroups_l2_G (F : Nat) (nx : fGroups_l2_T.T → Option Unit) (kq : AExit → ASt → Option Unit) (x : fGroups_l2_T.T) : Option Unit := fGroups_l2 F none (fun sum s8 s9 s10 lengths most s5 out s2 group => nx (((), ((), ((), (sum, (s8, (s9, (s10, ()))))))), ((((), ()), ((lengths, (most, ((), (s5, ((), ((), ((), ()))))))), ((), ()))), (((), ()), ((), (out, (s2, (group, ())))))))) (fun y0 y1 y2 y3 y4 y5 y6 y7 y8 y9 => kq (.exit 0) (fGroups_l2_T.inst (((), ((), ((), (y0, (y1, (y2, (y3, ()))))))), ((((), ()), ((y4, (y5, ((), (y6, ((), ((), ((), ()))))))), ((), ()))), (((), ()), ((), (y7, (y8, (y9, ()))))))))) x.1.2.2.2.1 x.1.2.2.2.2.1 x.1.2.2.2.2.2.1 x.1.2.2.2.2.2.2.1 x.2.1.2.1.1 x.2.1.2.1.2.1 x.2.1.2.1.2.2.2.1 x.2.2.2.2.1 x.2.2.2.2.2.1 x.2.2.2.2.2.2.1
def fGroups_l2_R (F m : Nat) (x : fGroups_l2_T.T) (kq : AExit → ASt → Option Unit) : Option Unit := fGroups_l2F F none (fun y0 y1 y2 y3 y4 y5 y6 y7 y8 y9 => kq (.exit 0) (fGroups_l2_T.inst (((), ((), ((), (y0, (y1, (y2, (y3, ()))))))), ((((), ()), ((y4, (y5, ((), (y6, ((), ((), ((), ()))))))), ((), ()))), (((), ()), ((), (y7, (y8, (y9, ()))))))))) m x.1.2.2.2.1 x.1.2.2.2.2.1 x.1.2.2.2.2.2.1 x.1.2.2.2.2.2.2.1 x.2.1.2.1.1 x.2.1.2.1.2.1 x.2.1.2.1.2.2.2.1 x.2.2.2.2.1 x.2.2.2.2.2.1 x.2.2.2.2.2.2.1
def fGroups_lo (F : Nat) : List (LoE Unit) := [⟨50, 2, LO.of fGroups_l1_T (fGroups_l1_R F F)⟩,
  ⟨51, 3, LO.of fGroups_l2_T (fGroups_l2_R F F)⟩]
def fGroups_book (F : Nat) : BookL Unit := { toBook := fGroups_book0, lo := losOf (fGroups_lo F), need := needsOf [(50, 1), (51, 1)] }
set_option maxRecDepth 100000 in
theorem fGroups_l1_step (F : Nat) : LStep prog (fGroups_book F) F 50 0 2 fGroups_l1_T (fGroups_l1_G F) := fun d x KQ => by kernel_rfl
set_option maxRecDepth 100000 in
theorem fGroups_l2_step (F : Nat) : LStep prog (fGroups_book F) F 51 0 3 fGroups_l2_T (fGroups_l2_G F) := fun d x KQ => by kernel_rfl
theorem fGroups_loOk (F : Nat) : LoOk prog (fGroups_book F) F := loOk_of (l := fGroups_lo F) rfl (fa (loOne_of 0 (by kernel_rfl) (by kernel_rfl) (lstep_run (fGroups_l1_step F) (fun _ _ => rfl) (fun _ _ _ _ => rfl))) (fa (loOne_of 0 (by kernel_rfl) (by kernel_rfl) (lstep_run (fGroups_l2_step F) (fun _ _ => rfl) (fun _ _ _ _ => rfl))) fz))
set_option maxRecDepth 100000 in
theorem fGroups_run (F : Nat) (x : ArgsT fGroups_ps) (kend : List BV → Option Unit) : runFnL prog (fGroups_book F) F 20 20 (argsInst fGroups_ps x) [.d (.slc (.slc (.int .i64))), .d (.int .i64)] kend = fGroups F x.1 x.2.1 none (fun y0 y1 => kend [BV.d (.slc (.slc (.int .i64))) y0, BV.d (.int .i64) y1]) := by kernel_rfl
theorem fGroups_contract : Contract prog 20 fGroups_orc := con_of (B0 := fGroups_book0) (noNumB_ok num_ok) (rangesB_ok rng_ok) mix_ok (gamB_ok gam_ok) fGroups_run (orcsOf_ok (fa between_contract fz)) (by kernel_rfl) (fun _ => rfl) fGroups_loOk (fun x h => (fGroups_plain x.1 x.2.1 h).elim fun F hF => ⟨F, fun kend => hF none _⟩)

@[reducible] def qSameGroups_ps : List PM := [.d (.slc (.slc (.int .i64))), .d (.slc (.slc (.int .i64)))]
def qSameGroups_orc : Orc := Orc.of qSameGroups_ps true 0 fun x => (qSameGroups_P x.1 x.2.1, [.d .bool (qSameGroups_r x.1 x.2.1)])
@[reducible] def qSameGroups_l1_T : Tpl := { cur := ⟨[(0, .var (.slc (.slc (.int .i64)))), (0, .var (.slc (.slc (.int .i64)))), (2, .var .bool), (0, .var (.int .i64))], 21⟩, stk := [⟨[], 0⟩], heap := [] }
def qSameGroups_orcs : List (FuncId × Orc) := [(43, qSameInts_orc)]
def qSameGroups_book0 : Book := { Γ := gam, orc := orcsOf qSameGroups_orcs, hint := hintsOf [(22, { keep := some [0, 1, 4, 5], keeps := [(4, [0, 1, 4, 5])], own := [], dat := [], stk := [] })] }
def qSameGroups_l1_G (F : Nat) (nx : qSameGroups_l1_T.T → Option Unit) (kq : AExit → ASt → Option Unit) (x : qSameGroups_l1_T.T) : Option Unit := qSameGroups_l1 F none (fun a b s4 i => nx ((a, (b, (s4, (i, ())))), (((), ()), ()))) (fun y0 y1 y2 y3 => kq .ret (qSameGroups_l1_T.inst ((y0, (y1, (y2, (y3, ())))), (((), ()), ())))) (fun y0 y1 y2 y3 => kq (.exit 0) (qSameGroups_l1_T.inst ((y0, (y1, (y2, (y3, ())))), (((), ()), ())))) x.1.1 x.1.2.1 x.1.2.2.1 x.1.2.2.2.1
def qSameGroups_l1_R (F m : Nat) (x : qSameGroups_l1_T.T) (kq : AExit → ASt → Option Unit) : Option Unit := qSameGroups_l1F F none (fun y0 y1 y2 y3 => kq .ret (qSameGroups_l1_T.inst ((y0, (y1, (y2, (y3, ())))), (((), ()), ())))) (fun y0 y1 y2 y3 => kq (.exit 0) (qSameGroups_l1_T.inst ((y0, (y1, (y2, (y3, ())))), (((), ()), ())))) m x.1.1 x.1.2.1 x.1.2.2.1 x.1.2.2.2.1
def qSameGroups_lo (F : Nat) : List (LoE Unit) := [⟨22, 4, LO.of qSameGroups_l1_T (qSameGroups_l1_R F F)⟩]
def qSameGroups_book (F : Nat) : BookL Unit := { toBook := qSameGroups_book0, lo := losOf (qSameGroups_lo F), need := needsOf [] }
set_option maxRecDepth 100000 in
theorem qSameGroups_l1_step (F : Nat) : LStep prog (qSameGroups_book F) F 22 0 4 qSameGroups_l1_T (qSameGroups_l1_G F) := fun d x KQ => by kernel_rfl
theorem qSameGroups_loOk (F : Nat) : LoOk prog (qSameGroups_book F) F := loOk_of (l := qSameGroups_lo F) rfl (fa (loOne_of 0 (by kernel_rfl) (by kernel_rfl) (lstep_run (qSameGroups_l1_step F) (fun _ _ => rfl) (fun _ _ _ _ => rfl))) fz)
set_option maxRecDepth 100000 in
theorem qSameGroups_run (F : Nat) (x : ArgsT qSameGroups_ps) (kend : List BV → Option Unit) : runFnL prog (qSameGroups_book F) F 20 22 (argsInst qSameGroups_ps x) [.d .bool] kend = qSameGroups F x.1 x.2.1 none (fun y0 => kend [BV.d .bool y0]) := by kernel_rfl
theorem qSameGroups_contract : Contract prog 22 qSameGroups_orc := con_of (B0 := qSameGroups_book0) (noNumB_ok num_ok) (rangesB_ok rng_ok) mix_ok (gamB_ok gam_ok) qSameGroups_run (orcsOf_ok (fa qSameInts_contract fz)) (by kernel_rfl) (fun _ => rfl) qSameGroups_loOk (fun x h => (qSameGroups_plain x.1 x.2.1 h).elim fun F hF => ⟨F, fun kend => hF none _⟩)

@[reducible] def qCollide_ps : List PM := [.d (.slc (.slc (.int .u8)))]
def qCollide_orc : Orc := Orc.of qCollide_ps true 0 fun x => (qCollide_P x.1, [.d .bool (qCollide_r x.1)])
@[reducible] def qCollide_l2_T : Tpl := { cur := ⟨[(0, .var (.slc (.slc (.int .u8)))), (1, .var .bool), (0, .var (.int .i64)), (0, .var (.int .i64))], 48⟩, stk := [⟨[], 0⟩], heap := [] }
@[reducible] def qCollide_l1_T : Tpl := { cur := ⟨[(0, .var (.slc (.slc (.int .u8)))), (1, .var .bool), (0, .var (.int .i64))], 49⟩, stk := [⟨[], 0⟩], heap := [] }
def qCollide_orcs : List (FuncId × Orc) := [(35, rSum_orc)]
def qCollide_book0 : Book := { Γ := gam, orc := orcsOf qCollide_orcs, hint := hintsOf [(29, { keep := some [0, 2, 3, 4], keeps := [(2, [0, 2, 3]), (5, [0, 2, 3, 4])], own := [], dat := [], stk := [] })] }
def qCollide_l2_G (F : Nat) (nx : qCollide_l2_T.T → Option Unit) (kq : AExit → ASt → Option Unit) (x : qCollide_l2_T.T) : Option Unit := qCollide_l2 F none (fun l s2 i k => nx ((l, (s2, (i, (k, ())))), (((), ()), ()))) (fun y0 y1 y2 y3 => kq .ret (qCollide_l2_T.inst ((y0, (y1, (y2, (y3, ())))), (((), ()), ())))) (fun y0 y1 y2 y3 => kq (.exit 2) (qCollide_l2_T.inst ((y0, (y1, (y2, (y3, ())))), (((), ()), ())))) x.1.1 x.1.2.1 x.1.2.2.1 x.1.2.2.2.1
def qCollide_l2_R (F m : Nat) (x : qCollide_l2_T.T) (kq : AExit → ASt → Option Unit) : Option Unit := qCollide_l2F F none (fun y0 y1 y2 y3 => kq .ret (qCollide_l2_T.inst ((y0, (y1, (y2, (y3, ())))), (((), ()), ())))) (fun y0 y1 y2 y3 => kq (.exit 2) (qCollide_l2_T.inst ((y0, (y1, (y2, (y3, ())))), (((), ()), ())))) m x.1.1 x.1.2.1 x.1.2.2.1 x.1.2.2.2.1
def qCollide_l1_G (F : Nat) (nx : qCollide_l1_T.T → Option Unit) (kq : AExit → ASt → Option Unit) (x : qCollide_l1_T.T) : Option Unit := qCollide_l1 F none (fun l s2 i => nx ((l, (s2, (i, ()))), (((), ()), ()))) (fun y0 y1 y2 => kq .ret (qCollide_l1_T.inst ((y0, (y1, (y2, ()))), (((), ()), ())))) (fun y0 y1 y2 => kq (.exit 0) (qCollide_l1_T.inst ((y0, (y1, (y2, ()))), (((), ()), ())))) x.1.1 x.1.2.1 x.1.2.2.1
def qCollide_l1_R (F m : Nat) (x : qCollide_l1_T.T) (kq : AExit → ASt → Option Unit) : Option Unit := qCollide_l1F F none (fun y0 y1 y2 => kq .ret (qCollide_l1_T.inst ((y0, (y1, (y2, ()))), (((), ()), ())))) (fun y0 y1 y2 => kq (.exit 0) (qCollide_l1_T.inst ((y0, (y1, (y2, ()))), (((), ()), ())))) m x.1.1 x.1.2.1 x.1.2.2.1
def qCollide_lo (F : Nat) : List (LoE Unit) := [⟨29, 5, LO.of qCollide_l2_T (qCollide_l2_R F F)⟩,
  ⟨29, 2, LO.of qCollide_l1_T (qCollide_l1_R F F)⟩]
def qCollide_book (F : Nat) : BookL Unit := { toBook := qCollide_book0, lo := losOf (qCollide_lo F), need := needsOf [] }
set_option maxRecDepth 100000 in
theorem qCollide_l2_step (F : Nat) : LStep prog (qCollide_book F) F 29 1 5 qCollide_l2_T (qCollide_l2_G F) := fun d x KQ => by kernel_rfl
set_option maxRecDepth 100000 in
theorem qCollide_l1_step (F : Nat) : LStep prog (qCollide_book F) F 29 0 2 qCollide_l1_T (qCollide_l1_G F) := fun d x KQ => by kernel_rfl
theorem qCollide_loOk (F : Nat) : LoOk prog (qCollide_book F) F := loOk_of (l := qCollide_lo F) rfl (fa (loOne_of 1 (by kernel_rfl) (by kernel_rfl) (lstep_run (qCollide_l2_step F) (fun _ _ => rfl) (fun _ _ _ _ => rfl))) (fa (loOne_of 0 (by kernel_rfl) (by kernel_rfl) (lstep_run (qCollide_l1_step F) (fun _ _ => rfl) (fun _ _ _ _ => rfl))) fz))
set_option maxRecDepth 100000 in
theorem qCollide_run (F : Nat) (x : ArgsT qCollide_ps) (kend : List BV → Option Unit) : runFnL prog (qCollide_book F) F 20 29 (argsInst qCollide_ps x) [.d .bool] kend = qCollide F x.1 none (fun y0 => kend [BV.d .bool y0]) := by kernel_rfl
theorem qCollide_contract : Contract prog 29 qCollide_orc := con_of (B0 := qCollide_book0) (noNumB_ok num_ok) (rangesB_ok rng_ok) mix_ok (gamB_ok gam_ok) qCollide_run (orcsOf_ok (fa rSum_contract fz)) (by kernel_rfl) (fun _ => rfl) qCollide_loOk (fun x h => (qCollide_plain x.1 h).elim fun F hF => ⟨F, fun kend => hF none _⟩)

@[reducible] def law46_few_ps : List PM := [.d (.slc (.slc (.int .u8)))]
def law46_few_orc : Orc := Orc.of law46_few_ps true 0 fun x => (law46_few_P x.1, [.d .bool (law46_few_r x.1)])
@[reducible] def law46_few_l1_T : Tpl := { cur := ⟨[(0, .var (.slc (.slc (.int .u8)))), (1, .var .bool), (0, .var (.int .i64))], 19⟩, stk := [⟨[], 0⟩], heap := [] }
def law46_few_orcs : List (FuncId × Orc) := []
def law46_few_book0 : Book := { Γ := gam, orc := orcsOf law46_few_orcs, hint := hintsOf [(23, { keep := some [0, 2, 3], keeps := [(2, [0, 2, 3])], own := [], dat := [], stk := [] })] }
def law46_few_l1_G (F : Nat) (nx : law46_few_l1_T.T → Option Unit) (kq : AExit → ASt → Option Unit) (x : law46_few_l1_T.T) : Option Unit := law46_few_l1 F none (fun l s2 i => nx ((l, (s2, (i, ()))), (((), ()), ()))) (fun y0 y1 y2 => kq .ret (law46_few_l1_T.inst ((y0, (y1, (y2, ()))), (((), ()), ())))) (fun y0 y1 y2 => kq (.exit 0) (law46_few_l1_T.inst ((y0, (y1, (y2, ()))), (((), ()), ())))) x.1.1 x.1.2.1 x.1.2.2.1
def law46_few_l1_R (F m : Nat) (x : law46_few_l1_T.T) (kq : AExit → ASt → Option Unit) : Option Unit := law46_few_l1F F none (fun y0 y1 y2 => kq .ret (law46_few_l1_T.inst ((y0, (y1, (y2, ()))), (((), ()), ())))) (fun y0 y1 y2 => kq (.exit 0) (law46_few_l1_T.inst ((y0, (y1, (y2, ()))), (((), ()), ())))) m x.1.1 x.1.2.1 x.1.2.2.1
def law46_few_lo (F : Nat) : List (LoE Unit) := [⟨23, 2, LO.of law46_few_l1_T (law46_few_l1_R F F)⟩]
def law46_few_book (F : Nat) : BookL Unit := { toBook := law46_few_book0, lo := losOf (law46_few_lo F), need := needsOf [] }
set_option maxRecDepth 100000 in
theorem law46_few_l1_step (F : Nat) : LStep prog (law46_few_book F) F 23 0 2 law46_few_l1_T (law46_few_l1_G F) := fun d x KQ => by kernel_rfl
theorem law46_few_loOk (F : Nat) : LoOk prog (law46_few_book F) F := loOk_of (l := law46_few_lo F) rfl (fa (loOne_of 0 (by kernel_rfl) (by kernel_rfl) (lstep_run (law46_few_l1_step F) (fun _ _ => rfl) (fun _ _ _ _ => rfl))) fz)
set_option maxRecDepth 100000 in
theorem law46_few_run (F : Nat) (x : ArgsT law46_few_ps) (kend : List BV → Option Unit) : runFnL prog (law46_few_book F) F 20 23 (argsInst law46_few_ps x) [.d .bool] kend = law46_few F x.1 none (fun y0 => kend [BV.d .bool y0]) := by kernel_rfl
theorem law46_few_contract : Contract prog 23 law46_few_orc := con_of (B0 := law46_few_book0) (noNumB_ok num_ok) (rangesB_ok rng_ok) mix_ok (gamB_ok gam_ok) law46_few_run (orcsOf_ok fz) (by kernel_rfl) (fun _ => rfl) law46_few_loOk (fun x h => (law46_few_plain x.1 h).elim fun F hF => ⟨F, fun kend => hF none _⟩)

@[reducible] def law46_sizes_ps : List PM := [.d (.slc (.int .u8))]
def law46_sizes_orc : Orc := Orc.of law46_sizes_ps false 0 fun x => (law46_sizes_P x.1, [.d (.slc (.int .i64)) (law46_sizes_r x.1)])
@[reducible] def law46_sizes_l1_T : Tpl := { cur := ⟨[(0, .var (.slc (.int .u8))), (2, .row 0), (0, .var (.int .i64))], 17⟩, stk := [⟨[], 0⟩], heap := [.row 3 (.int .i64) false] }
def law46_sizes_orcs : List (FuncId × Orc) := []
def law46_sizes_book0 : Book := { Γ := gam, orc := orcsOf law46_sizes_orcs, hint := hintsOf [(24, { keep := some [0, 3, 4], keeps := [(3, [0, 3, 4])], own := [(3, 45)], dat := [], stk := [] })] }
def law46_sizes_l1_G (F : Nat) (nx : law46_sizes_l1_T.T → Option Unit) (kq : AExit → ASt → Option Unit) (x : law46_sizes_l1_T.T) : Option Unit := law46_sizes_l1 F none (fun l i out => nx ((l, ((), (i, ()))), (((), ()), (out, ())))) (fun y0 y1 y2 => kq (.exit 0) (law46_sizes_l1_T.inst ((y0, ((), (y1, ()))), (((), ()), (y2, ()))))) x.1.1 x.1.2.2.1 x.2.2.1
def law46_sizes_l1_R (F m : Nat) (x : law46_sizes_l1_T.T) (kq : AExit → ASt → Option Unit) : Option Unit := law46_sizes_l1F F none (fun y0 y1 y2 => kq (.exit 0) (law46_sizes_l1_T.inst ((y0, ((), (y1, ()))), (((), ()), (y2, ()))))) m x.1.1 x.1.2.2.1 x.2.2.1
def law46_sizes_lo (F : Nat) : List (LoE Unit) := [⟨24, 3, LO.of law46_sizes_l1_T (law46_sizes_l1_R F F)⟩]
def law46_sizes_book (F : Nat) : BookL Unit := { toBook := law46_sizes_book0, lo := losOf (law46_sizes_lo F), need := needsOf [] }
set_option maxRecDepth 100000 in
theorem law46_sizes_l1_step (F : Nat) : LStep prog (law46_sizes_book F) F 24 0 3 law46_sizes_l1_T (law46_sizes_l1_G F) := fun d x KQ => by kernel_rfl
theorem law46_sizes_loOk (F : Nat) : LoOk prog (law46_sizes_book F) F := loOk_of (l := law46_sizes_lo F) rfl (fa (loOne_of 0 (by kernel_rfl) (by kernel_rfl) (lstep_run (law46_sizes_l1_step F) (fun _ _ => rfl) (fun _ _ _ _ => rfl))) fz)
set_option maxRecDepth 100000 in
theorem law46_sizes_run (F : Nat) (x : ArgsT law46_sizes_ps) (kend : List BV → Option Unit) : runFnL prog (law46_sizes_book F) F 20 24 (argsInst law46_sizes_ps x) [.d (.slc (.int .i64))] kend = law46_sizes F x.1 none (fun y0 => kend [BV.d (.slc (.int .i64)) y0]) := by kernel_rfl
theorem law46_sizes_contract : Contract prog 24 law46_sizes_orc := con_of (B0 := law46_sizes_book0) (noNumB_ok num_ok) (rangesB_ok rng_ok) mix_ok (gamB_ok gam_ok) law46_sizes_run (orcsOf_ok fz) (by kernel_rfl) (fun _ => rfl) law46_sizes_loOk (fun x h => (law46_sizes_plain x.1 h).elim fun F hF => ⟨F, fun kend => hF none _⟩)

end Go.AI
