/- The machine runs as the plain functions say. -/
import Derived.Test.YtaoimnfmhdmkmaaCrcP
import Derived.Test.YtaoimnfmhdmkmaaTypes
import Derived.KernelRfl
noncomputable section
namespace Go.AI
open Go
open Go.Proofs.Try (prog)
set_option linter.unusedVariables false

@[reducible] def shifted_ps : List PM := [.d (.int .u32)]
def shifted_orc : Orc := Orc.of shifted_ps true 0 fun x => (shifted_P x.1, [.d (.int .u32) (shifted_r x.1)])
@[reducible] def shifted_l1_T : Tpl := { cur := ⟨[(0, .var (.int .u32)), (3, .var (.int .i64))], 11⟩, stk := [⟨[], 0⟩], heap := [] }
def shifted_orcs : List (FuncId × Orc) := []
def shifted_book0 : Book := { Γ := gam, orc := orcsOf shifted_orcs, hint := hintsOf [(62, { keep := some [0, 4], keeps := [(2, [0, 4])], own := [], dat := [], stk := [] })] }
def shifted_l1_G (F : Nat) (nx : shifted_l1_T.T → Option Unit) (kq : AExit → ASt → Option Unit) (x : shifted_l1_T.T) : Option Unit := shifted_l1 F none (fun register s4 => nx ((register, (s4, ())), (((), ()), ()))) (fun y0 y1 => kq (.exit 0) (shifted_l1_T.inst ((y0, (y1, ())), (((), ()), ())))) x.1.1 x.1.2.1
def shifted_l1_R (F m : Nat) (x : shifted_l1_T.T) (kq : AExit → ASt → Option Unit) : Option Unit := shifted_l1F F none (fun y0 y1 => kq (.exit 0) (shifted_l1_T.inst ((y0, (y1, ())), (((), ()), ())))) m x.1.1 x.1.2.1
def shifted_lo (F : Nat) : List (LoE Unit) := [⟨62, 2, LO.of shifted_l1_T (shifted_l1_R F F)⟩]
def shifted_book (F : Nat) : BookL Unit := { toBook := shifted_book0, lo := losOf (shifted_lo F), need := needsOf [] }
set_option maxRecDepth 100000 in
theorem shifted_l1_step (F : Nat) : LStep prog (shifted_book F) F 62 0 2 shifted_l1_T (shifted_l1_G F) := fun d x KQ => by kernel_rfl
theorem shifted_loOk (F : Nat) : LoOk prog (shifted_book F) F := loOk_of (l := shifted_lo F) rfl (fa (loOne_of 0 (by kernel_rfl) (by kernel_rfl) (lstep_run (shifted_l1_step F) (fun _ _ => rfl) (fun _ _ _ _ => rfl))) fz)
set_option maxRecDepth 100000 in
theorem shifted_run (F : Nat) (x : ArgsT shifted_ps) (kend : List BV → Option Unit) : runFnL prog (shifted_book F) F 20 62 (argsInst shifted_ps x) [.d (.int .u32)] kend = shifted F x.1 none (fun y0 => kend [BV.d (.int .u32) y0]) := by kernel_rfl
theorem shifted_contract : Contract prog 62 shifted_orc := con_of (B0 := shifted_book0) (noNumB_ok num_ok) (rangesB_ok rng_ok) mix_ok (gamB_ok gam_ok) shifted_run (orcsOf_ok fz) (by kernel_rfl) (fun _ => rfl) shifted_loOk (fun x h => (shifted_plain x.1 h).elim fun F hF => ⟨F, fun kend => hF none _⟩)

@[reducible] def ctable_ps : List PM := []
def ctable_orc : Orc := Orc.of ctable_ps true 0 fun x => (ctable_P, [.d (.arr 256 (.int .u32)) (ctable_r)])
@[reducible] def ctable_l1_T : Tpl := { cur := ⟨[(0, .ptr 0 []), (0, .ptr 1 []), (1, .var (.int .i64))], 9⟩, stk := [⟨[], 0⟩], heap := [.box (.var (.arr 256 (.int .u32))), .box (.var (.arr 256 (.int .u32)))] }
def ctable_orcs : List (FuncId × Orc) := [(62, shifted_orc)]
def ctable_book0 : Book := { Γ := gam, orc := orcsOf ctable_orcs, hint := hintsOf [(56, { keep := some [0, 1, 3], keeps := [(3, [0, 1, 3])], own := [], dat := [], stk := [] })] }
def ctable_l1_G (F : Nat) (nx : ctable_l1_T.T → Option Unit) (kq : AExit → ASt → Option Unit) (x : ctable_l1_T.T) : Option Unit := ctable_l1 F none (fun s3 s0 out => nx (((), ((), (s3, ()))), (((), ()), (s0, (out, ()))))) (fun y0 y1 y2 => kq (.exit 0) (ctable_l1_T.inst (((), ((), (y0, ()))), (((), ()), (y1, (y2, ())))))) x.1.2.2.1 x.2.2.1 x.2.2.2.1
def ctable_l1_R (F m : Nat) (x : ctable_l1_T.T) (kq : AExit → ASt → Option Unit) : Option Unit := ctable_l1F F none (fun y0 y1 y2 => kq (.exit 0) (ctable_l1_T.inst (((), ((), (y0, ()))), (((), ()), (y1, (y2, ())))))) m x.1.2.2.1 x.2.2.1 x.2.2.2.1
def ctable_lo (F : Nat) : List (LoE Unit) := [⟨56, 3, LO.of ctable_l1_T (ctable_l1_R F F)⟩]
def ctable_book (F : Nat) : BookL Unit := { toBook := ctable_book0, lo := losOf (ctable_lo F), need := needsOf [] }
set_option maxRecDepth 100000 in
theorem ctable_l1_step (F : Nat) : LStep prog (ctable_book F) F 56 0 3 ctable_l1_T (ctable_l1_G F) := fun d x KQ => by kernel_rfl
theorem ctable_loOk (F : Nat) : LoOk prog (ctable_book F) F := loOk_of (l := ctable_lo F) rfl (fa (loOne_of 0 (by kernel_rfl) (by kernel_rfl) (lstep_run (ctable_l1_step F) (fun _ _ => rfl) (fun _ _ _ _ => rfl))) fz)
set_option maxRecDepth 100000 in
theorem ctable_run (F : Nat) (x : ArgsT ctable_ps) (kend : List BV → Option Unit) : runFnL prog (ctable_book F) F 20 56 (argsInst ctable_ps x) [.d (.arr 256 (.int .u32))] kend = ctable F  none (fun y0 => kend [BV.d (.arr 256 (.int .u32)) y0]) := by kernel_rfl
theorem ctable_contract : Contract prog 56 ctable_orc := con_of (B0 := ctable_book0) (noNumB_ok num_ok) (rangesB_ok rng_ok) mix_ok (gamB_ok gam_ok) ctable_run (orcsOf_ok (fa shifted_contract fz)) (by kernel_rfl) (fun _ => rfl) ctable_loOk (fun x h => (ctable_plain  h).elim fun F hF => ⟨F, fun kend => hF none _⟩)

@[reducible] def cUpd_ps : List PM := [.d (.int .u32), .d (.slc (.int .u8))]
def cUpd_orc : Orc := Orc.of cUpd_ps true 0 fun x => (cUpd_P x.1 x.2.1, [.d (.int .u32) (cUpd_r x.1 x.2.1)])
@[reducible] def cUpd_l1_T : Tpl := { cur := ⟨[(0, .hnd .yield 0), (4, .var (.slc (.int .u8))), (0, .var (.int .i64)), (0, .var (.int .i64))], 8⟩, stk := [⟨[(0, .hnd .yield 0)], 0⟩, ⟨[(1, .fn 57 (.pr (.ptr 3 []) (.un))), (0, .ptr 1 []), (1, .var (.int .u32))], 15⟩, ⟨[(6, .var (.int .u32))], 4⟩, ⟨[], 0⟩], heap := [.lp 48 3 ⟨[(2, .ptr 1 []), (2, .ptr 2 [])], 14⟩ .ready, .box (.var (.int .u32)), .box (.var (.arr 256 (.int .u32))), .box (.var (.slc (.int .u8)))] }
def cUpd_orcs : List (FuncId × Orc) := [(56, ctable_orc)]
def cUpd_book0 : Book := { Γ := gam, orc := orcsOf cUpd_orcs, hint := hintsOf [(57, { keep := some [0, 5, 6, 7], keeps := [(1, [0, 5, 6, 7])], own := [], dat := [], stk := [[0], [1, 2, 4, 6, 9], [6]] })] }
def cUpd_l1_G (F : Nat) (nx : cUpd_l1_T.T → Option Unit) (kq : AExit → ASt → Option Unit) (x : cUpd_l1_T.T) : Option Unit := cUpd_l1 F none (fun s5 s6 s7 s4 s61 register t bytes => nx (((), (s5, (s6, (s7, ())))), ((((), ()), ((((), ()), ((), (s4, ()))), ((s61, ()), ((), ())))), (((), ((), ())), (register, (t, (bytes, ()))))))) (fun y0 y1 y2 y3 y4 y5 y6 y7 => kq (.exit 0) (cUpd_l1_T.inst (((), (y0, (y1, (y2, ())))), ((((), ()), ((((), ()), ((), (y3, ()))), ((y4, ()), ((), ())))), (((), ((), ())), (y5, (y6, (y7, ())))))))) x.1.2.1 x.1.2.2.1 x.1.2.2.2.1 x.2.1.2.1.2.2.1 x.2.1.2.2.1.1 x.2.2.2.1 x.2.2.2.2.1 x.2.2.2.2.2.1
def cUpd_l1_R (F m : Nat) (x : cUpd_l1_T.T) (kq : AExit → ASt → Option Unit) : Option Unit := cUpd_l1F F none (fun y0 y1 y2 y3 y4 y5 y6 y7 => kq (.exit 0) (cUpd_l1_T.inst (((), (y0, (y1, (y2, ())))), ((((), ()), ((((), ()), ((), (y3, ()))), ((y4, ()), ((), ())))), (((), ((), ())), (y5, (y6, (y7, ())))))))) m x.1.2.1 x.1.2.2.1 x.1.2.2.2.1 x.2.1.2.1.2.2.1 x.2.1.2.2.1.1 x.2.2.2.1 x.2.2.2.2.1 x.2.2.2.2.2.1
def cUpd_lo (F : Nat) : List (LoE Unit) := [⟨57, 1, LO.of cUpd_l1_T (cUpd_l1_R F F)⟩]
def cUpd_book (F : Nat) : BookL Unit := { toBook := cUpd_book0, lo := losOf (cUpd_lo F), need := needsOf [(57, 1)] }
set_option maxRecDepth 100000 in
theorem cUpd_l1_step (F : Nat) : LStep prog (cUpd_book F) F 57 0 1 cUpd_l1_T (cUpd_l1_G F) := fun d x KQ => by kernel_rfl
theorem cUpd_loOk (F : Nat) : LoOk prog (cUpd_book F) F := loOk_of (l := cUpd_lo F) rfl (fa (loOne_of 0 (by kernel_rfl) (by kernel_rfl) (lstep_run (cUpd_l1_step F) (fun _ _ => rfl) (fun _ _ _ _ => rfl))) fz)
set_option maxRecDepth 100000 in
theorem cUpd_run (F : Nat) (x : ArgsT cUpd_ps) (kend : List BV → Option Unit) : runFnL prog (cUpd_book F) F 20 41 (argsInst cUpd_ps x) [.d (.int .u32)] kend = cUpd F x.1 x.2.1 none (fun y0 => kend [BV.d (.int .u32) y0]) := by kernel_rfl
theorem cUpd_contract : Contract prog 41 cUpd_orc := con_of (B0 := cUpd_book0) (noNumB_ok num_ok) (rangesB_ok rng_ok) mix_ok (gamB_ok gam_ok) cUpd_run (orcsOf_ok (fa ctable_contract fz)) (by kernel_rfl) (fun _ => rfl) cUpd_loOk (fun x h => (cUpd_plain x.1 x.2.1 h).elim fun F hF => ⟨F, fun kend => hF none _⟩)

@[reducible] def cSum_ps : List PM := [.d (.slc (.int .u8))]
def cSum_orc : Orc := Orc.of cSum_ps true 0 fun x => (cSum_P x.1, [.d (.int .u32) (cSum_r x.1)])
def cSum_orcs : List (FuncId × Orc) := [(41, cUpd_orc)]
def cSum_book0 : Book := { Γ := gam, orc := orcsOf cSum_orcs, hint := hintsOf [] }
def cSum_lo (F : Nat) : List (LoE Unit) := []
def cSum_book (F : Nat) : BookL Unit := { toBook := cSum_book0, lo := losOf (cSum_lo F), need := needsOf [] }
theorem cSum_loOk (F : Nat) : LoOk prog (cSum_book F) F := loOk_of (l := cSum_lo F) rfl fz
set_option maxRecDepth 100000 in
theorem cSum_run (F : Nat) (x : ArgsT cSum_ps) (kend : List BV → Option Unit) : runFnL prog (cSum_book F) F 20 28 (argsInst cSum_ps x) [.d (.int .u32)] kend = cSum F x.1 none (fun y0 => kend [BV.d (.int .u32) y0]) := by kernel_rfl
theorem cSum_contract : Contract prog 28 cSum_orc := con_of (B0 := cSum_book0) (noNumB_ok num_ok) (rangesB_ok rng_ok) mix_ok (gamB_ok gam_ok) cSum_run (orcsOf_ok (fa cUpd_contract fz)) (by kernel_rfl) (fun _ => rfl) cSum_loOk (fun x h => (cSum_plain x.1 h).elim fun F hF => ⟨F, fun kend => hF none _⟩)

end Go.AI
