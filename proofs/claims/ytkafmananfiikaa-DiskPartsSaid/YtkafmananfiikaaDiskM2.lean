/- The machine runs as the plain functions say. -/
import Derived.Test.YtkafmananfiikaaDiskM
import Derived.Test.YtkafmananfiikaaDiskP4
import Derived.KernelRfl
namespace Go.AI
open Go
set_option linter.unusedVariables false

def lOps_orc : Orc := Orc.of [.d (.slc (.pair (.int .u8) (.pair (.int .u8) (.pair .bool .unit))))] false 0 fun x => (lOps_P x.1, [.d (.slc (.pair (.int .i64) (.pair (.int .i64) (.pair (.slc (.arr 16 (.int .u8))) .unit)))) (lOps_r x.1)])
@[reducible] def lOps_l1_T : Tpl := { cur := ⟨[(0, .var (.slc (.pair (.int .u8) (.pair (.int .u8) (.pair .bool .unit))))), (2, .row 0), (0, .var (.int .i64))], 34⟩, stk := [⟨[], 0⟩], heap := [.row 61 (.pair (.int .i64) (.pair (.int .i64) (.pair (.slc (.arr 16 (.int .u8))) .unit))) false] }
@[reducible] def lOps_l1_T0 : Tpl := { cur := ⟨[(0, .var (.slc (.pair (.int .u8) (.pair (.int .u8) (.pair .bool .unit))))), (2, .row 0), (0, .var (.int .i64))], 34⟩, stk := [⟨[], 0⟩], heap := [.row 61 (.pair (.int .i64) (.pair (.int .i64) (.pair (.slc (.arr 16 (.int .u8))) .unit))) false] }
def lOps_orcs : List (FuncId × Orc) := []
def lOps_book0 : Book := { Γ := gam, orc := orcsOf lOps_orcs, hint := hintsOf [(29, { keep := some [0, 3, 4], keeps := [(3, [0, 3, 4])], own := [(3, 42)], dat := [], stk := [] })] }
def lOps_lo (F : Nat) : List (LoE Unit) := [⟨29, 3, LO.of lOps_l1_T fun x kq => lOps_l1F F none (fun y0 y1 y2 => kq (.exit 0) (lOps_l1_T0.inst ((y0, ((), (y1, ()))), (((), ()), (y2, ()))))) F x.1.1 x.1.2.2.1 x.2.2.1⟩]
def lOps_book (F : Nat) : BookL Unit := { toBook := lOps_book0, lo := losOf (lOps_lo F), need := needsOf [] }
set_option maxRecDepth 100000 in
theorem lOps_l1_step (F d : Nat) (l : List (UInt8 × (UInt8 × (Bool × Unit)))) (i : Int) (out : List (Int × (Int × ((List (List UInt8)) × Unit)))) (KQ : AExit → ASt → Option Unit) : (stepL Go.Proofs.Try.prog (lOps_book F) F d 29 ((loopsOf (codeOf Go.Proofs.Try.prog 29)).getD 0 .skip)) (lOps_l1_T.inst ((l, ((), (i, ()))), (((), ()), (out, ())))) (fun e s => KQ e ((headOf Go.Proofs.Try.prog lOps_book0 29 3) s)) = lOps_l1 F none (fun l i out => KQ .normal (lOps_l1_T.inst ((l, ((), (i, ()))), (((), ()), (out, ()))))) (fun y0 y1 y2 => KQ (.exit 0) (lOps_l1_T0.inst ((y0, ((), (y1, ()))), (((), ()), (y2, ()))))) l i out := by kernel_rfl
theorem lOps_l1_run (F d : Nat) : ∀ (m : Nat) (l : List (UInt8 × (UInt8 × (Bool × Unit)))) (i : Int) (out : List (Int × (Int × ((List (List UInt8)) × Unit)))) (kq : AExit → ASt → Option Unit), loopN (stepL Go.Proofs.Try.prog (lOps_book F) F d 29 ((loopsOf (codeOf Go.Proofs.Try.prog 29)).getD 0 .skip)) (headOf Go.Proofs.Try.prog lOps_book0 29 3) m (lOps_l1_T.inst ((l, ((), (i, ()))), (((), ()), (out, ())))) kq = lOps_l1F F none (fun y0 y1 y2 => kq (.exit 0) (lOps_l1_T0.inst ((y0, ((), (y1, ()))), (((), ()), (y2, ()))))) m l i out
  | 0, _, _, _, _ => rfl
  | m + 1, l, i, out, kq => (lOps_l1_step F d l i out (fun e s => match e with | .normal => loopN (stepL Go.Proofs.Try.prog (lOps_book F) F d 29 ((loopsOf (codeOf Go.Proofs.Try.prog 29)).getD 0 .skip)) (headOf Go.Proofs.Try.prog lOps_book0 29 3) m s kq | e => kq e s)).trans (congrArg (fun nx => lOps_l1 F none nx (fun y0 y1 y2 => kq (.exit 0) (lOps_l1_T0.inst ((y0, ((), (y1, ()))), (((), ()), (y2, ()))))) l i out) (funext fun l => funext fun i => funext fun out => lOps_l1_run F d m l i out kq))
theorem lOps_loOk (F : Nat) : LoOk Go.Proofs.Try.prog (lOps_book F) F := loOk_of (l := lOps_lo F) rfl (List.forall_mem_cons.2 ⟨loOne_of 0 (by kernel_rfl) (by kernel_rfl) (loIs_of fun d x kq => lOps_l1_run F d F x.1.1 x.1.2.2.1 x.2.2.1 kq), (fun _ h => nomatch h)⟩)
set_option maxRecDepth 100000 in
theorem lOps_run (F : Nat) (l : List (UInt8 × (UInt8 × (Bool × Unit)))) (kend : List BV → Option Unit) : runFnL Go.Proofs.Try.prog (lOps_book F) F 20 29 [.d (.slc (.pair (.int .u8) (.pair (.int .u8) (.pair .bool .unit)))) l] [.d (.slc (.pair (.int .i64) (.pair (.int .i64) (.pair (.slc (.arr 16 (.int .u8))) .unit))))] kend = lOps F l none (fun y0 => kend [BV.d (.slc (.pair (.int .i64) (.pair (.int .i64) (.pair (.slc (.arr 16 (.int .u8))) .unit)))) y0]) := by kernel_rfl
theorem lOps_contract : Contract Go.Proofs.Try.prog 29 lOps_orc := contract_of_runL (B0 := lOps_book0) (noNumB_ok num_ok) (rangesB_ok rng_ok) mix_ok (gamB_ok gam_ok) (orcsOf_ok (fun _ h => nomatch h)) (by kernel_rfl) (fun x h => by
  obtain ⟨F, hF⟩ := lOps_plain x.1 h
  exact ⟨F, 20, lOps_book F, rfl, lOps_loOk F, fun kend => (lOps_run F x.1 kend).trans (hF none (fun y0 => kend [BV.d (.slc (.pair (.int .i64) (.pair (.int .i64) (.pair (.slc (.arr 16 (.int .u8))) .unit)))) y0]))⟩)

def lBehind_orc : Orc := Orc.of [.d (.slc (.pair (.int .u8) (.pair (.int .u8) (.pair .bool .unit))))] false 0 fun x => (lBehind_P x.1, [.d (.pair (.slc (.arr 16 (.int .u8))) (.pair (.slc (.pair (.int .i64) (.pair (.arr 16 (.int .u8)) .unit))) .unit)) (lBehind_r0 x.1), .d .bool (lBehind_r1 x.1)])
def lBehind_orcs : List (FuncId × Orc) := [(14, dNew_orc), (21, dRun_orc), (29, lOps_orc)]
def lBehind_book0 : Book := { Γ := gam, orc := orcsOf lBehind_orcs, hint := hintsOf [] }
def lBehind_lo (F : Nat) : List (LoE Unit) := []
def lBehind_book (F : Nat) : BookL Unit := { toBook := lBehind_book0, lo := losOf (lBehind_lo F), need := needsOf [] }
theorem lBehind_loOk (F : Nat) : LoOk Go.Proofs.Try.prog (lBehind_book F) F := loOk_of (l := lBehind_lo F) rfl (fun _ h => nomatch h)
set_option maxRecDepth 100000 in
theorem lBehind_run (F : Nat) (l : List (UInt8 × (UInt8 × (Bool × Unit)))) (kend : List BV → Option Unit) : runFnL Go.Proofs.Try.prog (lBehind_book F) F 20 23 [.d (.slc (.pair (.int .u8) (.pair (.int .u8) (.pair .bool .unit)))) l] [.d (.pair (.slc (.arr 16 (.int .u8))) (.pair (.slc (.pair (.int .i64) (.pair (.arr 16 (.int .u8)) .unit))) .unit)), .d .bool] kend = lBehind F l none (fun y0 y1 => kend [BV.d (.pair (.slc (.arr 16 (.int .u8))) (.pair (.slc (.pair (.int .i64) (.pair (.arr 16 (.int .u8)) .unit))) .unit)) y0, BV.d .bool y1]) := by kernel_rfl
theorem lBehind_contract : Contract Go.Proofs.Try.prog 23 lBehind_orc := contract_of_runL (B0 := lBehind_book0) (noNumB_ok num_ok) (rangesB_ok rng_ok) mix_ok (gamB_ok gam_ok) (orcsOf_ok (List.forall_mem_cons.2 ⟨dNew_contract, (List.forall_mem_cons.2 ⟨dRun_contract, (List.forall_mem_cons.2 ⟨lOps_contract, (fun _ h => nomatch h)⟩)⟩)⟩)) (by kernel_rfl) (fun x h => by
  obtain ⟨F, hF⟩ := lBehind_plain x.1 h
  exact ⟨F, 20, lBehind_book F, rfl, lBehind_loOk F, fun kend => (lBehind_run F x.1 kend).trans (hF none (fun y0 y1 => kend [BV.d (.pair (.slc (.arr 16 (.int .u8))) (.pair (.slc (.pair (.int .i64) (.pair (.arr 16 (.int .u8)) .unit))) .unit)) y0, BV.d .bool y1]))⟩)

def lExample_orc : Orc := Orc.of [] false 0 fun x => (lExample_P, [.d (.pair (.slc (.arr 16 (.int .u8))) (.pair (.slc (.pair (.int .i64) (.pair (.arr 16 (.int .u8)) .unit))) .unit)) (lExample_r0), .d .bool (lExample_r1)])
def lExample_orcs : List (FuncId × Orc) := [(14, dNew_orc), (21, dRun_orc)]
def lExample_book0 : Book := { Γ := gam, orc := orcsOf lExample_orcs, hint := hintsOf [] }
def lExample_lo (F : Nat) : List (LoE Unit) := []
def lExample_book (F : Nat) : BookL Unit := { toBook := lExample_book0, lo := losOf (lExample_lo F), need := needsOf [] }
theorem lExample_loOk (F : Nat) : LoOk Go.Proofs.Try.prog (lExample_book F) F := loOk_of (l := lExample_lo F) rfl (fun _ h => nomatch h)
set_option maxRecDepth 100000 in
theorem lExample_run (F : Nat)  (kend : List BV → Option Unit) : runFnL Go.Proofs.Try.prog (lExample_book F) F 20 30 [] [.d (.pair (.slc (.arr 16 (.int .u8))) (.pair (.slc (.pair (.int .i64) (.pair (.arr 16 (.int .u8)) .unit))) .unit)), .d .bool] kend = lExample F  none (fun y0 y1 => kend [BV.d (.pair (.slc (.arr 16 (.int .u8))) (.pair (.slc (.pair (.int .i64) (.pair (.arr 16 (.int .u8)) .unit))) .unit)) y0, BV.d .bool y1]) := by kernel_rfl
theorem lExample_contract : Contract Go.Proofs.Try.prog 30 lExample_orc := contract_of_runL (B0 := lExample_book0) (noNumB_ok num_ok) (rangesB_ok rng_ok) mix_ok (gamB_ok gam_ok) (orcsOf_ok (List.forall_mem_cons.2 ⟨dNew_contract, (List.forall_mem_cons.2 ⟨dRun_contract, (fun _ h => nomatch h)⟩)⟩)) (by kernel_rfl) (fun x h => by
  obtain ⟨F, hF⟩ := lExample_plain  h
  exact ⟨F, 20, lExample_book F, rfl, lExample_loOk F, fun kend => (lExample_run F  kend).trans (hF none (fun y0 y1 => kend [BV.d (.pair (.slc (.arr 16 (.int .u8))) (.pair (.slc (.pair (.int .i64) (.pair (.arr 16 (.int .u8)) .unit))) .unit)) y0, BV.d .bool y1]))⟩)

def lCrashed_orc : Orc := Orc.of [.d (.pair (.slc (.arr 16 (.int .u8))) (.pair (.slc (.pair (.int .i64) (.pair (.arr 16 (.int .u8)) .unit))) .unit)), .d (.slc (.int .i64)), .d (.int .u8), .d (.int .u8)] true 0 fun x => (lCrashed_P x.1 x.2.1 x.2.2.1 x.2.2.2.1, [.d .bool (lCrashed_r x.1 x.2.1 x.2.2.1 x.2.2.2.1)])
def lCrashed_orcs : List (FuncId × Orc) := [(16, rSamePages_orc), (24, dCrash_orc)]
def lCrashed_book0 : Book := { Γ := gam, orc := orcsOf lCrashed_orcs, hint := hintsOf [] }
def lCrashed_lo (F : Nat) : List (LoE Unit) := []
def lCrashed_book (F : Nat) : BookL Unit := { toBook := lCrashed_book0, lo := losOf (lCrashed_lo F), need := needsOf [] }
theorem lCrashed_loOk (F : Nat) : LoOk Go.Proofs.Try.prog (lCrashed_book F) F := loOk_of (l := lCrashed_lo F) rfl (fun _ h => nomatch h)
set_option maxRecDepth 100000 in
theorem lCrashed_run (F : Nat) (d_ : ((List (List UInt8)) × ((List (Int × ((List UInt8) × Unit))) × Unit))) (choices : List Int) (a : UInt8) (b : UInt8) (kend : List BV → Option Unit) : runFnL Go.Proofs.Try.prog (lCrashed_book F) F 20 31 [.d (.pair (.slc (.arr 16 (.int .u8))) (.pair (.slc (.pair (.int .i64) (.pair (.arr 16 (.int .u8)) .unit))) .unit)) d_, .d (.slc (.int .i64)) choices, .d (.int .u8) a, .d (.int .u8) b] [.d .bool] kend = lCrashed F d_ choices a b none (fun y0 => kend [BV.d .bool y0]) := by kernel_rfl
theorem lCrashed_contract : Contract Go.Proofs.Try.prog 31 lCrashed_orc := contract_of_runL (B0 := lCrashed_book0) (noNumB_ok num_ok) (rangesB_ok rng_ok) mix_ok (gamB_ok gam_ok) (orcsOf_ok (List.forall_mem_cons.2 ⟨rSamePages_contract, (List.forall_mem_cons.2 ⟨dCrash_contract, (fun _ h => nomatch h)⟩)⟩)) (by kernel_rfl) (fun x h => by
  obtain ⟨F, hF⟩ := lCrashed_plain x.1 x.2.1 x.2.2.1 x.2.2.2.1 h
  exact ⟨F, 20, lCrashed_book F, rfl, lCrashed_loOk F, fun kend => (lCrashed_run F x.1 x.2.1 x.2.2.1 x.2.2.2.1 kend).trans (hF none (fun y0 => kend [BV.d .bool y0]))⟩)

def law48_awake_orc : Orc := Orc.of [] true 0 fun x => (true, [.d .bool (law48_awake_r)])
def law48_awake_orcs : List (FuncId × Orc) := [(12, dRead_orc), (16, rSamePages_orc), (30, lExample_orc), (31, lCrashed_orc)]
def law48_awake_book0 : Book := { Γ := gam, orc := orcsOf law48_awake_orcs, hint := hintsOf [] }
def law48_awake_lo (F : Nat) : List (LoE Unit) := []
def law48_awake_book (F : Nat) : BookL Unit := { toBook := law48_awake_book0, lo := losOf (law48_awake_lo F), need := needsOf [] }
theorem law48_awake_loOk (F : Nat) : LoOk Go.Proofs.Try.prog (law48_awake_book F) F := loOk_of (l := law48_awake_lo F) rfl (fun _ h => nomatch h)
set_option maxRecDepth 100000 in
theorem law48_awake_run (F : Nat)  (kend : List BV → Option Unit) : runFnL Go.Proofs.Try.prog (law48_awake_book F) F 20 11 [] [.d .bool] kend = law48_awake F  none (fun y0 => kend [BV.d .bool y0]) := by kernel_rfl
theorem law48_awake_contract : Contract Go.Proofs.Try.prog 11 law48_awake_orc := contract_of_runL (B0 := law48_awake_book0) (noNumB_ok num_ok) (rangesB_ok rng_ok) mix_ok (gamB_ok gam_ok) (orcsOf_ok (List.forall_mem_cons.2 ⟨dRead_contract, (List.forall_mem_cons.2 ⟨rSamePages_contract, (List.forall_mem_cons.2 ⟨lExample_contract, (List.forall_mem_cons.2 ⟨lCrashed_contract, (fun _ h => nomatch h)⟩)⟩)⟩)⟩)) (by kernel_rfl) (fun x h => by
  obtain ⟨F, hF⟩ := law48_awake_plain 
  exact ⟨F, 20, law48_awake_book F, rfl, law48_awake_loOk F, fun kend => (law48_awake_run F  kend).trans (hF none (fun y0 => kend [BV.d .bool y0]))⟩)

end Go.AI
