/- The machine runs as the plain functions say. -/
import Derived.Test.YtfpconfgbkoifaaDigestM
import Derived.Test.YtfpconfgbkoifaaDigestP4
import Derived.KernelRfl
namespace Go.AI
open Go
set_option linter.unusedVariables false

def padded_orc : Orc := Orc.of [.d (.slc (.int .u8)), .d (.int .u8)] true 1 fun x => (padded_P x.1 x.2.1, [.o 5 (.int .u8) (padded_r x.1 x.2.1)])
@[reducible] def padded_l1_T : Tpl := { cur := ⟨[(1, .var (.int .u8)), (4, .row 0), (12, .var (.int .i64)), (0, .var (.int .i64))], 11⟩, stk := [⟨[], 0⟩], heap := [.row 5 (.int .u8) false] }
@[reducible] def padded_l1_T0 : Tpl := { cur := ⟨[(1, .var (.int .u8)), (4, .row 0), (12, .var (.int .i64)), (0, .var (.int .i64))], 11⟩, stk := [⟨[], 0⟩], heap := [.row 5 (.int .u8) false] }
def padded_orcs : List (FuncId × Orc) := [(55, dSum_orc)]
def padded_book0 : Book := { Γ := gam, orc := orcsOf padded_orcs, hint := hintsOf [(49, { keep := some [1, 6, 19, 20], keeps := [(7, [1, 6, 19, 20])], own := [], dat := [], stk := [] })] }
def padded_lo (F : Nat) : List (LoE Unit) := [⟨49, 7, LO.of padded_l1_T fun x kq => padded_l1F F none (fun y0 y1 y2 y3 => kq (.exit 0) (padded_l1_T0.inst ((y0, ((), (y1, (y2, ())))), (((), ()), (y3, ()))))) F x.1.1 x.1.2.2.1 x.1.2.2.2.1 x.2.2.1⟩]
def padded_book (F : Nat) : BookL Unit := { toBook := padded_book0, lo := losOf (padded_lo F), need := needsOf [] }
set_option maxRecDepth 100000 in
theorem padded_l1_step (F d : Nat) (by_ : UInt8) (s19 : Int) (s20 : Int) (out : List UInt8) (KQ : AExit → ASt → Option Unit) : (stepL Go.Proofs.Try.prog (padded_book F) F d 49 ((loopsOf (codeOf Go.Proofs.Try.prog 49)).getD 0 .skip)) (padded_l1_T.inst ((by_, ((), (s19, (s20, ())))), (((), ()), (out, ())))) (fun e s => KQ e ((headOf Go.Proofs.Try.prog padded_book0 49 7) s)) = padded_l1 F none (fun by_ s19 s20 out => KQ .normal (padded_l1_T.inst ((by_, ((), (s19, (s20, ())))), (((), ()), (out, ()))))) (fun y0 y1 y2 y3 => KQ (.exit 0) (padded_l1_T0.inst ((y0, ((), (y1, (y2, ())))), (((), ()), (y3, ()))))) by_ s19 s20 out := by kernel_rfl
theorem padded_l1_run (F d : Nat) : ∀ (m : Nat) (by_ : UInt8) (s19 : Int) (s20 : Int) (out : List UInt8) (kq : AExit → ASt → Option Unit), loopN (stepL Go.Proofs.Try.prog (padded_book F) F d 49 ((loopsOf (codeOf Go.Proofs.Try.prog 49)).getD 0 .skip)) (headOf Go.Proofs.Try.prog padded_book0 49 7) m (padded_l1_T.inst ((by_, ((), (s19, (s20, ())))), (((), ()), (out, ())))) kq = padded_l1F F none (fun y0 y1 y2 y3 => kq (.exit 0) (padded_l1_T0.inst ((y0, ((), (y1, (y2, ())))), (((), ()), (y3, ()))))) m by_ s19 s20 out
  | 0, _, _, _, _, _ => rfl
  | m + 1, by_, s19, s20, out, kq => (padded_l1_step F d by_ s19 s20 out (fun e s => match e with | .normal => loopN (stepL Go.Proofs.Try.prog (padded_book F) F d 49 ((loopsOf (codeOf Go.Proofs.Try.prog 49)).getD 0 .skip)) (headOf Go.Proofs.Try.prog padded_book0 49 7) m s kq | e => kq e s)).trans (congrArg (fun nx => padded_l1 F none nx (fun y0 y1 y2 y3 => kq (.exit 0) (padded_l1_T0.inst ((y0, ((), (y1, (y2, ())))), (((), ()), (y3, ()))))) by_ s19 s20 out) (funext fun by_ => funext fun s19 => funext fun s20 => funext fun out => padded_l1_run F d m by_ s19 s20 out kq))
theorem padded_loOk (F : Nat) : LoOk Go.Proofs.Try.prog (padded_book F) F := loOk_of (l := padded_lo F) rfl (List.forall_mem_cons.2 ⟨loOne_of 0 (by kernel_rfl) (by kernel_rfl) (loIs_of fun d x kq => padded_l1_run F d F x.1.1 x.1.2.2.1 x.1.2.2.2.1 x.2.2.1 kq), (fun _ h => nomatch h)⟩)
set_option maxRecDepth 100000 in
theorem padded_run (F : Nat) (key : List UInt8) (by_ : UInt8) (kend : List BV → Option Unit) : runFnL Go.Proofs.Try.prog (padded_book F) F 20 49 [.d (.slc (.int .u8)) key, .d (.int .u8) by_] [.o 5 (.int .u8)] kend = padded F key by_ none (fun y0 => kend [BV.o 5 (.int .u8) y0]) := by kernel_rfl
theorem padded_contract : Contract Go.Proofs.Try.prog 49 padded_orc := contract_of_runL (B0 := padded_book0) (noNumB_ok num_ok) (rangesB_ok rng_ok) mix_ok (gamB_ok gam_ok) (orcsOf_ok (List.forall_mem_cons.2 ⟨dSum_contract, (fun _ h => nomatch h)⟩)) (by kernel_rfl) (fun x h => by
  obtain ⟨F, hF⟩ := padded_plain x.1 x.2.1 h
  exact ⟨F, 20, padded_book F, rfl, padded_loOk F, fun kend => (padded_run F x.1 x.2.1 kend).trans (hF none (fun y0 => kend [BV.o 5 (.int .u8) y0]))⟩)

def dMac_orc : Orc := Orc.of [.d (.slc (.int .u8)), .d (.slc (.int .u8))] true 0 fun x => (dMac_P x.1 x.2.1, [.d (.arr 32 (.int .u8)) (dMac_r x.1 x.2.1)])
def dMac_orcs : List (FuncId × Orc) := [(46, hfinish_orc), (47, hwrite_orc), (48, hNew_orc), (49, padded_orc)]
def dMac_book0 : Book := { Γ := gam, orc := orcsOf dMac_orcs, hint := hintsOf [] }
def dMac_lo (F : Nat) : List (LoE Unit) := []
def dMac_book (F : Nat) : BookL Unit := { toBook := dMac_book0, lo := losOf (dMac_lo F), need := needsOf [] }
theorem dMac_loOk (F : Nat) : LoOk Go.Proofs.Try.prog (dMac_book F) F := loOk_of (l := dMac_lo F) rfl (fun _ h => nomatch h)
set_option maxRecDepth 100000 in
theorem dMac_run (F : Nat) (key : List UInt8) (b : List UInt8) (kend : List BV → Option Unit) : runFnL Go.Proofs.Try.prog (dMac_book F) F 20 39 [.d (.slc (.int .u8)) key, .d (.slc (.int .u8)) b] [.d (.arr 32 (.int .u8))] kend = dMac F key b none (fun y0 => kend [BV.d (.arr 32 (.int .u8)) y0]) := by kernel_rfl
theorem dMac_contract : Contract Go.Proofs.Try.prog 39 dMac_orc := contract_of_runL (B0 := dMac_book0) (noNumB_ok num_ok) (rangesB_ok rng_ok) mix_ok (gamB_ok gam_ok) (orcsOf_ok (List.forall_mem_cons.2 ⟨hfinish_contract, (List.forall_mem_cons.2 ⟨hwrite_contract, (List.forall_mem_cons.2 ⟨hNew_contract, (List.forall_mem_cons.2 ⟨padded_contract, (fun _ h => nomatch h)⟩)⟩)⟩)⟩)) (by kernel_rfl) (fun x h => by
  obtain ⟨F, hF⟩ := dMac_plain x.1 x.2.1 h
  exact ⟨F, 20, dMac_book F, rfl, dMac_loOk F, fun kend => (dMac_run F x.1 x.2.1 kend).trans (hF none (fun y0 => kend [BV.d (.arr 32 (.int .u8)) y0]))⟩)

def rMac_orc : Orc := Orc.of [.d (.slc (.int .u8)), .d (.slc (.int .u8))] true 0 fun x => (rMac_P x.1 x.2.1, [.d (.arr 32 (.int .u8)) (rMac_r x.1 x.2.1)])
@[reducible] def rMac_l1_T : Tpl := { cur := ⟨[(1, .var (.slc (.int .u8))), (2, .ptr 0 []), (0, .ptr 1 []), (1, .row 2), (0, .row 3), (0, .var (.int .i64))], 38⟩, stk := [⟨[], 0⟩], heap := [.box (.var (.arr 32 (.int .u8))), .box (.var (.arr 64 (.int .u8))), .row 5 (.int .u8) false, .row 5 (.int .u8) false] }
@[reducible] def rMac_l1_T0 : Tpl := { cur := ⟨[(1, .var (.slc (.int .u8))), (2, .ptr 0 []), (0, .ptr 1 []), (1, .row 2), (0, .row 3), (0, .var (.int .i64))], 38⟩, stk := [⟨[], 0⟩], heap := [.box (.var (.arr 32 (.int .u8))), .box (.var (.arr 64 (.int .u8))), .row 5 (.int .u8) false, .row 5 (.int .u8) false] }
def rMac_orcs : List (FuncId × Orc) := [(44, rSum_orc)]
def rMac_book0 : Book := { Γ := gam, orc := orcsOf rMac_orcs, hint := hintsOf [(36, { keep := some [1, 4, 5, 7, 8, 9], keeps := [(8, [1, 4, 5, 7, 8, 9])], own := [(7, 24), (8, 24)], dat := [], stk := [] })] }
def rMac_lo (F : Nat) : List (LoE Unit) := [⟨36, 8, LO.of rMac_l1_T fun x kq => rMac_l1F F none (fun y0 y1 y2 y3 y4 y5 => kq (.exit 0) (rMac_l1_T0.inst ((y0, ((), ((), ((), ((), (y1, ())))))), (((), ()), (y2, (y3, (y4, (y5, ())))))))) F x.1.1 x.1.2.2.2.2.2.1 x.2.2.1 x.2.2.2.1 x.2.2.2.2.1 x.2.2.2.2.2.1⟩]
def rMac_book (F : Nat) : BookL Unit := { toBook := rMac_book0, lo := losOf (rMac_lo F), need := needsOf [] }
set_option maxRecDepth 100000 in
theorem rMac_l1_step (F d : Nat) (b : List UInt8) (i : Int) (s4 : List UInt8) (k : List UInt8) (inner : List UInt8) (outer : List UInt8) (KQ : AExit → ASt → Option Unit) : (stepL Go.Proofs.Try.prog (rMac_book F) F d 36 ((loopsOf (codeOf Go.Proofs.Try.prog 36)).getD 0 .skip)) (rMac_l1_T.inst ((b, ((), ((), ((), ((), (i, ())))))), (((), ()), (s4, (k, (inner, (outer, ()))))))) (fun e s => KQ e ((headOf Go.Proofs.Try.prog rMac_book0 36 8) s)) = rMac_l1 F none (fun b i s4 k inner outer => KQ .normal (rMac_l1_T.inst ((b, ((), ((), ((), ((), (i, ())))))), (((), ()), (s4, (k, (inner, (outer, ())))))))) (fun y0 y1 y2 y3 y4 y5 => KQ (.exit 0) (rMac_l1_T0.inst ((y0, ((), ((), ((), ((), (y1, ())))))), (((), ()), (y2, (y3, (y4, (y5, ())))))))) b i s4 k inner outer := by kernel_rfl
theorem rMac_l1_run (F d : Nat) : ∀ (m : Nat) (b : List UInt8) (i : Int) (s4 : List UInt8) (k : List UInt8) (inner : List UInt8) (outer : List UInt8) (kq : AExit → ASt → Option Unit), loopN (stepL Go.Proofs.Try.prog (rMac_book F) F d 36 ((loopsOf (codeOf Go.Proofs.Try.prog 36)).getD 0 .skip)) (headOf Go.Proofs.Try.prog rMac_book0 36 8) m (rMac_l1_T.inst ((b, ((), ((), ((), ((), (i, ())))))), (((), ()), (s4, (k, (inner, (outer, ()))))))) kq = rMac_l1F F none (fun y0 y1 y2 y3 y4 y5 => kq (.exit 0) (rMac_l1_T0.inst ((y0, ((), ((), ((), ((), (y1, ())))))), (((), ()), (y2, (y3, (y4, (y5, ())))))))) m b i s4 k inner outer
  | 0, _, _, _, _, _, _, _ => rfl
  | m + 1, b, i, s4, k, inner, outer, kq => (rMac_l1_step F d b i s4 k inner outer (fun e s => match e with | .normal => loopN (stepL Go.Proofs.Try.prog (rMac_book F) F d 36 ((loopsOf (codeOf Go.Proofs.Try.prog 36)).getD 0 .skip)) (headOf Go.Proofs.Try.prog rMac_book0 36 8) m s kq | e => kq e s)).trans (congrArg (fun nx => rMac_l1 F none nx (fun y0 y1 y2 y3 y4 y5 => kq (.exit 0) (rMac_l1_T0.inst ((y0, ((), ((), ((), ((), (y1, ())))))), (((), ()), (y2, (y3, (y4, (y5, ())))))))) b i s4 k inner outer) (funext fun b => funext fun i => funext fun s4 => funext fun k => funext fun inner => funext fun outer => rMac_l1_run F d m b i s4 k inner outer kq))
theorem rMac_loOk (F : Nat) : LoOk Go.Proofs.Try.prog (rMac_book F) F := loOk_of (l := rMac_lo F) rfl (List.forall_mem_cons.2 ⟨loOne_of 0 (by kernel_rfl) (by kernel_rfl) (loIs_of fun d x kq => rMac_l1_run F d F x.1.1 x.1.2.2.2.2.2.1 x.2.2.1 x.2.2.2.1 x.2.2.2.2.1 x.2.2.2.2.2.1 kq), (fun _ h => nomatch h)⟩)
set_option maxRecDepth 100000 in
theorem rMac_run (F : Nat) (key : List UInt8) (b : List UInt8) (kend : List BV → Option Unit) : runFnL Go.Proofs.Try.prog (rMac_book F) F 20 36 [.d (.slc (.int .u8)) key, .d (.slc (.int .u8)) b] [.d (.arr 32 (.int .u8))] kend = rMac F key b none (fun y0 => kend [BV.d (.arr 32 (.int .u8)) y0]) := by kernel_rfl
theorem rMac_contract : Contract Go.Proofs.Try.prog 36 rMac_orc := contract_of_runL (B0 := rMac_book0) (noNumB_ok num_ok) (rangesB_ok rng_ok) mix_ok (gamB_ok gam_ok) (orcsOf_ok (List.forall_mem_cons.2 ⟨rSum_contract, (fun _ h => nomatch h)⟩)) (by kernel_rfl) (fun x h => by
  obtain ⟨F, hF⟩ := rMac_plain x.1 x.2.1 h
  exact ⟨F, 20, rMac_book F, rfl, rMac_loOk F, fun kend => (rMac_run F x.1 x.2.1 kend).trans (hF none (fun y0 => kend [BV.d (.arr 32 (.int .u8)) y0]))⟩)

end Go.AI
