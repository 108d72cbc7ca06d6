/- The machine runs as the plain functions say. -/
import Derived.Test.YtadpmbipdafjiaaWireA
import Derived.Test.YtadpmbipdafjiaaWireP6
import Derived.KernelRfl
namespace Go.AI
open Go
set_option linter.unusedVariables false

def law02_numbers_orc : Orc := Orc.of [.d (.slc (.int .i64))] false 0 fun x => (law02_numbers_P x.1, [.d (.slc (.int .i64)) (law02_numbers_r x.1)])
@[reducible] def law02_numbers_l1_T : Tpl := { cur := ⟨[(0, .row 0), (0, .fn 53 (.un)), (2, .var (.int .i64)), (2, .var (.int .i64)), (0, .var (.int .i64))], 10⟩, stk := [⟨[(0, .row 0), (0, .fn 53 (.un))], 40⟩, ⟨[], 6⟩, ⟨[], 0⟩], heap := [.row 3 (.int .i64) false] }
@[reducible] def law02_numbers_l1_T0 : Tpl := { cur := ⟨[(0, .row 0), (0, .fn 53 (.un)), (2, .var (.int .i64)), (2, .var (.int .i64)), (0, .var (.int .i64))], 10⟩, stk := [⟨[(0, .row 0), (0, .fn 53 (.un))], 40⟩, ⟨[], 6⟩, ⟨[], 0⟩], heap := [.row 3 (.int .i64) false] }
@[reducible] def law02_numbers_l1_T1 : Tpl := { cur := ⟨[(0, .row 0), (0, .fn 53 (.un)), (2, .var (.int .i64)), (2, .var (.int .i64)), (0, .var (.int .i64))], 10⟩, stk := [⟨[(0, .row 0), (0, .fn 53 (.un))], 40⟩, ⟨[], 6⟩, ⟨[], 0⟩], heap := [.row 3 (.int .i64) false] }
@[reducible] def law02_numbers_l2_T : Tpl := { cur := ⟨[(0, .row 0), (0, .fn 53 (.un)), (3, .var (.int .i64)), (0, .var (.int .i64))], 35⟩, stk := [⟨[], 6⟩, ⟨[], 0⟩], heap := [.row 3 (.int .i64) false] }
@[reducible] def law02_numbers_l2_T0 : Tpl := { cur := ⟨[(0, .row 0), (0, .fn 53 (.un)), (3, .var (.int .i64)), (0, .var (.int .i64))], 35⟩, stk := [⟨[], 6⟩, ⟨[], 0⟩], heap := [.row 3 (.int .i64) false] }
def law02_numbers_orcs : List (FuncId × Orc) := [(52, clone_int_orc)]
def law02_numbers_book0 : Book := { Γ := gam, orc := orcsOf law02_numbers_orcs, hint := hintsOf [(51, { keep := some [0, 1, 5, 6], own := [], dat := [], stk := [[]] }), (59, { keep := some [0, 1, 4, 7, 8], own := [], dat := [], stk := [[0, 1, 5, 6, 7], []] })] }
def law02_numbers_lo (F : Nat) : List (LoE Unit) := [⟨59, 2, LO.of law02_numbers_l1_T fun x kq => law02_numbers_l1F F none (fun y0 y1 y2 y3 => kq .ret (law02_numbers_l1_T0.inst (((), ((), (y0, (y1, (y2, ()))))), ((((), ((), ())), ((), ((), ()))), (y3, ()))))) (fun y0 y1 y2 y3 => kq (.exit 0) (law02_numbers_l1_T1.inst (((), ((), (y0, (y1, (y2, ()))))), ((((), ((), ())), ((), ((), ()))), (y3, ()))))) F x.1.2.2.1 x.1.2.2.2.1 x.1.2.2.2.2.1 x.2.2.1⟩,
  ⟨51, 5, LO.of law02_numbers_l2_T fun x kq => law02_numbers_l2F F none (fun y0 y1 y2 => kq (.exit 0) (law02_numbers_l2_T0.inst (((), ((), (y0, (y1, ())))), (((), ((), ())), (y2, ()))))) F x.1.2.2.1 x.1.2.2.2.1 x.2.2.1⟩]
def law02_numbers_book (F : Nat) : BookL Unit := { toBook := law02_numbers_book0, lo := losOf (law02_numbers_lo F), need := needsOf [(29, 3), (51, 2), (59, 1)] }
set_option maxRecDepth 100000 in
theorem law02_numbers_l1_step (F d : Nat) (s4 : Int) (s7 : Int) (s8 : Int) (s : List Int) (KQ : AExit → ASt → Option Unit) : (stepL Go.Proofs.Try.prog (law02_numbers_book F) F d 59 ((loopsOf (codeOf Go.Proofs.Try.prog 59)).getD 0 .skip)) (law02_numbers_l1_T.inst (((), ((), (s4, (s7, (s8, ()))))), ((((), ((), ())), ((), ((), ()))), (s, ())))) (fun e s => KQ e ((headOf Go.Proofs.Try.prog law02_numbers_book0 59) s)) = law02_numbers_l1 F none (fun s4 s7 s8 s => KQ .normal (law02_numbers_l1_T.inst (((), ((), (s4, (s7, (s8, ()))))), ((((), ((), ())), ((), ((), ()))), (s, ()))))) (fun y0 y1 y2 y3 => KQ .ret (law02_numbers_l1_T0.inst (((), ((), (y0, (y1, (y2, ()))))), ((((), ((), ())), ((), ((), ()))), (y3, ()))))) (fun y0 y1 y2 y3 => KQ (.exit 0) (law02_numbers_l1_T1.inst (((), ((), (y0, (y1, (y2, ()))))), ((((), ((), ())), ((), ((), ()))), (y3, ()))))) s4 s7 s8 s := by kernel_rfl
theorem law02_numbers_l1_run (F d : Nat) : ∀ (m : Nat) (s4 : Int) (s7 : Int) (s8 : Int) (s : List Int) (kq : AExit → ASt → Option Unit), loopN (stepL Go.Proofs.Try.prog (law02_numbers_book F) F d 59 ((loopsOf (codeOf Go.Proofs.Try.prog 59)).getD 0 .skip)) (headOf Go.Proofs.Try.prog law02_numbers_book0 59) m (law02_numbers_l1_T.inst (((), ((), (s4, (s7, (s8, ()))))), ((((), ((), ())), ((), ((), ()))), (s, ())))) kq = law02_numbers_l1F F none (fun y0 y1 y2 y3 => kq .ret (law02_numbers_l1_T0.inst (((), ((), (y0, (y1, (y2, ()))))), ((((), ((), ())), ((), ((), ()))), (y3, ()))))) (fun y0 y1 y2 y3 => kq (.exit 0) (law02_numbers_l1_T1.inst (((), ((), (y0, (y1, (y2, ()))))), ((((), ((), ())), ((), ((), ()))), (y3, ()))))) m s4 s7 s8 s
  | 0, _, _, _, _, _ => rfl
  | m + 1, s4, s7, s8, s, kq => (law02_numbers_l1_step F d s4 s7 s8 s (fun e s => match e with | .normal => loopN (stepL Go.Proofs.Try.prog (law02_numbers_book F) F d 59 ((loopsOf (codeOf Go.Proofs.Try.prog 59)).getD 0 .skip)) (headOf Go.Proofs.Try.prog law02_numbers_book0 59) m s kq | e => kq e s)).trans (congrArg (fun nx => law02_numbers_l1 F none nx (fun y0 y1 y2 y3 => kq .ret (law02_numbers_l1_T0.inst (((), ((), (y0, (y1, (y2, ()))))), ((((), ((), ())), ((), ((), ()))), (y3, ()))))) (fun y0 y1 y2 y3 => kq (.exit 0) (law02_numbers_l1_T1.inst (((), ((), (y0, (y1, (y2, ()))))), ((((), ((), ())), ((), ((), ()))), (y3, ()))))) s4 s7 s8 s) (funext fun s4 => funext fun s7 => funext fun s8 => funext fun s => law02_numbers_l1_run F d m s4 s7 s8 s kq))
set_option maxRecDepth 100000 in
theorem law02_numbers_l2_step (F d : Nat) (i : Int) (j : Int) (s : List Int) (KQ : AExit → ASt → Option Unit) : (stepL Go.Proofs.Try.prog (law02_numbers_book F) F d 51 ((loopsOf (codeOf Go.Proofs.Try.prog 51)).getD 0 .skip)) (law02_numbers_l2_T.inst (((), ((), (i, (j, ())))), (((), ((), ())), (s, ())))) (fun e s => KQ e ((headOf Go.Proofs.Try.prog law02_numbers_book0 51) s)) = law02_numbers_l2 F none (fun i j s => KQ .normal (law02_numbers_l2_T.inst (((), ((), (i, (j, ())))), (((), ((), ())), (s, ()))))) (fun y0 y1 y2 => KQ (.exit 0) (law02_numbers_l2_T0.inst (((), ((), (y0, (y1, ())))), (((), ((), ())), (y2, ()))))) i j s := by kernel_rfl
theorem law02_numbers_l2_run (F d : Nat) : ∀ (m : Nat) (i : Int) (j : Int) (s : List Int) (kq : AExit → ASt → Option Unit), loopN (stepL Go.Proofs.Try.prog (law02_numbers_book F) F d 51 ((loopsOf (codeOf Go.Proofs.Try.prog 51)).getD 0 .skip)) (headOf Go.Proofs.Try.prog law02_numbers_book0 51) m (law02_numbers_l2_T.inst (((), ((), (i, (j, ())))), (((), ((), ())), (s, ())))) kq = law02_numbers_l2F F none (fun y0 y1 y2 => kq (.exit 0) (law02_numbers_l2_T0.inst (((), ((), (y0, (y1, ())))), (((), ((), ())), (y2, ()))))) m i j s
  | 0, _, _, _, _ => rfl
  | m + 1, i, j, s, kq => (law02_numbers_l2_step F d i j s (fun e s => match e with | .normal => loopN (stepL Go.Proofs.Try.prog (law02_numbers_book F) F d 51 ((loopsOf (codeOf Go.Proofs.Try.prog 51)).getD 0 .skip)) (headOf Go.Proofs.Try.prog law02_numbers_book0 51) m s kq | e => kq e s)).trans (congrArg (fun nx => law02_numbers_l2 F none nx (fun y0 y1 y2 => kq (.exit 0) (law02_numbers_l2_T0.inst (((), ((), (y0, (y1, ())))), (((), ((), ())), (y2, ()))))) i j s) (funext fun i => funext fun j => funext fun s => law02_numbers_l2_run F d m i j s kq))
theorem law02_numbers_loOk (F : Nat) : LoOk Go.Proofs.Try.prog (law02_numbers_book F) F := loOk_of (l := law02_numbers_lo F) rfl (List.forall_mem_cons.2 ⟨loOne_of 0 (by kernel_rfl) (by kernel_rfl) (loIs_of fun d x kq => law02_numbers_l1_run F d F x.1.2.2.1 x.1.2.2.2.1 x.1.2.2.2.2.1 x.2.2.1 kq), (List.forall_mem_cons.2 ⟨loOne_of 0 (by kernel_rfl) (by kernel_rfl) (loIs_of fun d x kq => law02_numbers_l2_run F d F x.1.2.2.1 x.1.2.2.2.1 x.2.2.1 kq), (fun _ h => nomatch h)⟩)⟩)
set_option maxRecDepth 100000 in
theorem law02_numbers_run (F : Nat) (l : List Int) (kend : List BV → Option Unit) : runFnL Go.Proofs.Try.prog (law02_numbers_book F) F 20 29 [.d (.slc (.int .i64)) l] [.d (.slc (.int .i64))] kend = law02_numbers F l none (fun y0 => kend [BV.d (.slc (.int .i64)) y0]) := by kernel_rfl
theorem law02_numbers_contract : Contract Go.Proofs.Try.prog 29 law02_numbers_orc := contract_of_runL (B0 := law02_numbers_book0) (noNumB_ok num_ok) mix_ok (gamB_ok gam_ok) (orcsOf_ok (List.forall_mem_cons.2 ⟨clone_int_contract, (fun _ h => nomatch h)⟩)) (by kernel_rfl) (fun x h => by
  obtain ⟨F, hF⟩ := law02_numbers_plain x.1 h
  exact ⟨F, 20, law02_numbers_book F, rfl, law02_numbers_loOk F, fun kend => (law02_numbers_run F x.1 kend).trans (hF none (fun y0 => kend [BV.d (.slc (.int .i64)) y0]))⟩)

def WireTears_orc : Orc := Orc.of [.d (.slc (.int .i64)), .d (.int .i64), .d (.int .u16)] true 0 fun x => (WireTears_P x.1 x.2.1 x.2.2.1, [.d .bool (WireTears_r x.1 x.2.1 x.2.2.1)])
@[reducible] def WireTears_l1_T : Tpl := { cur := ⟨[(0, .var (.slc (.int .i64))), (1, .var (.int .u16)), (3, .var .bool), (0, .row 0), (15, .var (.int .i64)), (0, .var (.int .i64))], 38⟩, stk := [⟨[], 0⟩], heap := [.row 5 (.int .u8) false] }
@[reducible] def WireTears_l1_T0 : Tpl := { cur := ⟨[(0, .var (.slc (.int .i64))), (1, .var (.int .u16)), (3, .var .bool), (0, .row 0), (15, .var (.int .i64)), (0, .var (.int .i64))], 38⟩, stk := [⟨[], 0⟩], heap := [.row 5 (.int .u8) false] }
@[reducible] def WireTears_l1_T1 : Tpl := { cur := ⟨[(0, .var (.slc (.int .i64))), (1, .var (.int .u16)), (3, .var .bool), (0, .row 0), (15, .var (.int .i64)), (0, .var (.int .i64))], 38⟩, stk := [⟨[], 0⟩], heap := [.row 5 (.int .u8) false] }
def WireTears_orcs : List (FuncId × Orc) := [(12, law02_awake_orc), (13, wire_PutInt_orc), (19, wire_Int_orc), (28, wire_PutInts_orc), (29, law02_numbers_orc), (30, wire_Ints_orc)]
def WireTears_book0 : Book := { Γ := gam, orc := orcsOf WireTears_orcs, hint := hintsOf [(7, { keep := some [0, 2, 6, 7, 23, 24], own := [], dat := [], stk := [] })] }
def WireTears_lo (F : Nat) : List (LoE Unit) := [⟨7, 5, LO.of WireTears_l1_T fun x kq => WireTears_l1F F none (fun y0 y1 y2 y3 y4 y5 => kq .ret (WireTears_l1_T0.inst ((y0, (y1, (y2, ((), (y3, (y4, ())))))), (((), ()), (y5, ()))))) (fun y0 y1 y2 y3 y4 y5 => kq (.exit 0) (WireTears_l1_T1.inst ((y0, (y1, (y2, ((), (y3, (y4, ())))))), (((), ()), (y5, ()))))) F x.1.1 x.1.2.1 x.1.2.2.1 x.1.2.2.2.2.1 x.1.2.2.2.2.2.1 x.2.2.1⟩]
def WireTears_book (F : Nat) : BookL Unit := { toBook := WireTears_book0, lo := losOf (WireTears_lo F), need := needsOf [] }
set_option maxRecDepth 100000 in
theorem WireTears_l1_step (F d : Nat) (l : List Int) (cut : Int) (s6 : Bool) (s23 : Int) (s24 : Int) (b : List UInt8) (KQ : AExit → ASt → Option Unit) : (stepL Go.Proofs.Try.prog (WireTears_book F) F d 7 ((loopsOf (codeOf Go.Proofs.Try.prog 7)).getD 0 .skip)) (WireTears_l1_T.inst ((l, (cut, (s6, ((), (s23, (s24, ())))))), (((), ()), (b, ())))) (fun e s => KQ e ((headOf Go.Proofs.Try.prog WireTears_book0 7) s)) = WireTears_l1 F none (fun l cut s6 s23 s24 b => KQ .normal (WireTears_l1_T.inst ((l, (cut, (s6, ((), (s23, (s24, ())))))), (((), ()), (b, ()))))) (fun y0 y1 y2 y3 y4 y5 => KQ .ret (WireTears_l1_T0.inst ((y0, (y1, (y2, ((), (y3, (y4, ())))))), (((), ()), (y5, ()))))) (fun y0 y1 y2 y3 y4 y5 => KQ (.exit 0) (WireTears_l1_T1.inst ((y0, (y1, (y2, ((), (y3, (y4, ())))))), (((), ()), (y5, ()))))) l cut s6 s23 s24 b := by kernel_rfl
theorem WireTears_l1_run (F d : Nat) : ∀ (m : Nat) (l : List Int) (cut : Int) (s6 : Bool) (s23 : Int) (s24 : Int) (b : List UInt8) (kq : AExit → ASt → Option Unit), loopN (stepL Go.Proofs.Try.prog (WireTears_book F) F d 7 ((loopsOf (codeOf Go.Proofs.Try.prog 7)).getD 0 .skip)) (headOf Go.Proofs.Try.prog WireTears_book0 7) m (WireTears_l1_T.inst ((l, (cut, (s6, ((), (s23, (s24, ())))))), (((), ()), (b, ())))) kq = WireTears_l1F F none (fun y0 y1 y2 y3 y4 y5 => kq .ret (WireTears_l1_T0.inst ((y0, (y1, (y2, ((), (y3, (y4, ())))))), (((), ()), (y5, ()))))) (fun y0 y1 y2 y3 y4 y5 => kq (.exit 0) (WireTears_l1_T1.inst ((y0, (y1, (y2, ((), (y3, (y4, ())))))), (((), ()), (y5, ()))))) m l cut s6 s23 s24 b
  | 0, _, _, _, _, _, _, _ => rfl
  | m + 1, l, cut, s6, s23, s24, b, kq => (WireTears_l1_step F d l cut s6 s23 s24 b (fun e s => match e with | .normal => loopN (stepL Go.Proofs.Try.prog (WireTears_book F) F d 7 ((loopsOf (codeOf Go.Proofs.Try.prog 7)).getD 0 .skip)) (headOf Go.Proofs.Try.prog WireTears_book0 7) m s kq | e => kq e s)).trans (congrArg (fun nx => WireTears_l1 F none nx (fun y0 y1 y2 y3 y4 y5 => kq .ret (WireTears_l1_T0.inst ((y0, (y1, (y2, ((), (y3, (y4, ())))))), (((), ()), (y5, ()))))) (fun y0 y1 y2 y3 y4 y5 => kq (.exit 0) (WireTears_l1_T1.inst ((y0, (y1, (y2, ((), (y3, (y4, ())))))), (((), ()), (y5, ()))))) l cut s6 s23 s24 b) (funext fun l => funext fun cut => funext fun s6 => funext fun s23 => funext fun s24 => funext fun b => WireTears_l1_run F d m l cut s6 s23 s24 b kq))
theorem WireTears_loOk (F : Nat) : LoOk Go.Proofs.Try.prog (WireTears_book F) F := loOk_of (l := WireTears_lo F) rfl (List.forall_mem_cons.2 ⟨loOne_of 0 (by kernel_rfl) (by kernel_rfl) (loIs_of fun d x kq => WireTears_l1_run F d F x.1.1 x.1.2.1 x.1.2.2.1 x.1.2.2.2.2.1 x.1.2.2.2.2.2.1 x.2.2.1 kq), (fun _ h => nomatch h)⟩)
set_option maxRecDepth 100000 in
theorem WireTears_run (F : Nat) (l : List Int) (n : Int) (cut : Int) (kend : List BV → Option Unit) : runFnL Go.Proofs.Try.prog (WireTears_book F) F 20 7 [.d (.slc (.int .i64)) l, .d (.int .i64) n, .d (.int .u16) cut] [.d .bool] kend = WireTears F l n cut none (fun y0 => kend [BV.d .bool y0]) := by kernel_rfl
theorem WireTears_contract : Contract Go.Proofs.Try.prog 7 WireTears_orc := contract_of_runL (B0 := WireTears_book0) (noNumB_ok num_ok) mix_ok (gamB_ok gam_ok) (orcsOf_ok (List.forall_mem_cons.2 ⟨law02_awake_contract, (List.forall_mem_cons.2 ⟨wire_PutInt_contract, (List.forall_mem_cons.2 ⟨wire_Int_contract, (List.forall_mem_cons.2 ⟨wire_PutInts_contract, (List.forall_mem_cons.2 ⟨law02_numbers_contract, (List.forall_mem_cons.2 ⟨wire_Ints_contract, (fun _ h => nomatch h)⟩)⟩)⟩)⟩)⟩)⟩)) (by kernel_rfl) (fun x h => by
  obtain ⟨F, hF⟩ := WireTears_plain x.1 x.2.1 x.2.2.1 h
  exact ⟨F, 20, WireTears_book F, rfl, WireTears_loOk F, fun kend => (WireTears_run F x.1 x.2.1 x.2.2.1 kend).trans (hF none (fun y0 => kend [BV.d .bool y0]))⟩)

def WireCanonical_orc : Orc := Orc.of [.d (.slc (.int .u8))] true 0 fun x => (WireCanonical_P x.1, [.d .bool (WireCanonical_r x.1)])
def WireCanonical_orcs : List (FuncId × Orc) := [(11, law02_short_orc), (12, law02_awake_orc), (13, wire_PutInt_orc), (16, bytes_Equal_orc), (19, wire_Int_orc), (21, wire_PutBytes_orc), (23, wire_PutText_orc), (25, wire_Bytes_orc), (27, wire_Text_orc), (28, wire_PutInts_orc), (30, wire_Ints_orc)]
def WireCanonical_book0 : Book := { Γ := gam, orc := orcsOf WireCanonical_orcs, hint := hintsOf [] }
def WireCanonical_lo (F : Nat) : List (LoE Unit) := []
def WireCanonical_book (F : Nat) : BookL Unit := { toBook := WireCanonical_book0, lo := losOf (WireCanonical_lo F), need := needsOf [] }
theorem WireCanonical_loOk (F : Nat) : LoOk Go.Proofs.Try.prog (WireCanonical_book F) F := loOk_of (l := WireCanonical_lo F) rfl (fun _ h => nomatch h)
set_option maxRecDepth 100000 in
theorem WireCanonical_run (F : Nat) (src : List UInt8) (kend : List BV → Option Unit) : runFnL Go.Proofs.Try.prog (WireCanonical_book F) F 20 9 [.d (.slc (.int .u8)) src] [.d .bool] kend = WireCanonical F src none (fun y0 => kend [BV.d .bool y0]) := by kernel_rfl
theorem WireCanonical_contract : Contract Go.Proofs.Try.prog 9 WireCanonical_orc := contract_of_runL (B0 := WireCanonical_book0) (noNumB_ok num_ok) mix_ok (gamB_ok gam_ok) (orcsOf_ok (List.forall_mem_cons.2 ⟨law02_short_contract, (List.forall_mem_cons.2 ⟨law02_awake_contract, (List.forall_mem_cons.2 ⟨wire_PutInt_contract, (List.forall_mem_cons.2 ⟨bytes_Equal_contract, (List.forall_mem_cons.2 ⟨wire_Int_contract, (List.forall_mem_cons.2 ⟨wire_PutBytes_contract, (List.forall_mem_cons.2 ⟨wire_PutText_contract, (List.forall_mem_cons.2 ⟨wire_Bytes_contract, (List.forall_mem_cons.2 ⟨wire_Text_contract, (List.forall_mem_cons.2 ⟨wire_PutInts_contract, (List.forall_mem_cons.2 ⟨wire_Ints_contract, (fun _ h => nomatch h)⟩)⟩)⟩)⟩)⟩)⟩)⟩)⟩)⟩)⟩)⟩)) (by kernel_rfl) (fun x h => by
  obtain ⟨F, hF⟩ := WireCanonical_plain x.1 h
  exact ⟨F, 20, WireCanonical_book F, rfl, WireCanonical_loOk F, fun kend => (WireCanonical_run F x.1 kend).trans (hF none (fun y0 => kend [BV.d .bool y0]))⟩)

noncomputable def law02_short_Pz := Classical.choose (⟨law02_short_P, rfl⟩ : ∃ f, f = law02_short_P)
theorem law02_short_Pz_eq : law02_short_Pz = law02_short_P := Classical.choose_spec (⟨law02_short_P, rfl⟩ : ∃ f, f = law02_short_P)
noncomputable def law02_short_rz := Classical.choose (⟨law02_short_r, rfl⟩ : ∃ f, f = law02_short_r)
theorem law02_short_rz_eq : law02_short_rz = law02_short_r := Classical.choose_spec (⟨law02_short_r, rfl⟩ : ∃ f, f = law02_short_r)
noncomputable def law02_short_orcz : Orc := Orc.of [.d (.slc (.slc (.int .u8)))] true 0 fun x => (law02_short_Pz x.1, [.d .bool (law02_short_rz x.1)])
theorem law02_short_contractz : Contract Go.Proofs.Try.prog 11 law02_short_orcz := by
  have e : law02_short_orcz = law02_short_orc := by simp only [law02_short_orcz, law02_short_orc, law02_short_Pz_eq, law02_short_rz_eq]
  rw [e]; exact law02_short_contract
noncomputable def law02_awake_rz := Classical.choose (⟨law02_awake_r, rfl⟩ : ∃ f, f = law02_awake_r)
theorem law02_awake_rz_eq : law02_awake_rz = law02_awake_r := Classical.choose_spec (⟨law02_awake_r, rfl⟩ : ∃ f, f = law02_awake_r)
noncomputable def law02_awake_orcz : Orc := Orc.of [] true 0 fun x => (true, [.d .bool (law02_awake_rz)])
theorem law02_awake_contractz : Contract Go.Proofs.Try.prog 12 law02_awake_orcz := by
  have e : law02_awake_orcz = law02_awake_orc := by simp only [law02_awake_orcz, law02_awake_orc, law02_awake_rz_eq]
  rw [e]; exact law02_awake_contract
noncomputable def wire_PutInt_Pz := Classical.choose (⟨wire_PutInt_P, rfl⟩ : ∃ f, f = wire_PutInt_P)
theorem wire_PutInt_Pz_eq : wire_PutInt_Pz = wire_PutInt_P := Classical.choose_spec (⟨wire_PutInt_P, rfl⟩ : ∃ f, f = wire_PutInt_P)
noncomputable def wire_PutInt_rz := Classical.choose (⟨wire_PutInt_r, rfl⟩ : ∃ f, f = wire_PutInt_r)
theorem wire_PutInt_rz_eq : wire_PutInt_rz = wire_PutInt_r := Classical.choose_spec (⟨wire_PutInt_r, rfl⟩ : ∃ f, f = wire_PutInt_r)
noncomputable def wire_PutInt_orcz : Orc := Orc.of [.d (.slc (.int .u8)), .d (.int .i64)] true 1 fun x => (wire_PutInt_Pz x.1 x.2.1, [.o 5 (.int .u8) (wire_PutInt_rz x.1 x.2.1)])
theorem wire_PutInt_contractz : Contract Go.Proofs.Try.prog 13 wire_PutInt_orcz := by
  have e : wire_PutInt_orcz = wire_PutInt_orc := by simp only [wire_PutInt_orcz, wire_PutInt_orc, wire_PutInt_Pz_eq, wire_PutInt_rz_eq]
  rw [e]; exact wire_PutInt_contract
noncomputable def bytes_Equal_rz := Classical.choose (⟨bytes_Equal_r, rfl⟩ : ∃ f, f = bytes_Equal_r)
theorem bytes_Equal_rz_eq : bytes_Equal_rz = bytes_Equal_r := Classical.choose_spec (⟨bytes_Equal_r, rfl⟩ : ∃ f, f = bytes_Equal_r)
noncomputable def bytes_Equal_orcz : Orc := Orc.of [.d (.slc (.int .u8)), .d (.slc (.int .u8))] true 0 fun x => (true, [.d .bool (bytes_Equal_rz x.1 x.2.1)])
theorem bytes_Equal_contractz : Contract Go.Proofs.Try.prog 16 bytes_Equal_orcz := by
  have e : bytes_Equal_orcz = bytes_Equal_orc := by simp only [bytes_Equal_orcz, bytes_Equal_orc, bytes_Equal_rz_eq]
  rw [e]; exact bytes_Equal_contract
noncomputable def wire_Int_Pz := Classical.choose (⟨wire_Int_P, rfl⟩ : ∃ f, f = wire_Int_P)
theorem wire_Int_Pz_eq : wire_Int_Pz = wire_Int_P := Classical.choose_spec (⟨wire_Int_P, rfl⟩ : ∃ f, f = wire_Int_P)
noncomputable def wire_Int_r0z := Classical.choose (⟨wire_Int_r0, rfl⟩ : ∃ f, f = wire_Int_r0)
theorem wire_Int_r0z_eq : wire_Int_r0z = wire_Int_r0 := Classical.choose_spec (⟨wire_Int_r0, rfl⟩ : ∃ f, f = wire_Int_r0)
noncomputable def wire_Int_r1z := Classical.choose (⟨wire_Int_r1, rfl⟩ : ∃ f, f = wire_Int_r1)
theorem wire_Int_r1z_eq : wire_Int_r1z = wire_Int_r1 := Classical.choose_spec (⟨wire_Int_r1, rfl⟩ : ∃ f, f = wire_Int_r1)
noncomputable def wire_Int_r2z := Classical.choose (⟨wire_Int_r2, rfl⟩ : ∃ f, f = wire_Int_r2)
theorem wire_Int_r2z_eq : wire_Int_r2z = wire_Int_r2 := Classical.choose_spec (⟨wire_Int_r2, rfl⟩ : ∃ f, f = wire_Int_r2)
noncomputable def wire_Int_orcz : Orc := Orc.of [.d (.slc (.int .u8))] true 1 fun x => (wire_Int_Pz x.1, [.d (.int .i64) (wire_Int_r0z x.1), .o 5 (.int .u8) (wire_Int_r1z x.1), .d (.int .i64) (wire_Int_r2z x.1)])
theorem wire_Int_contractz : Contract Go.Proofs.Try.prog 19 wire_Int_orcz := by
  have e : wire_Int_orcz = wire_Int_orc := by simp only [wire_Int_orcz, wire_Int_orc, wire_Int_Pz_eq, wire_Int_r0z_eq, wire_Int_r1z_eq, wire_Int_r2z_eq]
  rw [e]; exact wire_Int_contract
noncomputable def wire_PutBytes_Pz := Classical.choose (⟨wire_PutBytes_P, rfl⟩ : ∃ f, f = wire_PutBytes_P)
theorem wire_PutBytes_Pz_eq : wire_PutBytes_Pz = wire_PutBytes_P := Classical.choose_spec (⟨wire_PutBytes_P, rfl⟩ : ∃ f, f = wire_PutBytes_P)
noncomputable def wire_PutBytes_rz := Classical.choose (⟨wire_PutBytes_r, rfl⟩ : ∃ f, f = wire_PutBytes_r)
theorem wire_PutBytes_rz_eq : wire_PutBytes_rz = wire_PutBytes_r := Classical.choose_spec (⟨wire_PutBytes_r, rfl⟩ : ∃ f, f = wire_PutBytes_r)
noncomputable def wire_PutBytes_orcz : Orc := Orc.of [.d (.slc (.int .u8)), .d (.slc (.int .u8))] true 1 fun x => (wire_PutBytes_Pz x.1 x.2.1, [.o 5 (.int .u8) (wire_PutBytes_rz x.1 x.2.1)])
theorem wire_PutBytes_contractz : Contract Go.Proofs.Try.prog 21 wire_PutBytes_orcz := by
  have e : wire_PutBytes_orcz = wire_PutBytes_orc := by simp only [wire_PutBytes_orcz, wire_PutBytes_orc, wire_PutBytes_Pz_eq, wire_PutBytes_rz_eq]
  rw [e]; exact wire_PutBytes_contract
noncomputable def wire_PutText_Pz := Classical.choose (⟨wire_PutText_P, rfl⟩ : ∃ f, f = wire_PutText_P)
theorem wire_PutText_Pz_eq : wire_PutText_Pz = wire_PutText_P := Classical.choose_spec (⟨wire_PutText_P, rfl⟩ : ∃ f, f = wire_PutText_P)
noncomputable def wire_PutText_rz := Classical.choose (⟨wire_PutText_r, rfl⟩ : ∃ f, f = wire_PutText_r)
theorem wire_PutText_rz_eq : wire_PutText_rz = wire_PutText_r := Classical.choose_spec (⟨wire_PutText_r, rfl⟩ : ∃ f, f = wire_PutText_r)
noncomputable def wire_PutText_orcz : Orc := Orc.of [.d (.slc (.int .u8)), .d .str] true 1 fun x => (wire_PutText_Pz x.1 x.2.1, [.o 5 (.int .u8) (wire_PutText_rz x.1 x.2.1)])
theorem wire_PutText_contractz : Contract Go.Proofs.Try.prog 23 wire_PutText_orcz := by
  have e : wire_PutText_orcz = wire_PutText_orc := by simp only [wire_PutText_orcz, wire_PutText_orc, wire_PutText_Pz_eq, wire_PutText_rz_eq]
  rw [e]; exact wire_PutText_contract
noncomputable def wire_Bytes_Pz := Classical.choose (⟨wire_Bytes_P, rfl⟩ : ∃ f, f = wire_Bytes_P)
theorem wire_Bytes_Pz_eq : wire_Bytes_Pz = wire_Bytes_P := Classical.choose_spec (⟨wire_Bytes_P, rfl⟩ : ∃ f, f = wire_Bytes_P)
noncomputable def wire_Bytes_r0z := Classical.choose (⟨wire_Bytes_r0, rfl⟩ : ∃ f, f = wire_Bytes_r0)
theorem wire_Bytes_r0z_eq : wire_Bytes_r0z = wire_Bytes_r0 := Classical.choose_spec (⟨wire_Bytes_r0, rfl⟩ : ∃ f, f = wire_Bytes_r0)
noncomputable def wire_Bytes_r1z := Classical.choose (⟨wire_Bytes_r1, rfl⟩ : ∃ f, f = wire_Bytes_r1)
theorem wire_Bytes_r1z_eq : wire_Bytes_r1z = wire_Bytes_r1 := Classical.choose_spec (⟨wire_Bytes_r1, rfl⟩ : ∃ f, f = wire_Bytes_r1)
noncomputable def wire_Bytes_r2z := Classical.choose (⟨wire_Bytes_r2, rfl⟩ : ∃ f, f = wire_Bytes_r2)
theorem wire_Bytes_r2z_eq : wire_Bytes_r2z = wire_Bytes_r2 := Classical.choose_spec (⟨wire_Bytes_r2, rfl⟩ : ∃ f, f = wire_Bytes_r2)
noncomputable def wire_Bytes_orcz : Orc := Orc.of [.d (.slc (.int .u8))] true 2 fun x => (wire_Bytes_Pz x.1, [.o 5 (.int .u8) (wire_Bytes_r0z x.1), .o 5 (.int .u8) (wire_Bytes_r1z x.1), .d (.int .i64) (wire_Bytes_r2z x.1)])
theorem wire_Bytes_contractz : Contract Go.Proofs.Try.prog 25 wire_Bytes_orcz := by
  have e : wire_Bytes_orcz = wire_Bytes_orc := by simp only [wire_Bytes_orcz, wire_Bytes_orc, wire_Bytes_Pz_eq, wire_Bytes_r0z_eq, wire_Bytes_r1z_eq, wire_Bytes_r2z_eq]
  rw [e]; exact wire_Bytes_contract
noncomputable def wire_Text_Pz := Classical.choose (⟨wire_Text_P, rfl⟩ : ∃ f, f = wire_Text_P)
theorem wire_Text_Pz_eq : wire_Text_Pz = wire_Text_P := Classical.choose_spec (⟨wire_Text_P, rfl⟩ : ∃ f, f = wire_Text_P)
noncomputable def wire_Text_r0z := Classical.choose (⟨wire_Text_r0, rfl⟩ : ∃ f, f = wire_Text_r0)
theorem wire_Text_r0z_eq : wire_Text_r0z = wire_Text_r0 := Classical.choose_spec (⟨wire_Text_r0, rfl⟩ : ∃ f, f = wire_Text_r0)
noncomputable def wire_Text_r1z := Classical.choose (⟨wire_Text_r1, rfl⟩ : ∃ f, f = wire_Text_r1)
theorem wire_Text_r1z_eq : wire_Text_r1z = wire_Text_r1 := Classical.choose_spec (⟨wire_Text_r1, rfl⟩ : ∃ f, f = wire_Text_r1)
noncomputable def wire_Text_r2z := Classical.choose (⟨wire_Text_r2, rfl⟩ : ∃ f, f = wire_Text_r2)
theorem wire_Text_r2z_eq : wire_Text_r2z = wire_Text_r2 := Classical.choose_spec (⟨wire_Text_r2, rfl⟩ : ∃ f, f = wire_Text_r2)
noncomputable def wire_Text_orcz : Orc := Orc.of [.d (.slc (.int .u8))] true 1 fun x => (wire_Text_Pz x.1, [.d .str (wire_Text_r0z x.1), .o 5 (.int .u8) (wire_Text_r1z x.1), .d (.int .i64) (wire_Text_r2z x.1)])
theorem wire_Text_contractz : Contract Go.Proofs.Try.prog 27 wire_Text_orcz := by
  have e : wire_Text_orcz = wire_Text_orc := by simp only [wire_Text_orcz, wire_Text_orc, wire_Text_Pz_eq, wire_Text_r0z_eq, wire_Text_r1z_eq, wire_Text_r2z_eq]
  rw [e]; exact wire_Text_contract
noncomputable def wire_PutInts_Pz := Classical.choose (⟨wire_PutInts_P, rfl⟩ : ∃ f, f = wire_PutInts_P)
theorem wire_PutInts_Pz_eq : wire_PutInts_Pz = wire_PutInts_P := Classical.choose_spec (⟨wire_PutInts_P, rfl⟩ : ∃ f, f = wire_PutInts_P)
noncomputable def wire_PutInts_rz := Classical.choose (⟨wire_PutInts_r, rfl⟩ : ∃ f, f = wire_PutInts_r)
theorem wire_PutInts_rz_eq : wire_PutInts_rz = wire_PutInts_r := Classical.choose_spec (⟨wire_PutInts_r, rfl⟩ : ∃ f, f = wire_PutInts_r)
noncomputable def wire_PutInts_orcz : Orc := Orc.of [.d (.slc (.int .u8)), .d (.slc (.int .i64))] true 1 fun x => (wire_PutInts_Pz x.1 x.2.1, [.o 5 (.int .u8) (wire_PutInts_rz x.1 x.2.1)])
theorem wire_PutInts_contractz : Contract Go.Proofs.Try.prog 28 wire_PutInts_orcz := by
  have e : wire_PutInts_orcz = wire_PutInts_orc := by simp only [wire_PutInts_orcz, wire_PutInts_orc, wire_PutInts_Pz_eq, wire_PutInts_rz_eq]
  rw [e]; exact wire_PutInts_contract
noncomputable def law02_numbers_Pz := Classical.choose (⟨law02_numbers_P, rfl⟩ : ∃ f, f = law02_numbers_P)
theorem law02_numbers_Pz_eq : law02_numbers_Pz = law02_numbers_P := Classical.choose_spec (⟨law02_numbers_P, rfl⟩ : ∃ f, f = law02_numbers_P)
noncomputable def law02_numbers_rz := Classical.choose (⟨law02_numbers_r, rfl⟩ : ∃ f, f = law02_numbers_r)
theorem law02_numbers_rz_eq : law02_numbers_rz = law02_numbers_r := Classical.choose_spec (⟨law02_numbers_r, rfl⟩ : ∃ f, f = law02_numbers_r)
noncomputable def law02_numbers_orcz : Orc := Orc.of [.d (.slc (.int .i64))] false 0 fun x => (law02_numbers_Pz x.1, [.d (.slc (.int .i64)) (law02_numbers_rz x.1)])
theorem law02_numbers_contractz : Contract Go.Proofs.Try.prog 29 law02_numbers_orcz := by
  have e : law02_numbers_orcz = law02_numbers_orc := by simp only [law02_numbers_orcz, law02_numbers_orc, law02_numbers_Pz_eq, law02_numbers_rz_eq]
  rw [e]; exact law02_numbers_contract
noncomputable def wire_Ints_Pz := Classical.choose (⟨wire_Ints_P, rfl⟩ : ∃ f, f = wire_Ints_P)
theorem wire_Ints_Pz_eq : wire_Ints_Pz = wire_Ints_P := Classical.choose_spec (⟨wire_Ints_P, rfl⟩ : ∃ f, f = wire_Ints_P)
noncomputable def wire_Ints_r0z := Classical.choose (⟨wire_Ints_r0, rfl⟩ : ∃ f, f = wire_Ints_r0)
theorem wire_Ints_r0z_eq : wire_Ints_r0z = wire_Ints_r0 := Classical.choose_spec (⟨wire_Ints_r0, rfl⟩ : ∃ f, f = wire_Ints_r0)
noncomputable def wire_Ints_r1z := Classical.choose (⟨wire_Ints_r1, rfl⟩ : ∃ f, f = wire_Ints_r1)
theorem wire_Ints_r1z_eq : wire_Ints_r1z = wire_Ints_r1 := Classical.choose_spec (⟨wire_Ints_r1, rfl⟩ : ∃ f, f = wire_Ints_r1)
noncomputable def wire_Ints_r2z := Classical.choose (⟨wire_Ints_r2, rfl⟩ : ∃ f, f = wire_Ints_r2)
theorem wire_Ints_r2z_eq : wire_Ints_r2z = wire_Ints_r2 := Classical.choose_spec (⟨wire_Ints_r2, rfl⟩ : ∃ f, f = wire_Ints_r2)
noncomputable def wire_Ints_orcz : Orc := Orc.of [.d (.slc (.int .u8))] true 2 fun x => (wire_Ints_Pz x.1, [.o 3 (.int .i64) (wire_Ints_r0z x.1), .o 5 (.int .u8) (wire_Ints_r1z x.1), .d (.int .i64) (wire_Ints_r2z x.1)])
theorem wire_Ints_contractz : Contract Go.Proofs.Try.prog 30 wire_Ints_orcz := by
  have e : wire_Ints_orcz = wire_Ints_orc := by simp only [wire_Ints_orcz, wire_Ints_orc, wire_Ints_Pz_eq, wire_Ints_r0z_eq, wire_Ints_r1z_eq, wire_Ints_r2z_eq]
  rw [e]; exact wire_Ints_contract
noncomputable def equal_int_Pz := Classical.choose (⟨equal_int_P, rfl⟩ : ∃ f, f = equal_int_P)
theorem equal_int_Pz_eq : equal_int_Pz = equal_int_P := Classical.choose_spec (⟨equal_int_P, rfl⟩ : ∃ f, f = equal_int_P)
noncomputable def equal_int_rz := Classical.choose (⟨equal_int_r, rfl⟩ : ∃ f, f = equal_int_r)
theorem equal_int_rz_eq : equal_int_rz = equal_int_r := Classical.choose_spec (⟨equal_int_r, rfl⟩ : ∃ f, f = equal_int_r)
noncomputable def equal_int_orcz : Orc := Orc.of [.d (.slc (.int .i64)), .d (.slc (.int .i64))] true 0 fun x => (equal_int_Pz x.1 x.2.1, [.d .bool (equal_int_rz x.1 x.2.1)])
theorem equal_int_contractz : Contract Go.Proofs.Try.prog 33 equal_int_orcz := by
  have e : equal_int_orcz = equal_int_orc := by simp only [equal_int_orcz, equal_int_orc, equal_int_Pz_eq, equal_int_rz_eq]
  rw [e]; exact equal_int_contract
def WireReturns_orc : Orc := Orc.of [.d (.slc (.int .i64)), .d (.slc (.int .u8)), .d (.slc (.int .u8))] true 0 fun x => (WireReturns_P x.1 x.2.1 x.2.2.1, [.d .bool (WireReturns_r x.1 x.2.1 x.2.2.1)])
noncomputable def WireReturns_z {X : Type} (F : Nat) (l : List Int) (b : List UInt8) (rest_ : List UInt8) (fail : X) (ret : Bool → X) : X :=
  bif (law02_short_Pz ([b, rest_] : List (List UInt8))) then
  bif (!(law02_short_rz ([b, rest_] : List (List UInt8)))) then
    ret (law02_awake_rz)
  else
  bif (decide (((l.length : Nat) : Int) > (60 : Int))) then
    ret (law02_awake_rz)
  else
  bif (law02_numbers_Pz l) then
  bif (wire_PutInt_Pz ([] : List UInt8) (((law02_numbers_rz l).length : Nat) : Int)) then
  bif (wire_PutBytes_Pz (wire_PutInt_rz ([] : List UInt8) (((law02_numbers_rz l).length : Nat) : Int)) b) then
  bif (wire_PutText_Pz (wire_PutBytes_rz (wire_PutInt_rz ([] : List UInt8) (((law02_numbers_rz l).length : Nat) : Int)) b) b) then
  bif (wire_PutInts_Pz (wire_PutText_rz (wire_PutBytes_rz (wire_PutInt_rz ([] : List UInt8) (((law02_numbers_rz l).length : Nat) : Int)) b) b) (law02_numbers_rz l)) then
  bif (decide (((wire_PutInts_rz (wire_PutText_rz (wire_PutBytes_rz (wire_PutInt_rz ([] : List UInt8) (((law02_numbers_rz l).length : Nat) : Int)) b) b) (law02_numbers_rz l)) ++ rest_).length ≤ big)) then
  bif (wire_Int_Pz ((wire_PutInts_rz (wire_PutText_rz (wire_PutBytes_rz (wire_PutInt_rz ([] : List UInt8) (((law02_numbers_rz l).length : Nat) : Int)) b) b) (law02_numbers_rz l)) ++ rest_)) then
  bif (wire_Bytes_Pz (wire_Int_r1z ((wire_PutInts_rz (wire_PutText_rz (wire_PutBytes_rz (wire_PutInt_rz ([] : List UInt8) (((law02_numbers_rz l).length : Nat) : Int)) b) b) (law02_numbers_rz l)) ++ rest_))) then
  bif (wire_Text_Pz (wire_Bytes_r1z (wire_Int_r1z ((wire_PutInts_rz (wire_PutText_rz (wire_PutBytes_rz (wire_PutInt_rz ([] : List UInt8) (((law02_numbers_rz l).length : Nat) : Int)) b) b) (law02_numbers_rz l)) ++ rest_)))) then
  bif (wire_Ints_Pz (wire_Text_r1z (wire_Bytes_r1z (wire_Int_r1z ((wire_PutInts_rz (wire_PutText_rz (wire_PutBytes_rz (wire_PutInt_rz ([] : List UInt8) (((law02_numbers_rz l).length : Nat) : Int)) b) b) (law02_numbers_rz l)) ++ rest_))))) then
  bif ((addI (addI (addI (wire_Int_r2z ((wire_PutInts_rz (wire_PutText_rz (wire_PutBytes_rz (wire_PutInt_rz ([] : List UInt8) (((law02_numbers_rz l).length : Nat) : Int)) b) b) (law02_numbers_rz l)) ++ rest_)) (wire_Bytes_r2z (wire_Int_r1z ((wire_PutInts_rz (wire_PutText_rz (wire_PutBytes_rz (wire_PutInt_rz ([] : List UInt8) (((law02_numbers_rz l).length : Nat) : Int)) b) b) (law02_numbers_rz l)) ++ rest_)))) (wire_Text_r2z (wire_Bytes_r1z (wire_Int_r1z ((wire_PutInts_rz (wire_PutText_rz (wire_PutBytes_rz (wire_PutInt_rz ([] : List UInt8) (((law02_numbers_rz l).length : Nat) : Int)) b) b) (law02_numbers_rz l)) ++ rest_))))) (wire_Ints_r2z (wire_Text_r1z (wire_Bytes_r1z (wire_Int_r1z ((wire_PutInts_rz (wire_PutText_rz (wire_PutBytes_rz (wire_PutInt_rz ([] : List UInt8) (((law02_numbers_rz l).length : Nat) : Int)) b) b) (law02_numbers_rz l)) ++ rest_)))))) == (0 : Int)) then
    bif ((wire_Int_r0z ((wire_PutInts_rz (wire_PutText_rz (wire_PutBytes_rz (wire_PutInt_rz ([] : List UInt8) (((law02_numbers_rz l).length : Nat) : Int)) b) b) (law02_numbers_rz l)) ++ rest_)) == (((law02_numbers_rz l).length : Nat) : Int)) then
      bif (bytes_Equal_rz (wire_Bytes_r0z (wire_Int_r1z ((wire_PutInts_rz (wire_PutText_rz (wire_PutBytes_rz (wire_PutInt_rz ([] : List UInt8) (((law02_numbers_rz l).length : Nat) : Int)) b) b) (law02_numbers_rz l)) ++ rest_))) b) then
        bif ((wire_Text_r0z (wire_Bytes_r1z (wire_Int_r1z ((wire_PutInts_rz (wire_PutText_rz (wire_PutBytes_rz (wire_PutInt_rz ([] : List UInt8) (((law02_numbers_rz l).length : Nat) : Int)) b) b) (law02_numbers_rz l)) ++ rest_)))) == b) then
          bif (equal_int_Pz (wire_Ints_r0z (wire_Text_r1z (wire_Bytes_r1z (wire_Int_r1z ((wire_PutInts_rz (wire_PutText_rz (wire_PutBytes_rz (wire_PutInt_rz ([] : List UInt8) (((law02_numbers_rz l).length : Nat) : Int)) b) b) (law02_numbers_rz l)) ++ rest_))))) (law02_numbers_rz l)) then
          bif (equal_int_rz (wire_Ints_r0z (wire_Text_r1z (wire_Bytes_r1z (wire_Int_r1z ((wire_PutInts_rz (wire_PutText_rz (wire_PutBytes_rz (wire_PutInt_rz ([] : List UInt8) (((law02_numbers_rz l).length : Nat) : Int)) b) b) (law02_numbers_rz l)) ++ rest_))))) (law02_numbers_rz l)) then
            bif (bytes_Equal_rz (wire_Ints_r1z (wire_Text_r1z (wire_Bytes_r1z (wire_Int_r1z ((wire_PutInts_rz (wire_PutText_rz (wire_PutBytes_rz (wire_PutInt_rz ([] : List UInt8) (((law02_numbers_rz l).length : Nat) : Int)) b) b) (law02_numbers_rz l)) ++ rest_))))) rest_) then
              ret (law02_awake_rz)
            else
            ret false
          else
          ret false
          else fail
        else
        ret false
      else
      ret false
    else
    ret false
  else
  ret false
  else fail
  else fail
  else fail
  else fail
  else fail
  else fail
  else fail
  else fail
  else fail
  else fail
  else fail

theorem WireReturns_z_eq {X : Type} (F : Nat) (l : List Int) (b : List UInt8) (rest_ : List UInt8) (fail : X) (ret : Bool → X) : WireReturns_z F l b rest_ fail ret = WireReturns F l b rest_ fail ret := by
  unfold WireReturns_z WireReturns
  simp only [bytes_Equal_rz_eq, equal_int_Pz_eq, equal_int_rz_eq, law02_awake_rz_eq, law02_numbers_Pz_eq, law02_numbers_rz_eq, law02_short_Pz_eq, law02_short_rz_eq, wire_Bytes_Pz_eq, wire_Bytes_r0z_eq, wire_Bytes_r1z_eq, wire_Bytes_r2z_eq, wire_Int_Pz_eq, wire_Int_r0z_eq, wire_Int_r1z_eq, wire_Int_r2z_eq, wire_Ints_Pz_eq, wire_Ints_r0z_eq, wire_Ints_r1z_eq, wire_Ints_r2z_eq, wire_PutBytes_Pz_eq, wire_PutBytes_rz_eq, wire_PutInt_Pz_eq, wire_PutInt_rz_eq, wire_PutInts_Pz_eq, wire_PutInts_rz_eq, wire_PutText_Pz_eq, wire_PutText_rz_eq, wire_Text_Pz_eq, wire_Text_r0z_eq, wire_Text_r1z_eq, wire_Text_r2z_eq]
noncomputable def WireReturns_orcs : List (FuncId × Orc) := [(11, law02_short_orcz), (12, law02_awake_orcz), (13, wire_PutInt_orcz), (16, bytes_Equal_orcz), (19, wire_Int_orcz), (21, wire_PutBytes_orcz), (23, wire_PutText_orcz), (25, wire_Bytes_orcz), (27, wire_Text_orcz), (28, wire_PutInts_orcz), (29, law02_numbers_orcz), (30, wire_Ints_orcz), (33, equal_int_orcz)]
noncomputable def WireReturns_book0 : Book := { Γ := gam, orc := orcsOf WireReturns_orcs, hint := hintsOf [] }
noncomputable def WireReturns_lo (F : Nat) : List (LoE Unit) := []
noncomputable def WireReturns_book (F : Nat) : BookL Unit := { toBook := WireReturns_book0, lo := losOf (WireReturns_lo F), need := needsOf [] }
theorem WireReturns_loOk (F : Nat) : LoOk Go.Proofs.Try.prog (WireReturns_book F) F := loOk_of (l := WireReturns_lo F) rfl (fun _ h => nomatch h)
set_option maxRecDepth 100000 in
theorem WireReturns_run (F : Nat) (l : List Int) (b : List UInt8) (rest_ : List UInt8) (kend : List BV → Option Unit) : runFnL Go.Proofs.Try.prog (WireReturns_book F) F 20 10 [.d (.slc (.int .i64)) l, .d (.slc (.int .u8)) b, .d (.slc (.int .u8)) rest_] [.d .bool] kend = WireReturns_z F l b rest_ none (fun y0 => kend [BV.d .bool y0]) := by kernel_rfl
theorem WireReturns_contract : Contract Go.Proofs.Try.prog 10 WireReturns_orc := contract_of_runL (B0 := WireReturns_book0) (noNumB_ok num_ok) mix_ok (gamB_ok gam_ok) (orcsOf_ok (List.forall_mem_cons.2 ⟨law02_short_contractz, (List.forall_mem_cons.2 ⟨law02_awake_contractz, (List.forall_mem_cons.2 ⟨wire_PutInt_contractz, (List.forall_mem_cons.2 ⟨bytes_Equal_contractz, (List.forall_mem_cons.2 ⟨wire_Int_contractz, (List.forall_mem_cons.2 ⟨wire_PutBytes_contractz, (List.forall_mem_cons.2 ⟨wire_PutText_contractz, (List.forall_mem_cons.2 ⟨wire_Bytes_contractz, (List.forall_mem_cons.2 ⟨wire_Text_contractz, (List.forall_mem_cons.2 ⟨wire_PutInts_contractz, (List.forall_mem_cons.2 ⟨law02_numbers_contractz, (List.forall_mem_cons.2 ⟨wire_Ints_contractz, (List.forall_mem_cons.2 ⟨equal_int_contractz, (fun _ h => nomatch h)⟩)⟩)⟩)⟩)⟩)⟩)⟩)⟩)⟩)⟩)⟩)⟩)⟩)) (by kernel_rfl) (fun x h => by
  obtain ⟨F, hF⟩ := WireReturns_plain x.1 x.2.1 x.2.2.1 h
  exact ⟨F, 20, WireReturns_book F, rfl, WireReturns_loOk F, fun kend => ((WireReturns_run F x.1 x.2.1 x.2.2.1 kend).trans (WireReturns_z_eq F x.1 x.2.1 x.2.2.1 none _)).trans (hF none (fun y0 => kend [BV.d .bool y0]))⟩)

end Go.AI
