/- The machine runs as the plain functions say. -/
import Derived.Test.YtlilfooddecabaaDigestP3
import Derived.Test.YtlilfooddecabaaTypes
import Derived.Test.YtlilfooddecabaaA5
import Derived.KernelRfl
namespace Go.AI
open Go
open Go.Proofs.Try (prog)
set_option linter.unusedVariables false

@[reducible] def rotr_ps : List PM := [.d (.int .u32), .d (.int .i64)]
def rotr_orc : Orc := Orc.of rotr_ps true 0 fun x => (rotr_P x.1 x.2.1, [.d (.int .u32) (rotr_r x.1 x.2.1)])
def rotr_orcs : List (FuncId × Orc) := []
def rotr_book0 : Book := { Γ := gam, orc := orcsOf rotr_orcs, hint := hintsOf [] }
def rotr_lo (F : Nat) : List (LoE Unit) := []
def rotr_book (F : Nat) : BookL Unit := { toBook := rotr_book0, lo := losOf (rotr_lo F), need := needsOf [] }
theorem rotr_loOk (F : Nat) : LoOk prog (rotr_book F) F := loOk_of (l := rotr_lo F) rfl fz
set_option maxRecDepth 100000 in
theorem rotr_run (F : Nat) (x : ArgsT rotr_ps) (kend : List BV → Option Unit) : runFnL prog (rotr_book F) F 20 57 (argsInst rotr_ps x) [.d (.int .u32)] kend = rotr F x.1 x.2.1 none (fun y0 => kend [BV.d (.int .u32) y0]) := by kernel_rfl
theorem rotr_contract : Contract prog 57 rotr_orc := con_of (B0 := rotr_book0) (noNumB_ok num_ok) (rangesB_ok rng_ok) mix_ok (gamB_ok gam_ok) rotr_run (orcsOf_ok fz) (by kernel_rfl) (fun _ => rfl) rotr_loOk (fun x h => (rotr_plain x.1 x.2.1 h).elim fun F hF => ⟨F, fun kend => hF none _⟩)

@[reducible] def shr_ps : List PM := [.d (.int .u32), .d (.int .i64)]
def shr_orc : Orc := Orc.of shr_ps true 0 fun x => (shr_P x.1 x.2.1, [.d (.int .u32) (shr_r x.1 x.2.1)])
def shr_orcs : List (FuncId × Orc) := []
def shr_book0 : Book := { Γ := gam, orc := orcsOf shr_orcs, hint := hintsOf [] }
def shr_lo (F : Nat) : List (LoE Unit) := []
def shr_book (F : Nat) : BookL Unit := { toBook := shr_book0, lo := losOf (shr_lo F), need := needsOf [] }
theorem shr_loOk (F : Nat) : LoOk prog (shr_book F) F := loOk_of (l := shr_lo F) rfl fz
set_option maxRecDepth 100000 in
theorem shr_run (F : Nat) (x : ArgsT shr_ps) (kend : List BV → Option Unit) : runFnL prog (shr_book F) F 20 63 (argsInst shr_ps x) [.d (.int .u32)] kend = shr F x.1 x.2.1 none (fun y0 => kend [BV.d (.int .u32) y0]) := by kernel_rfl
theorem shr_contract : Contract prog 63 shr_orc := con_of (B0 := shr_book0) (noNumB_ok num_ok) (rangesB_ok rng_ok) mix_ok (gamB_ok gam_ok) shr_run (orcsOf_ok fz) (by kernel_rfl) (fun _ => rfl) shr_loOk (fun x h => (shr_plain x.1 x.2.1 h).elim fun F hF => ⟨F, fun kend => hF none _⟩)

def three_0_orcs : List (FuncId × Orc) := [(57, rotr_orc)]
def three_0_book0 : Book := { Γ := gam, orc := orcsOf three_0_orcs, hint := hintsOf [] }
def three_0_lo (F : Nat) : List (LoE Unit) := []
def three_0_book (F : Nat) : BookL Unit := { toBook := three_0_book0, lo := losOf (three_0_lo F), need := needsOf [] }
theorem three_0_loOk (F : Nat) : LoOk prog (three_0_book F) F := loOk_of (l := three_0_lo F) rfl fz
set_option maxRecDepth 100000 in
theorem three_0_run (F : Nat) (x_ : UInt32) (a : Int) (b : Int) (c : Int) (kend : List BV → Option Unit) : runFnL prog (three_0_book F) F 20 56 [.d (.int .u32) x_, .d (.int .i64) a, .d (.int .i64) b, .d (.int .i64) c, .f 57] [.d (.int .u32)] kend = three_0 F x_ a b c none (fun y0 => kend [BV.d (.int .u32) y0]) := by kernel_rfl
theorem three_0_contract : Contract prog 56 (Orc.of [.d (.int .u32), .d (.int .i64), .d (.int .i64), .d (.int .i64), .f] true 0 fun x => ((Nat.beq x.2.2.2.2.1 57) && three_P x.1 x.2.1 x.2.2.1 x.2.2.2.1 x.2.2.2.2.1, [.d (.int .u32) (three_r x.1 x.2.1 x.2.2.1 x.2.2.2.1 x.2.2.2.2.1)])) := contract_of_runL (B0 := three_0_book0) (noNumB_ok num_ok) (rangesB_ok rng_ok) mix_ok (gamB_ok gam_ok) (orcsOf_ok (fa rotr_contract fz)) (by kernel_rfl) (fun x h => by
  obtain ⟨x0, x1, x2, x3, x4, _⟩ := x
  simp only [Bool.and_eq_true] at h
  obtain ⟨e, h⟩ := h
  have e := Nat.eq_of_beq_eq_true e
  subst e
  obtain ⟨F, hF⟩ := three_0_plain x0 x1 x2 x3 h
  exact ⟨F, 20, three_0_book F, rfl, three_0_loOk F, fun kend => (three_0_run F x0 x1 x2 x3 kend).trans (hF none (fun y0 => kend [BV.d (.int .u32) y0]))⟩)
def three_1_orcs : List (FuncId × Orc) := [(57, rotr_orc), (63, shr_orc)]
def three_1_book0 : Book := { Γ := gam, orc := orcsOf three_1_orcs, hint := hintsOf [] }
def three_1_lo (F : Nat) : List (LoE Unit) := []
def three_1_book (F : Nat) : BookL Unit := { toBook := three_1_book0, lo := losOf (three_1_lo F), need := needsOf [] }
theorem three_1_loOk (F : Nat) : LoOk prog (three_1_book F) F := loOk_of (l := three_1_lo F) rfl fz
set_option maxRecDepth 100000 in
theorem three_1_run (F : Nat) (x_ : UInt32) (a : Int) (b : Int) (c : Int) (kend : List BV → Option Unit) : runFnL prog (three_1_book F) F 20 56 [.d (.int .u32) x_, .d (.int .i64) a, .d (.int .i64) b, .d (.int .i64) c, .f 63] [.d (.int .u32)] kend = three_1 F x_ a b c none (fun y0 => kend [BV.d (.int .u32) y0]) := by kernel_rfl
theorem three_1_contract : Contract prog 56 (Orc.of [.d (.int .u32), .d (.int .i64), .d (.int .i64), .d (.int .i64), .f] true 0 fun x => ((Nat.beq x.2.2.2.2.1 63) && three_P x.1 x.2.1 x.2.2.1 x.2.2.2.1 x.2.2.2.2.1, [.d (.int .u32) (three_r x.1 x.2.1 x.2.2.1 x.2.2.2.1 x.2.2.2.2.1)])) := contract_of_runL (B0 := three_1_book0) (noNumB_ok num_ok) (rangesB_ok rng_ok) mix_ok (gamB_ok gam_ok) (orcsOf_ok (fa rotr_contract (fa shr_contract fz))) (by kernel_rfl) (fun x h => by
  obtain ⟨x0, x1, x2, x3, x4, _⟩ := x
  simp only [Bool.and_eq_true] at h
  obtain ⟨e, h⟩ := h
  have e := Nat.eq_of_beq_eq_true e
  subst e
  obtain ⟨F, hF⟩ := three_1_plain x0 x1 x2 x3 h
  exact ⟨F, 20, three_1_book F, rfl, three_1_loOk F, fun kend => (three_1_run F x0 x1 x2 x3 kend).trans (hF none (fun y0 => kend [BV.d (.int .u32) y0]))⟩)
def three_orc : Orc := Orc.of [.d (.int .u32), .d (.int .i64), .d (.int .i64), .d (.int .i64), .f] true 0 fun x => ((Nat.beq x.2.2.2.2.1 57 || Nat.beq x.2.2.2.2.1 63) && three_P x.1 x.2.1 x.2.2.1 x.2.2.2.1 x.2.2.2.2.1, [.d (.int .u32) (three_r x.1 x.2.1 x.2.2.1 x.2.2.2.1 x.2.2.2.2.1)])
theorem three_contract : Contract prog 56 three_orc := contract_cases three_0_contract.1 (fun x h => by
  obtain ⟨x0, x1, x2, x3, x4, _⟩ := x
  simp only [Bool.and_eq_true, Bool.or_eq_true] at h
  obtain ⟨e, _⟩ := h
  rcases e with e | e
  · have e := Nat.eq_of_beq_eq_true e
    subst e
    exact ⟨_, three_0_contract, rfl⟩
  · have e := Nat.eq_of_beq_eq_true e
    subst e
    exact ⟨_, three_1_contract, rfl⟩)

@[reducible] def consts_ps : List PM := []
def consts_orc : Orc := Orc.of consts_ps true 0 fun x => (consts_P, [.d (.arr 64 (.int .u32)) (consts_r)])
def consts_orcs : List (FuncId × Orc) := []
def consts_book0 : Book := { Γ := gam, orc := orcsOf consts_orcs, hint := hintsOf [] }
def consts_lo (F : Nat) : List (LoE Unit) := []
def consts_book (F : Nat) : BookL Unit := { toBook := consts_book0, lo := losOf (consts_lo F), need := needsOf [] }
theorem consts_loOk (F : Nat) : LoOk prog (consts_book F) F := loOk_of (l := consts_lo F) rfl fz
set_option maxRecDepth 100000 in
theorem consts_run (F : Nat) (x : ArgsT consts_ps) (kend : List BV → Option Unit) : runFnL prog (consts_book F) F 20 62 (argsInst consts_ps x) [.d (.arr 64 (.int .u32))] kend = consts F  none (fun y0 => kend [BV.d (.arr 64 (.int .u32)) y0]) := by kernel_rfl
theorem consts_contract : Contract prog 62 consts_orc := con_of (B0 := consts_book0) (noNumB_ok num_ok) (rangesB_ok rng_ok) mix_ok (gamB_ok gam_ok) consts_run (orcsOf_ok fz) (by kernel_rfl) (fun _ => rfl) consts_loOk (fun x h => (consts_plain  h).elim fun F hF => ⟨F, fun kend => hF none _⟩)

@[reducible] def absorb_ps : List PM := [.d (.arr 8 (.int .u32)), .d (.slc (.int .u8))]
def absorb_orc : Orc := Orc.of absorb_ps true 0 fun x => (absorb_P x.1 x.2.1, [.d (.arr 8 (.int .u32)) (absorb_r x.1 x.2.1)])
@[reducible] def absorb_l2_T : Tpl := { cur := ⟨[(0, .hnd .yield 0), (0, .ptr 2 []), (1, .ptr 3 []), (0, .var (.int .i64)), (0, .var (.int .u32)), (4, .var (.arr 64 (.int .u32))), (0, .var (.int .i64)), (11, .var (.slc (.int .u8))), (0, .var (.int .i64)), (0, .var (.int .i64))], 50⟩, stk := [⟨[(0, .hnd .yield 0)], 0⟩, ⟨[(2, .ptr 4 []), (1, .ptr 5 []), (0, .ptr 1 [])], 78⟩, ⟨[], 0⟩], heap := [.lp 52 3 ⟨[(5, .ptr 1 [])], 78⟩ .ready, .box (.var (.arr 8 (.int .u32))), .box (.var (.slc (.int .u8))), .box (.var (.arr 16 (.int .u32))), .box (.var (.arr 8 (.int .u32))), .box (.var (.arr 8 (.int .u32)))] }
@[reducible] def absorb_l1_T : Tpl := { cur := ⟨[(0, .hnd .yield 0), (0, .ptr 2 []), (1, .ptr 3 []), (6, .var (.arr 64 (.int .u32))), (0, .var (.int .i64))], 64⟩, stk := [⟨[(0, .hnd .yield 0)], 0⟩, ⟨[(2, .ptr 4 []), (1, .ptr 5 []), (0, .ptr 1 [])], 78⟩, ⟨[], 0⟩], heap := [.lp 52 3 ⟨[(5, .ptr 1 [])], 78⟩ .ready, .box (.var (.arr 8 (.int .u32))), .box (.var (.slc (.int .u8))), .box (.var (.arr 16 (.int .u32))), .box (.var (.arr 8 (.int .u32))), .box (.var (.arr 8 (.int .u32)))] }
@[reducible] def absorb_l3_T : Tpl := { cur := ⟨[(2, .ptr 0 []), (1, .ptr 1 []), (0, .ptr 2 []), (65, .var (.int .i64))], 12⟩, stk := [⟨[], 0⟩], heap := [.box (.var (.arr 8 (.int .u32))), .box (.var (.arr 8 (.int .u32))), .box (.var (.arr 8 (.int .u32)))] }
def absorb_orcs : List (FuncId × Orc) := [(56, three_orc), (62, consts_orc)]
def absorb_book0 : Book := { Γ := gam, orc := orcsOf absorb_orcs, hint := hintsOf [(52, { keep := some [2, 4, 5, 71], keeps := [(9, [2, 4, 5, 71])], own := [], dat := [], stk := [] }), (61, { keep := some [0, 1, 3, 4, 5, 10, 11, 23, 24, 25], keeps := [(2, [0, 1, 3, 10, 11]), (6, [0, 1, 3, 4, 5, 10, 11, 23, 24, 25])], own := [], dat := [], stk := [[0], [2, 4, 5, 6, 7, 8, 9, 10, 15, 21]] })] }
def absorb_l2_G (F : Nat) (nx : absorb_l2_T.T → Option Unit) (kq : AExit → ASt → Option Unit) (x : absorb_l2_T.T) : Option Unit := absorb_l2 F none (fun i k s10 s11 s23 s24 s25 x_ s1 w s s4 => nx (((), ((), ((), (i, (k, (s10, (s11, (s23, (s24, (s25, ())))))))))), ((((), ()), (((), ((), ((), ()))), ((), ()))), (((), ()), (x_, (s1, (w, (s, (s4, ()))))))))) (fun y0 y1 y2 y3 y4 y5 y6 y7 y8 y9 y10 y11 => kq (.exit 2) (absorb_l2_T.inst (((), ((), ((), (y0, (y1, (y2, (y3, (y4, (y5, (y6, ())))))))))), ((((), ()), (((), ((), ((), ()))), ((), ()))), (((), ()), (y7, (y8, (y9, (y10, (y11, ())))))))))) x.1.2.2.2.1 x.1.2.2.2.2.1 x.1.2.2.2.2.2.1 x.1.2.2.2.2.2.2.1 x.1.2.2.2.2.2.2.2.1 x.1.2.2.2.2.2.2.2.2.1 x.1.2.2.2.2.2.2.2.2.2.1 x.2.2.2.1 x.2.2.2.2.1 x.2.2.2.2.2.1 x.2.2.2.2.2.2.1 x.2.2.2.2.2.2.2.1
def absorb_l2_R (F m : Nat) (x : absorb_l2_T.T) (kq : AExit → ASt → Option Unit) : Option Unit := absorb_l2F F none (fun y0 y1 y2 y3 y4 y5 y6 y7 y8 y9 y10 y11 => kq (.exit 2) (absorb_l2_T.inst (((), ((), ((), (y0, (y1, (y2, (y3, (y4, (y5, (y6, ())))))))))), ((((), ()), (((), ((), ((), ()))), ((), ()))), (((), ()), (y7, (y8, (y9, (y10, (y11, ())))))))))) m x.1.2.2.2.1 x.1.2.2.2.2.1 x.1.2.2.2.2.2.1 x.1.2.2.2.2.2.2.1 x.1.2.2.2.2.2.2.2.1 x.1.2.2.2.2.2.2.2.2.1 x.1.2.2.2.2.2.2.2.2.2.1 x.2.2.2.1 x.2.2.2.2.1 x.2.2.2.2.2.1 x.2.2.2.2.2.2.1 x.2.2.2.2.2.2.2.1
def absorb_l1_G (F : Nat) (nx : absorb_l1_T.T → Option Unit) (kq : AExit → ASt → Option Unit) (x : absorb_l1_T.T) : Option Unit := absorb_l1 F none (fun s10 s11 x_ s1 w s s4 => nx (((), ((), ((), (s10, (s11, ()))))), ((((), ()), (((), ((), ((), ()))), ((), ()))), (((), ()), (x_, (s1, (w, (s, (s4, ()))))))))) (fun y0 y1 y2 y3 y4 y5 y6 => kq (.exit 0) (absorb_l1_T.inst (((), ((), ((), (y0, (y1, ()))))), ((((), ()), (((), ((), ((), ()))), ((), ()))), (((), ()), (y2, (y3, (y4, (y5, (y6, ())))))))))) x.1.2.2.2.1 x.1.2.2.2.2.1 x.2.2.2.1 x.2.2.2.2.1 x.2.2.2.2.2.1 x.2.2.2.2.2.2.1 x.2.2.2.2.2.2.2.1
def absorb_l1_R (F m : Nat) (x : absorb_l1_T.T) (kq : AExit → ASt → Option Unit) : Option Unit := absorb_l1F F none (fun y0 y1 y2 y3 y4 y5 y6 => kq (.exit 0) (absorb_l1_T.inst (((), ((), ((), (y0, (y1, ()))))), ((((), ()), (((), ((), ((), ()))), ((), ()))), (((), ()), (y2, (y3, (y4, (y5, (y6, ())))))))))) m x.1.2.2.2.1 x.1.2.2.2.2.1 x.2.2.2.1 x.2.2.2.2.1 x.2.2.2.2.2.1 x.2.2.2.2.2.2.1 x.2.2.2.2.2.2.2.1
def absorb_l3_G (F : Nat) (nx : absorb_l3_T.T → Option Unit) (kq : AExit → ASt → Option Unit) (x : absorb_l3_T.T) : Option Unit := absorb_l3 F none (fun s71 s s4 x_ => nx (((), ((), ((), (s71, ())))), (((), ()), (s, (s4, (x_, ())))))) (fun y0 y1 y2 y3 => kq (.exit 2) (absorb_l3_T.inst (((), ((), ((), (y0, ())))), (((), ()), (y1, (y2, (y3, ()))))))) x.1.2.2.2.1 x.2.2.1 x.2.2.2.1 x.2.2.2.2.1
def absorb_l3_R (F m : Nat) (x : absorb_l3_T.T) (kq : AExit → ASt → Option Unit) : Option Unit := absorb_l3F F none (fun y0 y1 y2 y3 => kq (.exit 2) (absorb_l3_T.inst (((), ((), ((), (y0, ())))), (((), ()), (y1, (y2, (y3, ()))))))) m x.1.2.2.2.1 x.2.2.1 x.2.2.2.1 x.2.2.2.2.1
def absorb_lo (F : Nat) : List (LoE Unit) := [⟨61, 6, LO.of absorb_l2_T (absorb_l2_R F F)⟩,
  ⟨61, 2, LO.of absorb_l1_T (absorb_l1_R F F)⟩,
  ⟨52, 9, LO.of absorb_l3_T (absorb_l3_R F F)⟩]
def absorb_book (F : Nat) : BookL Unit := { toBook := absorb_book0, lo := losOf (absorb_lo F), need := needsOf [(61, 1)] }
set_option maxRecDepth 100000 in
theorem absorb_l2_step (F : Nat) : LStep prog (absorb_book F) F 61 1 6 absorb_l2_T (absorb_l2_G F) := fun d x KQ => by kernel_rfl
set_option maxRecDepth 100000 in
theorem absorb_l1_step (F : Nat) : LStep prog (absorb_book F) F 61 0 2 absorb_l1_T (absorb_l1_G F) := fun d x KQ => by kernel_rfl
set_option maxRecDepth 100000 in
theorem absorb_l3_step (F : Nat) : LStep prog (absorb_book F) F 52 0 9 absorb_l3_T (absorb_l3_G F) := fun d x KQ => by kernel_rfl
theorem absorb_loOk (F : Nat) : LoOk prog (absorb_book F) F := loOk_of (l := absorb_lo F) rfl (fa (loOne_of 1 (by kernel_rfl) (by kernel_rfl) (lstep_run (absorb_l2_step F) (fun _ _ => rfl) (fun _ _ _ _ => rfl))) (fa (loOne_of 0 (by kernel_rfl) (by kernel_rfl) (lstep_run (absorb_l1_step F) (fun _ _ => rfl) (fun _ _ _ _ => rfl))) (fa (loOne_of 0 (by kernel_rfl) (by kernel_rfl) (lstep_run (absorb_l3_step F) (fun _ _ => rfl) (fun _ _ _ _ => rfl))) fz)))
set_option maxRecDepth 100000 in
theorem absorb_run (F : Nat) (x : ArgsT absorb_ps) (kend : List BV → Option Unit) : runFnL prog (absorb_book F) F 20 52 (argsInst absorb_ps x) [.d (.arr 8 (.int .u32))] kend = absorb F x.1 x.2.1 none (fun y0 => kend [BV.d (.arr 8 (.int .u32)) y0]) := by kernel_rfl
theorem absorb_contract : Contract prog 52 absorb_orc := con_of (B0 := absorb_book0) (noNumB_ok num_ok) (rangesB_ok rng_ok) mix_ok (gamB_ok gam_ok) absorb_run (orcsOf_ok (fa three_contract (fa consts_contract fz))) (by kernel_rfl) (fun _ => rfl) absorb_loOk (fun x h => (absorb_plain x.1 x.2.1 h).elim fun F hF => ⟨F, fun kend => hF none _⟩)

@[reducible] def hNew_ps : List PM := []
def hNew_orc : Orc := Orc.of hNew_ps false 0 fun x => (hNew_P, [.d (.pair (.arr 8 (.int .u32)) (.pair (.slc (.int .u8)) (.pair (.int .i64) .unit))) (hNew_r)])
def hNew_orcs : List (FuncId × Orc) := []
def hNew_book0 : Book := { Γ := gam, orc := orcsOf hNew_orcs, hint := hintsOf [] }
def hNew_lo (F : Nat) : List (LoE Unit) := []
def hNew_book (F : Nat) : BookL Unit := { toBook := hNew_book0, lo := losOf (hNew_lo F), need := needsOf [] }
theorem hNew_loOk (F : Nat) : LoOk prog (hNew_book F) F := loOk_of (l := hNew_lo F) rfl fz
set_option maxRecDepth 100000 in
theorem hNew_run (F : Nat) (x : ArgsT hNew_ps) (kend : List BV → Option Unit) : runFnL prog (hNew_book F) F 20 46 (argsInst hNew_ps x) [.d (.pair (.arr 8 (.int .u32)) (.pair (.slc (.int .u8)) (.pair (.int .i64) .unit)))] kend = hNew F  none (fun y0 => kend [BV.d (.pair (.arr 8 (.int .u32)) (.pair (.slc (.int .u8)) (.pair (.int .i64) .unit))) y0]) := by kernel_rfl
theorem hNew_contract : Contract prog 46 hNew_orc := con_of (B0 := hNew_book0) (noNumB_ok num_ok) (rangesB_ok rng_ok) mix_ok (gamB_ok gam_ok) hNew_run (orcsOf_ok fz) (by kernel_rfl) (fun _ => rfl) hNew_loOk (fun x h => (hNew_plain  h).elim fun F hF => ⟨F, fun kend => hF none _⟩)

@[reducible] def hwrite_ps : List PM := [.d (.pair (.arr 8 (.int .u32)) (.pair (.slc (.int .u8)) (.pair (.int .i64) .unit))), .d (.slc (.int .u8))]
def hwrite_orc : Orc := Orc.of hwrite_ps false 0 fun x => (hwrite_P x.1 x.2.1, [.d (.pair (.arr 8 (.int .u32)) (.pair (.slc (.int .u8)) (.pair (.int .i64) .unit))) (hwrite_r x.1 x.2.1)])
@[reducible] def hwrite_l1_T : Tpl := { cur := ⟨[(1, .var (.slc (.int .u8))), (0, .ptr 0 []), (1, .ptr 1 []), (0, .ptr 2 []), (7, .var (.arr 8 (.int .u32))), (0, .var (.int .i64))], 45⟩, stk := [⟨[], 0⟩], heap := [.box (.var (.pair (.arr 8 (.int .u32)) (.pair (.slc (.int .u8)) (.pair (.int .i64) .unit)))), .box (.var (.pair (.arr 8 (.int .u32)) (.pair (.slc (.int .u8)) (.pair (.int .i64) .unit)))), .box (.var (.arr 8 (.int .u32)))] }
@[reducible] def hwrite_l2_T : Tpl := { cur := ⟨[(1, .var (.slc (.int .u8))), (0, .ptr 0 []), (1, .ptr 1 []), (0, .ptr 2 []), (2, .var (.slc (.int .u8)))], 51⟩, stk := [⟨[], 0⟩], heap := [.box (.var (.pair (.arr 8 (.int .u32)) (.pair (.slc (.int .u8)) (.pair (.int .i64) .unit)))), .box (.var (.pair (.arr 8 (.int .u32)) (.pair (.slc (.int .u8)) (.pair (.int .i64) .unit)))), .box (.var (.arr 8 (.int .u32)))] }
@[reducible] def hwrite_l3_T : Tpl := { cur := ⟨[(4, .ptr 0 []), (4, .ptr 1 []), (39, .var (.arr 8 (.int .u32))), (0, .var (.int .i64))], 9⟩, stk := [⟨[], 0⟩], heap := [.box (.var (.pair (.arr 8 (.int .u32)) (.pair (.slc (.int .u8)) (.pair (.int .i64) .unit)))), .box (.pr (.var (.arr 8 (.int .u32))) (.pr (.row 2) (.var (.pair (.int .i64) .unit)))), .row 5 (.int .u8) false] }
def hwrite_orcs : List (FuncId × Orc) := [(52, absorb_orc)]
def hwrite_book0 : Book := { Γ := gam, orc := orcsOf hwrite_orcs, hint := hintsOf [(45, { keep := some [1, 2, 4, 5, 8, 9, 13, 14, 49, 50], keeps := [(3, [1, 2, 4, 5, 13, 14]), (8, [1, 2, 4, 5, 8]), (13, [4, 9, 49, 50])], own := [], dat := [], stk := [] })] }
def hwrite_l1_G (F : Nat) (nx : hwrite_l1_T.T → Option Unit) (kq : AExit → ASt → Option Unit) (x : hwrite_l1_T.T) : Option Unit := hwrite_l1 F none (fun b s13 s14 h s4 s => nx ((b, ((), ((), ((), (s13, (s14, ())))))), (((), ()), (h, (s4, (s, ())))))) (fun y0 y1 y2 y3 y4 y5 => kq (.exit 0) (hwrite_l1_T.inst ((y0, ((), ((), ((), (y1, (y2, ())))))), (((), ()), (y3, (y4, (y5, ()))))))) x.1.1 x.1.2.2.2.2.1 x.1.2.2.2.2.2.1 x.2.2.1 x.2.2.2.1 x.2.2.2.2.1
def hwrite_l1_R (F m : Nat) (x : hwrite_l1_T.T) (kq : AExit → ASt → Option Unit) : Option Unit := hwrite_l1F F none (fun y0 y1 y2 y3 y4 y5 => kq (.exit 0) (hwrite_l1_T.inst ((y0, ((), ((), ((), (y1, (y2, ())))))), (((), ()), (y3, (y4, (y5, ()))))))) m x.1.1 x.1.2.2.2.2.1 x.1.2.2.2.2.2.1 x.2.2.1 x.2.2.2.1 x.2.2.2.2.1
def hwrite_l2_G (F : Nat) (nx : hwrite_l2_T.T → Option Unit) (kq : AExit → ASt → Option Unit) (x : hwrite_l2_T.T) : Option Unit := hwrite_l2 F none (fun b all h s4 s => nx ((b, ((), ((), ((), (all, ()))))), (((), ()), (h, (s4, (s, ())))))) (fun y0 y1 y2 y3 y4 => kq (.exit 2) (hwrite_l2_T.inst ((y0, ((), ((), ((), (y1, ()))))), (((), ()), (y2, (y3, (y4, ()))))))) x.1.1 x.1.2.2.2.2.1 x.2.2.1 x.2.2.2.1 x.2.2.2.2.1
def hwrite_l2_R (F m : Nat) (x : hwrite_l2_T.T) (kq : AExit → ASt → Option Unit) : Option Unit := hwrite_l2F F none (fun y0 y1 y2 y3 y4 => kq (.exit 2) (hwrite_l2_T.inst ((y0, ((), ((), ((), (y1, ()))))), (((), ()), (y2, (y3, (y4, ()))))))) m x.1.1 x.1.2.2.2.2.1 x.2.2.1 x.2.2.2.1 x.2.2.2.2.1
def hwrite_l3_G (F : Nat) (nx : hwrite_l3_T.T → Option Unit) (kq : AExit → ASt → Option Unit) (x : hwrite_l3_T.T) : Option Unit := hwrite_l3 F none (fun s49 s50 s4 out out1 h2 => nx (((), ((), (s49, (s50, ())))), (((), ()), (s4, ((out, ((), out1)), (h2, ())))))) (fun y0 y1 y2 y3 y4 y5 => kq (.exit 4) (hwrite_l3_T.inst (((), ((), (y0, (y1, ())))), (((), ()), (y2, ((y3, ((), y4)), (y5, ()))))))) x.1.2.2.1 x.1.2.2.2.1 x.2.2.1 x.2.2.2.1.1 x.2.2.2.1.2.2 x.2.2.2.2.1
def hwrite_l3_R (F m : Nat) (x : hwrite_l3_T.T) (kq : AExit → ASt → Option Unit) : Option Unit := hwrite_l3F F none (fun y0 y1 y2 y3 y4 y5 => kq (.exit 4) (hwrite_l3_T.inst (((), ((), (y0, (y1, ())))), (((), ()), (y2, ((y3, ((), y4)), (y5, ()))))))) m x.1.2.2.1 x.1.2.2.2.1 x.2.2.1 x.2.2.2.1.1 x.2.2.2.1.2.2 x.2.2.2.2.1
def hwrite_lo (F : Nat) : List (LoE Unit) := [⟨45, 3, LO.of hwrite_l1_T (hwrite_l1_R F F)⟩,
  ⟨45, 8, LO.of hwrite_l2_T (hwrite_l2_R F F)⟩,
  ⟨45, 13, LO.of hwrite_l3_T (hwrite_l3_R F F)⟩]
def hwrite_book (F : Nat) : BookL Unit := { toBook := hwrite_book0, lo := losOf (hwrite_lo F), need := needsOf [] }
set_option maxRecDepth 100000 in
theorem hwrite_l1_step (F : Nat) : LStep prog (hwrite_book F) F 45 0 3 hwrite_l1_T (hwrite_l1_G F) := fun d x KQ => by kernel_rfl
set_option maxRecDepth 100000 in
theorem hwrite_l2_step (F : Nat) : LStep prog (hwrite_book F) F 45 1 8 hwrite_l2_T (hwrite_l2_G F) := fun d x KQ => by kernel_rfl
set_option maxRecDepth 100000 in
theorem hwrite_l3_step (F : Nat) : LStep prog (hwrite_book F) F 45 2 13 hwrite_l3_T (hwrite_l3_G F) := fun d x KQ => by kernel_rfl
theorem hwrite_loOk (F : Nat) : LoOk prog (hwrite_book F) F := loOk_of (l := hwrite_lo F) rfl (fa (loOne_of 0 (by kernel_rfl) (by kernel_rfl) (lstep_run (hwrite_l1_step F) (fun _ _ => rfl) (fun _ _ _ _ => rfl))) (fa (loOne_of 1 (by kernel_rfl) (by kernel_rfl) (lstep_run (hwrite_l2_step F) (fun _ _ => rfl) (fun _ _ _ _ => rfl))) (fa (loOne_of 2 (by kernel_rfl) (by kernel_rfl) (lstep_run (hwrite_l3_step F) (fun _ _ => rfl) (fun _ _ _ _ => rfl))) fz)))
set_option maxRecDepth 100000 in
theorem hwrite_run (F : Nat) (x : ArgsT hwrite_ps) (kend : List BV → Option Unit) : runFnL prog (hwrite_book F) F 20 45 (argsInst hwrite_ps x) [.d (.pair (.arr 8 (.int .u32)) (.pair (.slc (.int .u8)) (.pair (.int .i64) .unit)))] kend = hwrite F x.1 x.2.1 none (fun y0 => kend [BV.d (.pair (.arr 8 (.int .u32)) (.pair (.slc (.int .u8)) (.pair (.int .i64) .unit))) y0]) := by kernel_rfl
theorem hwrite_contract : Contract prog 45 hwrite_orc := con_of (B0 := hwrite_book0) (noNumB_ok num_ok) (rangesB_ok rng_ok) mix_ok (gamB_ok gam_ok) hwrite_run (orcsOf_ok (fa absorb_contract fz)) (by kernel_rfl) (fun _ => rfl) hwrite_loOk (fun x h => (hwrite_plain x.1 x.2.1 h).elim fun F hF => ⟨F, fun kend => hF none _⟩)

@[reducible] def hfinish_ps : List PM := [.d (.pair (.arr 8 (.int .u32)) (.pair (.slc (.int .u8)) (.pair (.int .i64) .unit)))]
def hfinish_orc : Orc := Orc.of hfinish_ps true 0 fun x => (hfinish_P x.1, [.d (.arr 32 (.int .u8)) (hfinish_r x.1)])
@[reducible] def hfinish_l1_T : Tpl := { cur := ⟨[(1, .ptr 0 []), (0, .ptr 1 []), (0, .row 2), (0, .var (.int .i64))], 52⟩, stk := [⟨[], 0⟩], heap := [.box (.var (.pair (.arr 8 (.int .u32)) (.pair (.slc (.int .u8)) (.pair (.int .i64) .unit)))), .box (.var (.arr 32 (.int .u8))), .row 5 (.int .u8) false] }
@[reducible] def hfinish_l3_T : Tpl := { cur := ⟨[(2, .ptr 0 []), (2, .ptr 1 []), (0, .var (.int .i64)), (0, .var (.int .u32)), (27, .var (.arr 8 (.int .u32))), (0, .var (.int .i64)), (3, .var (.int .i64))], 16⟩, stk := [⟨[], 0⟩], heap := [.box (.var (.arr 32 (.int .u8))), .box (.var (.arr 32 (.int .u8)))] }
@[reducible] def hfinish_l2_T : Tpl := { cur := ⟨[(2, .ptr 0 []), (2, .ptr 1 []), (29, .var (.arr 8 (.int .u32))), (0, .var (.int .i64))], 20⟩, stk := [⟨[], 0⟩], heap := [.box (.var (.arr 32 (.int .u8))), .box (.var (.arr 32 (.int .u8)))] }
def hfinish_orcs : List (FuncId × Orc) := [(45, hwrite_orc)]
def hfinish_book0 : Book := { Γ := gam, orc := orcsOf hfinish_orcs, hint := hintsOf [(44, { keep := some [1, 2, 3, 4, 5, 6, 7, 35, 36, 40], keeps := [(4, [1, 2, 3, 4]), (9, [2, 5, 35, 36]), (12, [2, 5, 6, 7, 35, 36, 40])], own := [], dat := [], stk := [] })] }
def hfinish_l1_G (F : Nat) (nx : hfinish_l1_T.T → Option Unit) (kq : AExit → ASt → Option Unit) (x : hfinish_l1_T.T) : Option Unit := hfinish_l1 F none (fun shift h s2 pad => nx (((), ((), ((), (shift, ())))), (((), ()), (h, (s2, (pad, ())))))) (fun y0 y1 y2 y3 => kq (.exit 0) (hfinish_l1_T.inst (((), ((), ((), (y0, ())))), (((), ()), (y1, (y2, (y3, ()))))))) x.1.2.2.2.1 x.2.2.1 x.2.2.2.1 x.2.2.2.2.1
def hfinish_l1_R (F m : Nat) (x : hfinish_l1_T.T) (kq : AExit → ASt → Option Unit) : Option Unit := hfinish_l1F F none (fun y0 y1 y2 y3 => kq (.exit 0) (hfinish_l1_T.inst (((), ((), ((), (y0, ())))), (((), ()), (y1, (y2, (y3, ()))))))) m x.1.2.2.2.1 x.2.2.1 x.2.2.2.1 x.2.2.2.2.1
def hfinish_l3_G (F : Nat) (nx : hfinish_l3_T.T → Option Unit) (kq : AExit → ASt → Option Unit) (x : hfinish_l3_T.T) : Option Unit := hfinish_l3 F none (fun i x_ s35 s36 s40 s2 out => nx (((), ((), (i, (x_, (s35, (s36, (s40, ()))))))), (((), ()), (s2, (out, ()))))) (fun y0 y1 y2 y3 y4 y5 y6 => kq (.exit 4) (hfinish_l3_T.inst (((), ((), (y0, (y1, (y2, (y3, (y4, ()))))))), (((), ()), (y5, (y6, ())))))) x.1.2.2.1 x.1.2.2.2.1 x.1.2.2.2.2.1 x.1.2.2.2.2.2.1 x.1.2.2.2.2.2.2.1 x.2.2.1 x.2.2.2.1
def hfinish_l3_R (F m : Nat) (x : hfinish_l3_T.T) (kq : AExit → ASt → Option Unit) : Option Unit := hfinish_l3F F none (fun y0 y1 y2 y3 y4 y5 y6 => kq (.exit 4) (hfinish_l3_T.inst (((), ((), (y0, (y1, (y2, (y3, (y4, ()))))))), (((), ()), (y5, (y6, ())))))) m x.1.2.2.1 x.1.2.2.2.1 x.1.2.2.2.2.1 x.1.2.2.2.2.2.1 x.1.2.2.2.2.2.2.1 x.2.2.1 x.2.2.2.1
def hfinish_l2_G (F : Nat) (nx : hfinish_l2_T.T → Option Unit) (kq : AExit → ASt → Option Unit) (x : hfinish_l2_T.T) : Option Unit := hfinish_l2 F none (fun s35 s36 s2 out => nx (((), ((), (s35, (s36, ())))), (((), ()), (s2, (out, ()))))) (fun y0 y1 y2 y3 => kq (.exit 2) (hfinish_l2_T.inst (((), ((), (y0, (y1, ())))), (((), ()), (y2, (y3, ())))))) x.1.2.2.1 x.1.2.2.2.1 x.2.2.1 x.2.2.2.1
def hfinish_l2_R (F m : Nat) (x : hfinish_l2_T.T) (kq : AExit → ASt → Option Unit) : Option Unit := hfinish_l2F F none (fun y0 y1 y2 y3 => kq (.exit 2) (hfinish_l2_T.inst (((), ((), (y0, (y1, ())))), (((), ()), (y2, (y3, ())))))) m x.1.2.2.1 x.1.2.2.2.1 x.2.2.1 x.2.2.2.1
def hfinish_lo (F : Nat) : List (LoE Unit) := [⟨44, 4, LO.of hfinish_l1_T (hfinish_l1_R F F)⟩,
  ⟨44, 12, LO.of hfinish_l3_T (hfinish_l3_R F F)⟩,
  ⟨44, 9, LO.of hfinish_l2_T (hfinish_l2_R F F)⟩]
def hfinish_book (F : Nat) : BookL Unit := { toBook := hfinish_book0, lo := losOf (hfinish_lo F), need := needsOf [] }
set_option maxRecDepth 100000 in
theorem hfinish_l1_step (F : Nat) : LStep prog (hfinish_book F) F 44 0 4 hfinish_l1_T (hfinish_l1_G F) := fun d x KQ => by kernel_rfl
set_option maxRecDepth 100000 in
theorem hfinish_l3_step (F : Nat) : LStep prog (hfinish_book F) F 44 2 12 hfinish_l3_T (hfinish_l3_G F) := fun d x KQ => by kernel_rfl
set_option maxRecDepth 100000 in
theorem hfinish_l2_step (F : Nat) : LStep prog (hfinish_book F) F 44 1 9 hfinish_l2_T (hfinish_l2_G F) := fun d x KQ => by kernel_rfl
theorem hfinish_loOk (F : Nat) : LoOk prog (hfinish_book F) F := loOk_of (l := hfinish_lo F) rfl (fa (loOne_of 0 (by kernel_rfl) (by kernel_rfl) (lstep_run (hfinish_l1_step F) (fun _ _ => rfl) (fun _ _ _ _ => rfl))) (fa (loOne_of 2 (by kernel_rfl) (by kernel_rfl) (lstep_run (hfinish_l3_step F) (fun _ _ => rfl) (fun _ _ _ _ => rfl))) (fa (loOne_of 1 (by kernel_rfl) (by kernel_rfl) (lstep_run (hfinish_l2_step F) (fun _ _ => rfl) (fun _ _ _ _ => rfl))) fz)))
set_option maxRecDepth 100000 in
theorem hfinish_run (F : Nat) (x : ArgsT hfinish_ps) (kend : List BV → Option Unit) : runFnL prog (hfinish_book F) F 20 44 (argsInst hfinish_ps x) [.d (.arr 32 (.int .u8))] kend = hfinish F x.1 none (fun y0 => kend [BV.d (.arr 32 (.int .u8)) y0]) := by kernel_rfl
theorem hfinish_contract : Contract prog 44 hfinish_orc := con_of (B0 := hfinish_book0) (noNumB_ok num_ok) (rangesB_ok rng_ok) mix_ok (gamB_ok gam_ok) hfinish_run (orcsOf_ok (fa hwrite_contract fz)) (by kernel_rfl) (fun _ => rfl) hfinish_loOk (fun x h => (hfinish_plain x.1 h).elim fun F hF => ⟨F, fun kend => hF none _⟩)

@[reducible] def dSum_ps : List PM := [.d (.slc (.int .u8))]
def dSum_orc : Orc := Orc.of dSum_ps true 0 fun x => (dSum_P x.1, [.d (.arr 32 (.int .u8)) (dSum_r x.1)])
def dSum_orcs : List (FuncId × Orc) := [(44, hfinish_orc), (45, hwrite_orc), (46, hNew_orc)]
def dSum_book0 : Book := { Γ := gam, orc := orcsOf dSum_orcs, hint := hintsOf [] }
def dSum_lo (F : Nat) : List (LoE Unit) := []
def dSum_book (F : Nat) : BookL Unit := { toBook := dSum_book0, lo := losOf (dSum_lo F), need := needsOf [] }
theorem dSum_loOk (F : Nat) : LoOk prog (dSum_book F) F := loOk_of (l := dSum_lo F) rfl fz
set_option maxRecDepth 100000 in
theorem dSum_run (F : Nat) (x : ArgsT dSum_ps) (kend : List BV → Option Unit) : runFnL prog (dSum_book F) F 20 30 (argsInst dSum_ps x) [.d (.arr 32 (.int .u8))] kend = dSum F x.1 none (fun y0 => kend [BV.d (.arr 32 (.int .u8)) y0]) := by kernel_rfl
theorem dSum_contract : Contract prog 30 dSum_orc := con_of (B0 := dSum_book0) (noNumB_ok num_ok) (rangesB_ok rng_ok) mix_ok (gamB_ok gam_ok) dSum_run (orcsOf_ok (fa hfinish_contract (fa hwrite_contract (fa hNew_contract fz)))) (by kernel_rfl) (fun _ => rfl) dSum_loOk (fun x h => (dSum_plain x.1 h).elim fun F hF => ⟨F, fun kend => hF none _⟩)

@[reducible] def rconsts_ps : List PM := []
def rconsts_orc : Orc := Orc.of rconsts_ps true 0 fun x => (rconsts_P, [.d (.arr 64 (.int .u32)) (rconsts_r)])
def rconsts_orcs : List (FuncId × Orc) := []
def rconsts_book0 : Book := { Γ := gam, orc := orcsOf rconsts_orcs, hint := hintsOf [] }
def rconsts_lo (F : Nat) : List (LoE Unit) := []
def rconsts_book (F : Nat) : BookL Unit := { toBook := rconsts_book0, lo := losOf (rconsts_lo F), need := needsOf [] }
theorem rconsts_loOk (F : Nat) : LoOk prog (rconsts_book F) F := loOk_of (l := rconsts_lo F) rfl fz
set_option maxRecDepth 100000 in
theorem rconsts_run (F : Nat) (x : ArgsT rconsts_ps) (kend : List BV → Option Unit) : runFnL prog (rconsts_book F) F 20 59 (argsInst rconsts_ps x) [.d (.arr 64 (.int .u32))] kend = rconsts F  none (fun y0 => kend [BV.d (.arr 64 (.int .u32)) y0]) := by kernel_rfl
theorem rconsts_contract : Contract prog 59 rconsts_orc := con_of (B0 := rconsts_book0) (noNumB_ok num_ok) (rangesB_ok rng_ok) mix_ok (gamB_ok gam_ok) rconsts_run (orcsOf_ok fz) (by kernel_rfl) (fun _ => rfl) rconsts_loOk (fun x h => (rconsts_plain  h).elim fun F hF => ⟨F, fun kend => hF none _⟩)

@[reducible] def rrotr_ps : List PM := [.d (.int .u32), .d (.int .i64)]
def rrotr_orc : Orc := Orc.of rrotr_ps true 0 fun x => (rrotr_P x.1 x.2.1, [.d (.int .u32) (rrotr_r x.1 x.2.1)])
def rrotr_orcs : List (FuncId × Orc) := []
def rrotr_book0 : Book := { Γ := gam, orc := orcsOf rrotr_orcs, hint := hintsOf [] }
def rrotr_lo (F : Nat) : List (LoE Unit) := []
def rrotr_book (F : Nat) : BookL Unit := { toBook := rrotr_book0, lo := losOf (rrotr_lo F), need := needsOf [] }
theorem rrotr_loOk (F : Nat) : LoOk prog (rrotr_book F) F := loOk_of (l := rrotr_lo F) rfl fz
set_option maxRecDepth 100000 in
theorem rrotr_run (F : Nat) (x : ArgsT rrotr_ps) (kend : List BV → Option Unit) : runFnL prog (rrotr_book F) F 20 60 (argsInst rrotr_ps x) [.d (.int .u32)] kend = rrotr F x.1 x.2.1 none (fun y0 => kend [BV.d (.int .u32) y0]) := by kernel_rfl
theorem rrotr_contract : Contract prog 60 rrotr_orc := con_of (B0 := rrotr_book0) (noNumB_ok num_ok) (rangesB_ok rng_ok) mix_ok (gamB_ok gam_ok) rrotr_run (orcsOf_ok fz) (by kernel_rfl) (fun _ => rfl) rrotr_loOk (fun x h => (rrotr_plain x.1 x.2.1 h).elim fun F hF => ⟨F, fun kend => hF none _⟩)

@[reducible] def rsched_ps : List PM := [.d (.slc (.int .u8))]
def rsched_orc : Orc := Orc.of rsched_ps true 0 fun x => (rsched_P x.1, [.d (.arr 64 (.int .u32)) (rsched_r x.1)])
@[reducible] def rsched_l2_T : Tpl := { cur := ⟨[(0, .var (.slc (.int .u8))), (1, .ptr 0 []), (0, .ptr 1 []), (0, .var (.int .i64)), (0, .var (.int .i64))], 80⟩, stk := [⟨[], 0⟩], heap := [.box (.var (.arr 64 (.int .u32))), .box (.var (.arr 64 (.int .u32)))] }
@[reducible] def rsched_l1_T : Tpl := { cur := ⟨[(0, .var (.slc (.int .u8))), (1, .ptr 0 []), (0, .ptr 1 []), (0, .var (.int .i64))], 81⟩, stk := [⟨[], 0⟩], heap := [.box (.var (.arr 64 (.int .u32))), .box (.var (.arr 64 (.int .u32)))] }
@[reducible] def rsched_l3_T : Tpl := { cur := ⟨[(2, .ptr 0 []), (0, .ptr 1 []), (2, .var (.int .i64))], 79⟩, stk := [⟨[], 0⟩], heap := [.box (.var (.arr 64 (.int .u32))), .box (.var (.arr 64 (.int .u32)))] }
def rsched_orcs : List (FuncId × Orc) := [(60, rrotr_orc)]
def rsched_book0 : Book := { Γ := gam, orc := orcsOf rsched_orcs, hint := hintsOf [(58, { keep := some [0, 2, 3, 4, 5, 6], keeps := [(3, [0, 2, 3, 4]), (6, [0, 2, 3, 4, 5]), (10, [2, 3, 6])], own := [], dat := [], stk := [] })] }
def rsched_l2_G (F : Nat) (nx : rsched_l2_T.T → Option Unit) (kq : AExit → ASt → Option Unit) (x : rsched_l2_T.T) : Option Unit := rsched_l2 F none (fun block i k s2 w => nx ((block, ((), ((), (i, (k, ()))))), (((), ()), (s2, (w, ()))))) (fun y0 y1 y2 y3 y4 => kq (.exit 2) (rsched_l2_T.inst ((y0, ((), ((), (y1, (y2, ()))))), (((), ()), (y3, (y4, ())))))) x.1.1 x.1.2.2.2.1 x.1.2.2.2.2.1 x.2.2.1 x.2.2.2.1
def rsched_l2_R (F m : Nat) (x : rsched_l2_T.T) (kq : AExit → ASt → Option Unit) : Option Unit := rsched_l2F F none (fun y0 y1 y2 y3 y4 => kq (.exit 2) (rsched_l2_T.inst ((y0, ((), ((), (y1, (y2, ()))))), (((), ()), (y3, (y4, ())))))) m x.1.1 x.1.2.2.2.1 x.1.2.2.2.2.1 x.2.2.1 x.2.2.2.1
def rsched_l1_G (F : Nat) (nx : rsched_l1_T.T → Option Unit) (kq : AExit → ASt → Option Unit) (x : rsched_l1_T.T) : Option Unit := rsched_l1 F none (fun block i s2 w => nx ((block, ((), ((), (i, ())))), (((), ()), (s2, (w, ()))))) (fun y0 y1 y2 y3 => kq (.exit 0) (rsched_l1_T.inst ((y0, ((), ((), (y1, ())))), (((), ()), (y2, (y3, ())))))) x.1.1 x.1.2.2.2.1 x.2.2.1 x.2.2.2.1
def rsched_l1_R (F m : Nat) (x : rsched_l1_T.T) (kq : AExit → ASt → Option Unit) : Option Unit := rsched_l1F F none (fun y0 y1 y2 y3 => kq (.exit 0) (rsched_l1_T.inst ((y0, ((), ((), (y1, ())))), (((), ()), (y2, (y3, ())))))) m x.1.1 x.1.2.2.2.1 x.2.2.1 x.2.2.2.1
def rsched_l3_G (F : Nat) (nx : rsched_l3_T.T → Option Unit) (kq : AExit → ASt → Option Unit) (x : rsched_l3_T.T) : Option Unit := rsched_l3 F none (fun i s2 w => nx (((), ((), (i, ()))), (((), ()), (s2, (w, ()))))) (fun y0 y1 y2 => kq (.exit 4) (rsched_l3_T.inst (((), ((), (y0, ()))), (((), ()), (y1, (y2, ())))))) x.1.2.2.1 x.2.2.1 x.2.2.2.1
def rsched_l3_R (F m : Nat) (x : rsched_l3_T.T) (kq : AExit → ASt → Option Unit) : Option Unit := rsched_l3F F none (fun y0 y1 y2 => kq (.exit 4) (rsched_l3_T.inst (((), ((), (y0, ()))), (((), ()), (y1, (y2, ())))))) m x.1.2.2.1 x.2.2.1 x.2.2.2.1
def rsched_lo (F : Nat) : List (LoE Unit) := [⟨58, 6, LO.of rsched_l2_T (rsched_l2_R F F)⟩,
  ⟨58, 3, LO.of rsched_l1_T (rsched_l1_R F F)⟩,
  ⟨58, 10, LO.of rsched_l3_T (rsched_l3_R F F)⟩]
def rsched_book (F : Nat) : BookL Unit := { toBook := rsched_book0, lo := losOf (rsched_lo F), need := needsOf [] }
set_option maxRecDepth 100000 in
theorem rsched_l2_step (F : Nat) : LStep prog (rsched_book F) F 58 1 6 rsched_l2_T (rsched_l2_G F) := fun d x KQ => by kernel_rfl
set_option maxRecDepth 100000 in
theorem rsched_l1_step (F : Nat) : LStep prog (rsched_book F) F 58 0 3 rsched_l1_T (rsched_l1_G F) := fun d x KQ => by kernel_rfl
set_option maxRecDepth 100000 in
theorem rsched_l3_step (F : Nat) : LStep prog (rsched_book F) F 58 2 10 rsched_l3_T (rsched_l3_G F) := fun d x KQ => by kernel_rfl
theorem rsched_loOk (F : Nat) : LoOk prog (rsched_book F) F := loOk_of (l := rsched_lo F) rfl (fa (loOne_of 1 (by kernel_rfl) (by kernel_rfl) (lstep_run (rsched_l2_step F) (fun _ _ => rfl) (fun _ _ _ _ => rfl))) (fa (loOne_of 0 (by kernel_rfl) (by kernel_rfl) (lstep_run (rsched_l1_step F) (fun _ _ => rfl) (fun _ _ _ _ => rfl))) (fa (loOne_of 2 (by kernel_rfl) (by kernel_rfl) (lstep_run (rsched_l3_step F) (fun _ _ => rfl) (fun _ _ _ _ => rfl))) fz)))
set_option maxRecDepth 100000 in
theorem rsched_run (F : Nat) (x : ArgsT rsched_ps) (kend : List BV → Option Unit) : runFnL prog (rsched_book F) F 20 58 (argsInst rsched_ps x) [.d (.arr 64 (.int .u32))] kend = rsched F x.1 none (fun y0 => kend [BV.d (.arr 64 (.int .u32)) y0]) := by kernel_rfl
theorem rsched_contract : Contract prog 58 rsched_orc := con_of (B0 := rsched_book0) (noNumB_ok num_ok) (rangesB_ok rng_ok) mix_ok (gamB_ok gam_ok) rsched_run (orcsOf_ok (fa rrotr_contract fz)) (by kernel_rfl) (fun _ => rfl) rsched_loOk (fun x h => (rsched_plain x.1 h).elim fun F hF => ⟨F, fun kend => hF none _⟩)

@[reducible] def rAbsorb_ps : List PM := [.d (.arr 8 (.int .u32)), .d (.slc (.int .u8))]
def rAbsorb_orc : Orc := Orc.of rAbsorb_ps true 0 fun x => (rAbsorb_P x.1 x.2.1, [.d (.arr 8 (.int .u32)) (rAbsorb_r x.1 x.2.1)])
@[reducible] def rAbsorb_l1_T : Tpl := { cur := ⟨[(2, .ptr 0 []), (1, .ptr 1 []), (0, .ptr 2 []), (0, .ptr 3 []), (0, .var (.int .u32)), (0, .var (.int .u32)), (0, .var (.int .u32)), (0, .var (.int .u32)), (0, .var (.int .u32)), (0, .var (.int .u32)), (0, .var (.int .u32)), (0, .var (.int .u32)), (0, .var (.int .i64))], 117⟩, stk := [⟨[], 0⟩], heap := [.box (.var (.arr 8 (.int .u32))), .box (.var (.arr 8 (.int .u32))), .box (.var (.arr 64 (.int .u32))), .box (.var (.arr 64 (.int .u32)))] }
def rAbsorb_orcs : List (FuncId × Orc) := [(58, rsched_orc), (59, rconsts_orc), (60, rrotr_orc)]
def rAbsorb_book0 : Book := { Γ := gam, orc := orcsOf rAbsorb_orcs, hint := hintsOf [(54, { keep := some [2, 4, 5, 6, 7, 8, 9, 10, 11, 12, 13, 14, 15], keeps := [(4, [2, 4, 5, 6, 7, 8, 9, 10, 11, 12, 13, 14, 15])], own := [], dat := [], stk := [] })] }
def rAbsorb_l1_G (F : Nat) (nx : rAbsorb_l1_T.T → Option Unit) (kq : AExit → ASt → Option Unit) (x : rAbsorb_l1_T.T) : Option Unit := rAbsorb_l1 F none (fun a b c d_ e_ f g h i state s4 w k => nx (((), ((), ((), ((), (a, (b, (c, (d_, (e_, (f, (g, (h, (i, ()))))))))))))), (((), ()), (state, (s4, (w, (k, ()))))))) (fun y0 y1 y2 y3 y4 y5 y6 y7 y8 y9 y10 y11 y12 => kq (.exit 0) (rAbsorb_l1_T.inst (((), ((), ((), ((), (y0, (y1, (y2, (y3, (y4, (y5, (y6, (y7, (y8, ()))))))))))))), (((), ()), (y9, (y10, (y11, (y12, ())))))))) x.1.2.2.2.2.1 x.1.2.2.2.2.2.1 x.1.2.2.2.2.2.2.1 x.1.2.2.2.2.2.2.2.1 x.1.2.2.2.2.2.2.2.2.1 x.1.2.2.2.2.2.2.2.2.2.1 x.1.2.2.2.2.2.2.2.2.2.2.1 x.1.2.2.2.2.2.2.2.2.2.2.2.1 x.1.2.2.2.2.2.2.2.2.2.2.2.2.1 x.2.2.1 x.2.2.2.1 x.2.2.2.2.1 x.2.2.2.2.2.1
def rAbsorb_l1_R (F m : Nat) (x : rAbsorb_l1_T.T) (kq : AExit → ASt → Option Unit) : Option Unit := rAbsorb_l1F F none (fun y0 y1 y2 y3 y4 y5 y6 y7 y8 y9 y10 y11 y12 => kq (.exit 0) (rAbsorb_l1_T.inst (((), ((), ((), ((), (y0, (y1, (y2, (y3, (y4, (y5, (y6, (y7, (y8, ()))))))))))))), (((), ()), (y9, (y10, (y11, (y12, ())))))))) m x.1.2.2.2.2.1 x.1.2.2.2.2.2.1 x.1.2.2.2.2.2.2.1 x.1.2.2.2.2.2.2.2.1 x.1.2.2.2.2.2.2.2.2.1 x.1.2.2.2.2.2.2.2.2.2.1 x.1.2.2.2.2.2.2.2.2.2.2.1 x.1.2.2.2.2.2.2.2.2.2.2.2.1 x.1.2.2.2.2.2.2.2.2.2.2.2.2.1 x.2.2.1 x.2.2.2.1 x.2.2.2.2.1 x.2.2.2.2.2.1
def rAbsorb_lo (F : Nat) : List (LoE Unit) := [⟨54, 4, LO.of rAbsorb_l1_T (rAbsorb_l1_R F F)⟩]
def rAbsorb_book (F : Nat) : BookL Unit := { toBook := rAbsorb_book0, lo := losOf (rAbsorb_lo F), need := needsOf [] }
set_option maxRecDepth 100000 in
theorem rAbsorb_l1_step (F : Nat) : LStep prog (rAbsorb_book F) F 54 0 4 rAbsorb_l1_T (rAbsorb_l1_G F) := fun d x KQ => by kernel_rfl
theorem rAbsorb_loOk (F : Nat) : LoOk prog (rAbsorb_book F) F := loOk_of (l := rAbsorb_lo F) rfl (fa (loOne_of 0 (by kernel_rfl) (by kernel_rfl) (lstep_run (rAbsorb_l1_step F) (fun _ _ => rfl) (fun _ _ _ _ => rfl))) fz)
set_option maxRecDepth 100000 in
theorem rAbsorb_run (F : Nat) (x : ArgsT rAbsorb_ps) (kend : List BV → Option Unit) : runFnL prog (rAbsorb_book F) F 20 54 (argsInst rAbsorb_ps x) [.d (.arr 8 (.int .u32))] kend = rAbsorb F x.1 x.2.1 none (fun y0 => kend [BV.d (.arr 8 (.int .u32)) y0]) := by kernel_rfl
theorem rAbsorb_contract : Contract prog 54 rAbsorb_orc := con_of (B0 := rAbsorb_book0) (noNumB_ok num_ok) (rangesB_ok rng_ok) mix_ok (gamB_ok gam_ok) rAbsorb_run (orcsOf_ok (fa rsched_contract (fa rconsts_contract (fa rrotr_contract fz)))) (by kernel_rfl) (fun _ => rfl) rAbsorb_loOk (fun x h => (rAbsorb_plain x.1 x.2.1 h).elim fun F hF => ⟨F, fun kend => hF none _⟩)

@[reducible] def rNew_ps : List PM := []
def rNew_orc : Orc := Orc.of rNew_ps false 0 fun x => (rNew_P, [.d (.pair (.arr 8 (.int .u32)) (.pair (.slc (.int .u8)) (.pair (.int .i64) .unit))) (rNew_r)])
def rNew_orcs : List (FuncId × Orc) := []
def rNew_book0 : Book := { Γ := gam, orc := orcsOf rNew_orcs, hint := hintsOf [] }
def rNew_lo (F : Nat) : List (LoE Unit) := []
def rNew_book (F : Nat) : BookL Unit := { toBook := rNew_book0, lo := losOf (rNew_lo F), need := needsOf [] }
theorem rNew_loOk (F : Nat) : LoOk prog (rNew_book F) F := loOk_of (l := rNew_lo F) rfl fz
set_option maxRecDepth 100000 in
theorem rNew_run (F : Nat) (x : ArgsT rNew_ps) (kend : List BV → Option Unit) : runFnL prog (rNew_book F) F 20 49 (argsInst rNew_ps x) [.d (.pair (.arr 8 (.int .u32)) (.pair (.slc (.int .u8)) (.pair (.int .i64) .unit)))] kend = rNew F  none (fun y0 => kend [BV.d (.pair (.arr 8 (.int .u32)) (.pair (.slc (.int .u8)) (.pair (.int .i64) .unit))) y0]) := by kernel_rfl
theorem rNew_contract : Contract prog 49 rNew_orc := con_of (B0 := rNew_book0) (noNumB_ok num_ok) (rangesB_ok rng_ok) mix_ok (gamB_ok gam_ok) rNew_run (orcsOf_ok fz) (by kernel_rfl) (fun _ => rfl) rNew_loOk (fun x h => (rNew_plain  h).elim fun F hF => ⟨F, fun kend => hF none _⟩)

@[reducible] def rCheck_ps : List PM := [.d (.pair (.arr 8 (.int .u32)) (.pair (.slc (.int .u8)) (.pair (.int .i64) .unit)))]
def rCheck_orc : Orc := Orc.of rCheck_ps true 0 fun x => (true, [.d (.int .i64) (rCheck_r x.1)])
def rCheck_orcs : List (FuncId × Orc) := []
def rCheck_book0 : Book := { Γ := gam, orc := orcsOf rCheck_orcs, hint := hintsOf [] }
def rCheck_lo (F : Nat) : List (LoE Unit) := []
def rCheck_book (F : Nat) : BookL Unit := { toBook := rCheck_book0, lo := losOf (rCheck_lo F), need := needsOf [] }
theorem rCheck_loOk (F : Nat) : LoOk prog (rCheck_book F) F := loOk_of (l := rCheck_lo F) rfl fz
set_option maxRecDepth 100000 in
theorem rCheck_run (F : Nat) (x : ArgsT rCheck_ps) (kend : List BV → Option Unit) : runFnL prog (rCheck_book F) F 20 53 (argsInst rCheck_ps x) [.d (.int .i64)] kend = rCheck F x.1 none (fun y0 => kend [BV.d (.int .i64) y0]) := by kernel_rfl
theorem rCheck_contract : Contract prog 53 rCheck_orc := con_of (B0 := rCheck_book0) (noNumB_ok num_ok) (rangesB_ok rng_ok) mix_ok (gamB_ok gam_ok) rCheck_run (orcsOf_ok fz) (by kernel_rfl) (fun _ => rfl) rCheck_loOk (fun x _ => (rCheck_plain x.1).elim fun F hF => ⟨F, fun kend => hF none _⟩)

@[reducible] def rabsorb_ps : List PM := [.d (.pair (.arr 8 (.int .u32)) (.pair (.slc (.int .u8)) (.pair (.int .i64) .unit))), .d (.slc (.int .u8))]
def rabsorb_orc : Orc := Orc.of rabsorb_ps false 0 fun x => (rabsorb_P x.1 x.2.1, [.d (.pair (.arr 8 (.int .u32)) (.pair (.slc (.int .u8)) (.pair (.int .i64) .unit))) (rabsorb_r x.1 x.2.1)])
@[reducible] def rabsorb_l1_T : Tpl := { cur := ⟨[(2, .ptr 0 []), (1, .ptr 1 []), (0, .var (.slc (.int .u8)))], 26⟩, stk := [⟨[], 0⟩], heap := [.box (.var (.pair (.arr 8 (.int .u32)) (.pair (.slc (.int .u8)) (.pair (.int .i64) .unit)))), .box (.var (.pair (.arr 8 (.int .u32)) (.pair (.slc (.int .u8)) (.pair (.int .i64) .unit))))] }
def rabsorb_orcs : List (FuncId × Orc) := [(54, rAbsorb_orc)]
def rabsorb_book0 : Book := { Γ := gam, orc := orcsOf rabsorb_orcs, hint := hintsOf [(48, { keep := some [2, 4, 5], keeps := [(3, [2, 4, 5])], own := [], dat := [(5, 25)], stk := [] })] }
def rabsorb_l1_G (F : Nat) (nx : rabsorb_l1_T.T → Option Unit) (kq : AExit → ASt → Option Unit) (x : rabsorb_l1_T.T) : Option Unit := rabsorb_l1 F none (fun all h s4 => nx (((), ((), (all, ()))), (((), ()), (h, (s4, ()))))) (fun y0 y1 y2 => kq (.exit 0) (rabsorb_l1_T.inst (((), ((), (y0, ()))), (((), ()), (y1, (y2, ())))))) x.1.2.2.1 x.2.2.1 x.2.2.2.1
def rabsorb_l1_R (F m : Nat) (x : rabsorb_l1_T.T) (kq : AExit → ASt → Option Unit) : Option Unit := rabsorb_l1F F none (fun y0 y1 y2 => kq (.exit 0) (rabsorb_l1_T.inst (((), ((), (y0, ()))), (((), ()), (y1, (y2, ())))))) m x.1.2.2.1 x.2.2.1 x.2.2.2.1
def rabsorb_lo (F : Nat) : List (LoE Unit) := [⟨48, 3, LO.of rabsorb_l1_T (rabsorb_l1_R F F)⟩]
def rabsorb_book (F : Nat) : BookL Unit := { toBook := rabsorb_book0, lo := losOf (rabsorb_lo F), need := needsOf [] }
set_option maxRecDepth 100000 in
theorem rabsorb_l1_step (F : Nat) : LStep prog (rabsorb_book F) F 48 0 3 rabsorb_l1_T (rabsorb_l1_G F) := fun d x KQ => by kernel_rfl
theorem rabsorb_loOk (F : Nat) : LoOk prog (rabsorb_book F) F := loOk_of (l := rabsorb_lo F) rfl (fa (loOne_of 0 (by kernel_rfl) (by kernel_rfl) (lstep_run (rabsorb_l1_step F) (fun _ _ => rfl) (fun _ _ _ _ => rfl))) fz)
set_option maxRecDepth 100000 in
theorem rabsorb_run (F : Nat) (x : ArgsT rabsorb_ps) (kend : List BV → Option Unit) : runFnL prog (rabsorb_book F) F 20 48 (argsInst rabsorb_ps x) [.d (.pair (.arr 8 (.int .u32)) (.pair (.slc (.int .u8)) (.pair (.int .i64) .unit)))] kend = rabsorb F x.1 x.2.1 none (fun y0 => kend [BV.d (.pair (.arr 8 (.int .u32)) (.pair (.slc (.int .u8)) (.pair (.int .i64) .unit))) y0]) := by kernel_rfl
theorem rabsorb_contract : Contract prog 48 rabsorb_orc := con_of (B0 := rabsorb_book0) (noNumB_ok num_ok) (rangesB_ok rng_ok) mix_ok (gamB_ok gam_ok) rabsorb_run (orcsOf_ok (fa rAbsorb_contract fz)) (by kernel_rfl) (fun _ => rfl) rabsorb_loOk (fun x h => (rabsorb_plain x.1 x.2.1 h).elim fun F hF => ⟨F, fun kend => hF none _⟩)

@[reducible] def rFinish_ps : List PM := [.d (.pair (.arr 8 (.int .u32)) (.pair (.slc (.int .u8)) (.pair (.int .i64) .unit)))]
def rFinish_orc : Orc := Orc.of rFinish_ps true 0 fun x => (rFinish_P x.1, [.d (.arr 32 (.int .u8)) (rFinish_r0 x.1), .d (.int .i64) (rFinish_r1 x.1)])
@[reducible] def rFinish_l1_T : Tpl := { cur := ⟨[(1, .ptr 0 []), (0, .ptr 1 []), (1, .var (.int .u64)), (0, .row 2)], 56⟩, stk := [⟨[], 0⟩], heap := [.box (.var (.pair (.arr 8 (.int .u32)) (.pair (.slc (.int .u8)) (.pair (.int .i64) .unit)))), .box (.var (.arr 32 (.int .u8))), .row 5 (.int .u8) false] }
@[reducible] def rFinish_l2_T : Tpl := { cur := ⟨[(1, .ptr 0 []), (0, .ptr 1 []), (1, .var (.int .u64)), (0, .row 2), (0, .var (.int .i64))], 55⟩, stk := [⟨[], 0⟩], heap := [.box (.var (.pair (.arr 8 (.int .u32)) (.pair (.slc (.int .u8)) (.pair (.int .i64) .unit)))), .box (.var (.arr 32 (.int .u8))), .row 5 (.int .u8) false] }
@[reducible] def rFinish_l3_T : Tpl := { cur := ⟨[(1, .ptr 0 []), (0, .ptr 1 []), (4, .ptr 2 []), (0, .var (.int .i64))], 53⟩, stk := [⟨[], 0⟩], heap := [.box (.var (.pair (.arr 8 (.int .u32)) (.pair (.slc (.int .u8)) (.pair (.int .i64) .unit)))), .box (.var (.arr 32 (.int .u8))), .box (.var (.arr 32 (.int .u8)))] }
def rFinish_orcs : List (FuncId × Orc) := [(48, rabsorb_orc), (53, rCheck_orc)]
def rFinish_book0 : Book := { Γ := gam, orc := orcsOf rFinish_orcs, hint := hintsOf [(47, { keep := some [1, 2, 4, 5, 6, 7, 8], keeps := [(5, [1, 2, 4, 5]), (8, [1, 2, 4, 5, 6]), (14, [1, 2, 7, 8])], own := [], dat := [], stk := [] })] }
def rFinish_l1_G (F : Nat) (nx : rFinish_l1_T.T → Option Unit) (kq : AExit → ASt → Option Unit) (x : rFinish_l1_T.T) : Option Unit := rFinish_l1 F none (fun bits h s2 pad => nx (((), ((), (bits, ((), ())))), (((), ()), (h, (s2, (pad, ())))))) (fun y0 y1 y2 y3 => kq (.exit 0) (rFinish_l1_T.inst (((), ((), (y0, ((), ())))), (((), ()), (y1, (y2, (y3, ()))))))) x.1.2.2.1 x.2.2.1 x.2.2.2.1 x.2.2.2.2.1
def rFinish_l1_R (F m : Nat) (x : rFinish_l1_T.T) (kq : AExit → ASt → Option Unit) : Option Unit := rFinish_l1F F none (fun y0 y1 y2 y3 => kq (.exit 0) (rFinish_l1_T.inst (((), ((), (y0, ((), ())))), (((), ()), (y1, (y2, (y3, ()))))))) m x.1.2.2.1 x.2.2.1 x.2.2.2.1 x.2.2.2.2.1
def rFinish_l2_G (F : Nat) (nx : rFinish_l2_T.T → Option Unit) (kq : AExit → ASt → Option Unit) (x : rFinish_l2_T.T) : Option Unit := rFinish_l2 F none (fun bits i h s2 pad => nx (((), ((), (bits, ((), (i, ()))))), (((), ()), (h, (s2, (pad, ())))))) (fun y0 y1 y2 y3 y4 => kq (.exit 2) (rFinish_l2_T.inst (((), ((), (y0, ((), (y1, ()))))), (((), ()), (y2, (y3, (y4, ()))))))) x.1.2.2.1 x.1.2.2.2.2.1 x.2.2.1 x.2.2.2.1 x.2.2.2.2.1
def rFinish_l2_R (F m : Nat) (x : rFinish_l2_T.T) (kq : AExit → ASt → Option Unit) : Option Unit := rFinish_l2F F none (fun y0 y1 y2 y3 y4 => kq (.exit 2) (rFinish_l2_T.inst (((), ((), (y0, ((), (y1, ()))))), (((), ()), (y2, (y3, (y4, ()))))))) m x.1.2.2.1 x.1.2.2.2.2.1 x.2.2.1 x.2.2.2.1 x.2.2.2.2.1
def rFinish_l3_G (F : Nat) (nx : rFinish_l3_T.T → Option Unit) (kq : AExit → ASt → Option Unit) (x : rFinish_l3_T.T) : Option Unit := rFinish_l3 F none (fun i h s2 out => nx (((), ((), ((), (i, ())))), (((), ()), (h, (s2, (out, ())))))) (fun y0 y1 y2 y3 => kq (.exit 4) (rFinish_l3_T.inst (((), ((), ((), (y0, ())))), (((), ()), (y1, (y2, (y3, ()))))))) x.1.2.2.2.1 x.2.2.1 x.2.2.2.1 x.2.2.2.2.1
def rFinish_l3_R (F m : Nat) (x : rFinish_l3_T.T) (kq : AExit → ASt → Option Unit) : Option Unit := rFinish_l3F F none (fun y0 y1 y2 y3 => kq (.exit 4) (rFinish_l3_T.inst (((), ((), ((), (y0, ())))), (((), ()), (y1, (y2, (y3, ()))))))) m x.1.2.2.2.1 x.2.2.1 x.2.2.2.1 x.2.2.2.2.1
def rFinish_lo (F : Nat) : List (LoE Unit) := [⟨47, 5, LO.of rFinish_l1_T (rFinish_l1_R F F)⟩,
  ⟨47, 8, LO.of rFinish_l2_T (rFinish_l2_R F F)⟩,
  ⟨47, 14, LO.of rFinish_l3_T (rFinish_l3_R F F)⟩]
def rFinish_book (F : Nat) : BookL Unit := { toBook := rFinish_book0, lo := losOf (rFinish_lo F), need := needsOf [] }
set_option maxRecDepth 100000 in
theorem rFinish_l1_step (F : Nat) : LStep prog (rFinish_book F) F 47 0 5 rFinish_l1_T (rFinish_l1_G F) := fun d x KQ => by kernel_rfl
set_option maxRecDepth 100000 in
theorem rFinish_l2_step (F : Nat) : LStep prog (rFinish_book F) F 47 1 8 rFinish_l2_T (rFinish_l2_G F) := fun d x KQ => by kernel_rfl
set_option maxRecDepth 100000 in
theorem rFinish_l3_step (F : Nat) : LStep prog (rFinish_book F) F 47 2 14 rFinish_l3_T (rFinish_l3_G F) := fun d x KQ => by kernel_rfl
theorem rFinish_loOk (F : Nat) : LoOk prog (rFinish_book F) F := loOk_of (l := rFinish_lo F) rfl (fa (loOne_of 0 (by kernel_rfl) (by kernel_rfl) (lstep_run (rFinish_l1_step F) (fun _ _ => rfl) (fun _ _ _ _ => rfl))) (fa (loOne_of 1 (by kernel_rfl) (by kernel_rfl) (lstep_run (rFinish_l2_step F) (fun _ _ => rfl) (fun _ _ _ _ => rfl))) (fa (loOne_of 2 (by kernel_rfl) (by kernel_rfl) (lstep_run (rFinish_l3_step F) (fun _ _ => rfl) (fun _ _ _ _ => rfl))) fz)))
set_option maxRecDepth 100000 in
theorem rFinish_run (F : Nat) (x : ArgsT rFinish_ps) (kend : List BV → Option Unit) : runFnL prog (rFinish_book F) F 20 47 (argsInst rFinish_ps x) [.d (.arr 32 (.int .u8)), .d (.int .i64)] kend = rFinish F x.1 none (fun y0 y1 => kend [BV.d (.arr 32 (.int .u8)) y0, BV.d (.int .i64) y1]) := by kernel_rfl
theorem rFinish_contract : Contract prog 47 rFinish_orc := con_of (B0 := rFinish_book0) (noNumB_ok num_ok) (rangesB_ok rng_ok) mix_ok (gamB_ok gam_ok) rFinish_run (orcsOf_ok (fa rabsorb_contract (fa rCheck_contract fz))) (by kernel_rfl) (fun _ => rfl) rFinish_loOk (fun x h => (rFinish_plain x.1 h).elim fun F hF => ⟨F, fun kend => hF none _⟩)

@[reducible] def rSum_ps : List PM := [.d (.slc (.int .u8))]
def rSum_orc : Orc := Orc.of rSum_ps true 0 fun x => (rSum_P x.1, [.d (.arr 32 (.int .u8)) (rSum_r x.1)])
def rSum_orcs : List (FuncId × Orc) := [(47, rFinish_orc), (48, rabsorb_orc), (49, rNew_orc)]
def rSum_book0 : Book := { Γ := gam, orc := orcsOf rSum_orcs, hint := hintsOf [] }
def rSum_lo (F : Nat) : List (LoE Unit) := []
def rSum_book (F : Nat) : BookL Unit := { toBook := rSum_book0, lo := losOf (rSum_lo F), need := needsOf [] }
theorem rSum_loOk (F : Nat) : LoOk prog (rSum_book F) F := loOk_of (l := rSum_lo F) rfl fz
set_option maxRecDepth 100000 in
theorem rSum_run (F : Nat) (x : ArgsT rSum_ps) (kend : List BV → Option Unit) : runFnL prog (rSum_book F) F 20 35 (argsInst rSum_ps x) [.d (.arr 32 (.int .u8))] kend = rSum F x.1 none (fun y0 => kend [BV.d (.arr 32 (.int .u8)) y0]) := by kernel_rfl
theorem rSum_contract : Contract prog 35 rSum_orc := con_of (B0 := rSum_book0) (noNumB_ok num_ok) (rangesB_ok rng_ok) mix_ok (gamB_ok gam_ok) rSum_run (orcsOf_ok (fa rFinish_contract (fa rabsorb_contract (fa rNew_contract fz)))) (by kernel_rfl) (fun _ => rfl) rSum_loOk (fun x h => (rSum_plain x.1 h).elim fun F hF => ⟨F, fun kend => hF none _⟩)

end Go.AI
