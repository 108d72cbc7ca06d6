/- The machine runs as the plain functions say. -/
import Derived.Test.YtadpmbipdafjiaaWireP
import Derived.Test.YtadpmbipdafjiaaTypes
import Derived.Test.YtadpmbipdafjiaaA5
import Derived.KernelRfl
namespace Go.AI
open Go
set_option linter.unusedVariables false

def bits_Len64_orc : Orc := Orc.of [.d (.int .u64)] true 0 fun x => (bits_Len64_P x.1, [.d (.int .i64) (bits_Len64_r x.1)])
def bits_Len64_orcs : List (FuncId × Orc) := []
def bits_Len64_book0 : Book := { Γ := gam, orc := orcsOf bits_Len64_orcs, hint := hintsOf [] }
def bits_Len64_lo (F : Nat) : List (LoE Unit) := []
def bits_Len64_book (F : Nat) : BookL Unit := { toBook := bits_Len64_book0, lo := losOf (bits_Len64_lo F), need := needsOf [] }
theorem bits_Len64_loOk (F : Nat) : LoOk Go.Proofs.Try.prog (bits_Len64_book F) F := loOk_of (l := bits_Len64_lo F) rfl (fun _ h => nomatch h)
set_option maxRecDepth 100000 in
theorem bits_Len64_run (F : Nat) (x_ : Int) (kend : List BV → Option Unit) : runFnL Go.Proofs.Try.prog (bits_Len64_book F) F 20 61 [.d (.int .u64) x_] [.d (.int .i64)] kend = bits_Len64 F x_ none (fun y0 => kend [BV.d (.int .i64) y0]) := by kernel_rfl
theorem bits_Len64_contract : Contract Go.Proofs.Try.prog 61 bits_Len64_orc := contract_of_runL (B0 := bits_Len64_book0) (noNumB_ok num_ok) mix_ok (gamB_ok gam_ok) (orcsOf_ok (fun _ h => nomatch h)) (by kernel_rfl) (fun x h => by
  obtain ⟨F, hF⟩ := bits_Len64_plain x.1 h
  exact ⟨F, 20, bits_Len64_book F, rfl, bits_Len64_loOk F, fun kend => (bits_Len64_run F x.1 kend).trans (hF none (fun y0 => kend [BV.d (.int .i64) y0]))⟩)

def bits_Len8_orc : Orc := Orc.of [.d (.int .u8)] true 0 fun x => (true, [.d (.int .i64) (bits_Len8_r x.1)])
def bits_Len8_orcs : List (FuncId × Orc) := []
def bits_Len8_book0 : Book := { Γ := gam, orc := orcsOf bits_Len8_orcs, hint := hintsOf [] }
def bits_Len8_lo (F : Nat) : List (LoE Unit) := []
def bits_Len8_book (F : Nat) : BookL Unit := { toBook := bits_Len8_book0, lo := losOf (bits_Len8_lo F), need := needsOf [] }
theorem bits_Len8_loOk (F : Nat) : LoOk Go.Proofs.Try.prog (bits_Len8_book F) F := loOk_of (l := bits_Len8_lo F) rfl (fun _ h => nomatch h)
set_option maxRecDepth 100000 in
theorem bits_Len8_run (F : Nat) (x_ : UInt8) (kend : List BV → Option Unit) : runFnL Go.Proofs.Try.prog (bits_Len8_book F) F 20 58 [.d (.int .u8) x_] [.d (.int .i64)] kend = bits_Len8 F x_ none (fun y0 => kend [BV.d (.int .i64) y0]) := by kernel_rfl
theorem bits_Len8_contract : Contract Go.Proofs.Try.prog 58 bits_Len8_orc := contract_of_runL (B0 := bits_Len8_book0) (noNumB_ok num_ok) mix_ok (gamB_ok gam_ok) (orcsOf_ok (fun _ h => nomatch h)) (by kernel_rfl) (fun x h => by
  obtain ⟨F, hF⟩ := bits_Len8_plain x.1
  exact ⟨F, 20, bits_Len8_book F, rfl, bits_Len8_loOk F, fun kend => (bits_Len8_run F x.1 kend).trans (hF none (fun y0 => kend [BV.d (.int .i64) y0]))⟩)

def bits_Len_orc : Orc := Orc.of [.d (.int .u64)] true 0 fun x => (bits_Len_P x.1, [.d (.int .i64) (bits_Len_r x.1)])
def bits_Len_orcs : List (FuncId × Orc) := [(61, bits_Len64_orc)]
def bits_Len_book0 : Book := { Γ := gam, orc := orcsOf bits_Len_orcs, hint := hintsOf [] }
def bits_Len_lo (F : Nat) : List (LoE Unit) := []
def bits_Len_book (F : Nat) : BookL Unit := { toBook := bits_Len_book0, lo := losOf (bits_Len_lo F), need := needsOf [] }
theorem bits_Len_loOk (F : Nat) : LoOk Go.Proofs.Try.prog (bits_Len_book F) F := loOk_of (l := bits_Len_lo F) rfl (fun _ h => nomatch h)
set_option maxRecDepth 100000 in
theorem bits_Len_run (F : Nat) (x_ : Int) (kend : List BV → Option Unit) : runFnL Go.Proofs.Try.prog (bits_Len_book F) F 20 57 [.d (.int .u64) x_] [.d (.int .i64)] kend = bits_Len F x_ none (fun y0 => kend [BV.d (.int .i64) y0]) := by kernel_rfl
theorem bits_Len_contract : Contract Go.Proofs.Try.prog 57 bits_Len_orc := contract_of_runL (B0 := bits_Len_book0) (noNumB_ok num_ok) mix_ok (gamB_ok gam_ok) (orcsOf_ok (List.forall_mem_cons.2 ⟨bits_Len64_contract, (fun _ h => nomatch h)⟩)) (by kernel_rfl) (fun x h => by
  obtain ⟨F, hF⟩ := bits_Len_plain x.1 h
  exact ⟨F, 20, bits_Len_book F, rfl, bits_Len_loOk F, fun kend => (bits_Len_run F x.1 kend).trans (hF none (fun y0 => kend [BV.d (.int .i64) y0]))⟩)

def bits_LeadingZeros8_orc : Orc := Orc.of [.d (.int .u8)] true 0 fun x => (true, [.d (.int .i64) (bits_LeadingZeros8_r x.1)])
def bits_LeadingZeros8_orcs : List (FuncId × Orc) := [(58, bits_Len8_orc)]
def bits_LeadingZeros8_book0 : Book := { Γ := gam, orc := orcsOf bits_LeadingZeros8_orcs, hint := hintsOf [] }
def bits_LeadingZeros8_lo (F : Nat) : List (LoE Unit) := []
def bits_LeadingZeros8_book (F : Nat) : BookL Unit := { toBook := bits_LeadingZeros8_book0, lo := losOf (bits_LeadingZeros8_lo F), need := needsOf [] }
theorem bits_LeadingZeros8_loOk (F : Nat) : LoOk Go.Proofs.Try.prog (bits_LeadingZeros8_book F) F := loOk_of (l := bits_LeadingZeros8_lo F) rfl (fun _ h => nomatch h)
set_option maxRecDepth 100000 in
theorem bits_LeadingZeros8_run (F : Nat) (x_ : UInt8) (kend : List BV → Option Unit) : runFnL Go.Proofs.Try.prog (bits_LeadingZeros8_book F) F 20 43 [.d (.int .u8) x_] [.d (.int .i64)] kend = bits_LeadingZeros8 F x_ none (fun y0 => kend [BV.d (.int .i64) y0]) := by kernel_rfl
theorem bits_LeadingZeros8_contract : Contract Go.Proofs.Try.prog 43 bits_LeadingZeros8_orc := contract_of_runL (B0 := bits_LeadingZeros8_book0) (noNumB_ok num_ok) mix_ok (gamB_ok gam_ok) (orcsOf_ok (List.forall_mem_cons.2 ⟨bits_Len8_contract, (fun _ h => nomatch h)⟩)) (by kernel_rfl) (fun x h => by
  obtain ⟨F, hF⟩ := bits_LeadingZeros8_plain x.1
  exact ⟨F, 20, bits_LeadingZeros8_book F, rfl, bits_LeadingZeros8_loOk F, fun kend => (bits_LeadingZeros8_run F x.1 kend).trans (hF none (fun y0 => kend [BV.d (.int .i64) y0]))⟩)

def wire_number_orc : Orc := Orc.of [.d (.int .i64)] true 0 fun x => (true, [.d (.int .i64) (wire_number_r x.1)])
def wire_number_orcs : List (FuncId × Orc) := []
def wire_number_book0 : Book := { Γ := gam, orc := orcsOf wire_number_orcs, hint := hintsOf [] }
def wire_number_lo (F : Nat) : List (LoE Unit) := []
def wire_number_book (F : Nat) : BookL Unit := { toBook := wire_number_book0, lo := losOf (wire_number_lo F), need := needsOf [] }
theorem wire_number_loOk (F : Nat) : LoOk Go.Proofs.Try.prog (wire_number_book F) F := loOk_of (l := wire_number_lo F) rfl (fun _ h => nomatch h)
set_option maxRecDepth 100000 in
theorem wire_number_run (F : Nat) (n : Int) (kend : List BV → Option Unit) : runFnL Go.Proofs.Try.prog (wire_number_book F) F 20 40 [.d (.int .i64) n] [.d (.int .i64)] kend = wire_number F n none (fun y0 => kend [BV.d (.int .i64) y0]) := by kernel_rfl
theorem wire_number_contract : Contract Go.Proofs.Try.prog 40 wire_number_orc := contract_of_runL (B0 := wire_number_book0) (noNumB_ok num_ok) mix_ok (gamB_ok gam_ok) (orcsOf_ok (fun _ h => nomatch h)) (by kernel_rfl) (fun x h => by
  obtain ⟨F, hF⟩ := wire_number_plain x.1
  exact ⟨F, 20, wire_number_book F, rfl, wire_number_loOk F, fun kend => (wire_number_run F x.1 kend).trans (hF none (fun y0 => kend [BV.d (.int .i64) y0]))⟩)

def wire_further_orc : Orc := Orc.of [.d (.int .i64)] true 0 fun x => (wire_further_P x.1, [.d (.int .i64) (wire_further_r x.1)])
def wire_further_orcs : List (FuncId × Orc) := [(57, bits_Len_orc)]
def wire_further_book0 : Book := { Γ := gam, orc := orcsOf wire_further_orcs, hint := hintsOf [] }
def wire_further_lo (F : Nat) : List (LoE Unit) := []
def wire_further_book (F : Nat) : BookL Unit := { toBook := wire_further_book0, lo := losOf (wire_further_lo F), need := needsOf [] }
theorem wire_further_loOk (F : Nat) : LoOk Go.Proofs.Try.prog (wire_further_book F) F := loOk_of (l := wire_further_lo F) rfl (fun _ h => nomatch h)
set_option maxRecDepth 100000 in
theorem wire_further_run (F : Nat) (n : Int) (kend : List BV → Option Unit) : runFnL Go.Proofs.Try.prog (wire_further_book F) F 20 39 [.d (.int .i64) n] [.d (.int .i64)] kend = wire_further F n none (fun y0 => kend [BV.d (.int .i64) y0]) := by kernel_rfl
theorem wire_further_contract : Contract Go.Proofs.Try.prog 39 wire_further_orc := contract_of_runL (B0 := wire_further_book0) (noNumB_ok num_ok) mix_ok (gamB_ok gam_ok) (orcsOf_ok (List.forall_mem_cons.2 ⟨bits_Len_contract, (fun _ h => nomatch h)⟩)) (by kernel_rfl) (fun x h => by
  obtain ⟨F, hF⟩ := wire_further_plain x.1 h
  exact ⟨F, 20, wire_further_book F, rfl, wire_further_loOk F, fun kend => (wire_further_run F x.1 kend).trans (hF none (fun y0 => kend [BV.d (.int .i64) y0]))⟩)

def wire_Size_orc : Orc := Orc.of [.d (.int .i64)] true 0 fun x => (true, [.d (.int .i64) (wire_Size_r x.1)])
def wire_Size_orcs : List (FuncId × Orc) := [(39, wire_further_orc), (40, wire_number_orc)]
def wire_Size_book0 : Book := { Γ := gam, orc := orcsOf wire_Size_orcs, hint := hintsOf [] }
def wire_Size_lo (F : Nat) : List (LoE Unit) := []
def wire_Size_book (F : Nat) : BookL Unit := { toBook := wire_Size_book0, lo := losOf (wire_Size_lo F), need := needsOf [] }
theorem wire_Size_loOk (F : Nat) : LoOk Go.Proofs.Try.prog (wire_Size_book F) F := loOk_of (l := wire_Size_lo F) rfl (fun _ h => nomatch h)
set_option maxRecDepth 100000 in
theorem wire_Size_run (F : Nat) (n : Int) (kend : List BV → Option Unit) : runFnL Go.Proofs.Try.prog (wire_Size_book F) F 20 15 [.d (.int .i64) n] [.d (.int .i64)] kend = wire_Size F n none (fun y0 => kend [BV.d (.int .i64) y0]) := by kernel_rfl
theorem wire_Size_contract : Contract Go.Proofs.Try.prog 15 wire_Size_orc := contract_of_runL (B0 := wire_Size_book0) (noNumB_ok num_ok) mix_ok (gamB_ok gam_ok) (orcsOf_ok (List.forall_mem_cons.2 ⟨wire_further_contract, (List.forall_mem_cons.2 ⟨wire_number_contract, (fun _ h => nomatch h)⟩)⟩)) (by kernel_rfl) (fun x h => by
  obtain ⟨F, hF⟩ := wire_Size_plain x.1
  exact ⟨F, 20, wire_Size_book F, rfl, wire_Size_loOk F, fun kend => (wire_Size_run F x.1 kend).trans (hF none (fun y0 => kend [BV.d (.int .i64) y0]))⟩)

def clone_byte_orc : Orc := Orc.of [.d (.slc (.int .u8))] true 1 fun x => (clone_byte_P x.1, [.o 5 (.int .u8) (clone_byte_r x.1)])
def clone_byte_orcs : List (FuncId × Orc) := []
def clone_byte_book0 : Book := { Γ := gam, orc := orcsOf clone_byte_orcs, hint := hintsOf [] }
def clone_byte_lo (F : Nat) : List (LoE Unit) := []
def clone_byte_book (F : Nat) : BookL Unit := { toBook := clone_byte_book0, lo := losOf (clone_byte_lo F), need := needsOf [] }
theorem clone_byte_loOk (F : Nat) : LoOk Go.Proofs.Try.prog (clone_byte_book F) F := loOk_of (l := clone_byte_lo F) rfl (fun _ h => nomatch h)
set_option maxRecDepth 100000 in
theorem clone_byte_run (F : Nat) (s : List UInt8) (kend : List BV → Option Unit) : runFnL Go.Proofs.Try.prog (clone_byte_book F) F 20 37 [.d (.slc (.int .u8)) s] [.o 5 (.int .u8)] kend = clone_byte F s none both (fun y0 => kend [BV.o 5 (.int .u8) y0]) := by kernel_rfl
theorem clone_byte_contract : Contract Go.Proofs.Try.prog 37 clone_byte_orc := contract_of_runL (B0 := clone_byte_book0) (noNumB_ok num_ok) mix_ok (gamB_ok gam_ok) (orcsOf_ok (fun _ h => nomatch h)) (by kernel_rfl) (fun x h => by
  obtain ⟨F, hF⟩ := clone_byte_plain x.1 h
  exact ⟨F, 20, clone_byte_book F, rfl, clone_byte_loOk F, fun kend => (clone_byte_run F x.1 kend).trans (hF none both both_self (fun y0 => kend [BV.o 5 (.int .u8) y0]))⟩)

def clone_int_orc : Orc := Orc.of [.d (.slc (.int .i64))] true 1 fun x => (clone_int_P x.1, [.o 3 (.int .i64) (clone_int_r x.1)])
def clone_int_orcs : List (FuncId × Orc) := []
def clone_int_book0 : Book := { Γ := gam, orc := orcsOf clone_int_orcs, hint := hintsOf [] }
def clone_int_lo (F : Nat) : List (LoE Unit) := []
def clone_int_book (F : Nat) : BookL Unit := { toBook := clone_int_book0, lo := losOf (clone_int_lo F), need := needsOf [] }
theorem clone_int_loOk (F : Nat) : LoOk Go.Proofs.Try.prog (clone_int_book F) F := loOk_of (l := clone_int_lo F) rfl (fun _ h => nomatch h)
set_option maxRecDepth 100000 in
theorem clone_int_run (F : Nat) (s : List Int) (kend : List BV → Option Unit) : runFnL Go.Proofs.Try.prog (clone_int_book F) F 20 52 [.d (.slc (.int .i64)) s] [.o 3 (.int .i64)] kend = clone_int F s none both (fun y0 => kend [BV.o 3 (.int .i64) y0]) := by kernel_rfl
theorem clone_int_contract : Contract Go.Proofs.Try.prog 52 clone_int_orc := contract_of_runL (B0 := clone_int_book0) (noNumB_ok num_ok) mix_ok (gamB_ok gam_ok) (orcsOf_ok (fun _ h => nomatch h)) (by kernel_rfl) (fun x h => by
  obtain ⟨F, hF⟩ := clone_int_plain x.1 h
  exact ⟨F, 20, clone_int_book F, rfl, clone_int_loOk F, fun kend => (clone_int_run F x.1 kend).trans (hF none both both_self (fun y0 => kend [BV.o 3 (.int .i64) y0]))⟩)

def wire_put_orc : Orc := Orc.of [.o 5 (.int .u8), .d (.int .i64)] true 1 fun x => (wire_put_P x.1 x.2.1, [.o 5 (.int .u8) (wire_put_r x.1 x.2.1)])
@[reducible] def wire_put_l1_T : Tpl := { cur := ⟨[(0, .row 0), (0, .var (.int .i64)), (5, .var (.int .i64))], 32⟩, stk := [⟨[], 0⟩], heap := [.row 5 (.int .u8) false] }
@[reducible] def wire_put_l1_T0 : Tpl := { cur := ⟨[(0, .row 0), (0, .var (.int .i64)), (5, .var (.int .i64))], 32⟩, stk := [⟨[], 0⟩], heap := [.row 5 (.int .u8) false] }
def wire_put_orcs : List (FuncId × Orc) := [(39, wire_further_orc), (40, wire_number_orc)]
def wire_put_book0 : Book := { Γ := gam, orc := orcsOf wire_put_orcs, hint := hintsOf [(36, { keep := some [0, 1, 7], own := [], dat := [], stk := [] })] }
def wire_put_lo (F : Nat) : List (LoE Unit) := [⟨36, 6, LO.of wire_put_l1_T fun x kq => wire_put_l1F F none (fun y0 y1 y2 => kq (.exit 0) (wire_put_l1_T0.inst (((), (y0, (y1, ()))), (((), ()), (y2, ()))))) F x.1.2.1 x.1.2.2.1 x.2.2.1⟩]
def wire_put_book (F : Nat) : BookL Unit := { toBook := wire_put_book0, lo := losOf (wire_put_lo F), need := needsOf [] }
set_option maxRecDepth 100000 in
theorem wire_put_l1_step (F d : Nat) (n : Int) (i : Int) (dst : List UInt8) (KQ : AExit → ASt → Option Unit) : (stepL Go.Proofs.Try.prog (wire_put_book F) F d 36 ((loopsOf (codeOf Go.Proofs.Try.prog 36)).getD 0 .skip)) (wire_put_l1_T.inst (((), (n, (i, ()))), (((), ()), (dst, ())))) (fun e s => KQ e ((headOf Go.Proofs.Try.prog wire_put_book0 36) s)) = wire_put_l1 F none (fun n i dst => KQ .normal (wire_put_l1_T.inst (((), (n, (i, ()))), (((), ()), (dst, ()))))) (fun y0 y1 y2 => KQ (.exit 0) (wire_put_l1_T0.inst (((), (y0, (y1, ()))), (((), ()), (y2, ()))))) n i dst := by kernel_rfl
theorem wire_put_l1_run (F d : Nat) : ∀ (m : Nat) (n : Int) (i : Int) (dst : List UInt8) (kq : AExit → ASt → Option Unit), loopN (stepL Go.Proofs.Try.prog (wire_put_book F) F d 36 ((loopsOf (codeOf Go.Proofs.Try.prog 36)).getD 0 .skip)) (headOf Go.Proofs.Try.prog wire_put_book0 36) m (wire_put_l1_T.inst (((), (n, (i, ()))), (((), ()), (dst, ())))) kq = wire_put_l1F F none (fun y0 y1 y2 => kq (.exit 0) (wire_put_l1_T0.inst (((), (y0, (y1, ()))), (((), ()), (y2, ()))))) m n i dst
  | 0, _, _, _, _ => rfl
  | m + 1, n, i, dst, kq => (wire_put_l1_step F d n i dst (fun e s => match e with | .normal => loopN (stepL Go.Proofs.Try.prog (wire_put_book F) F d 36 ((loopsOf (codeOf Go.Proofs.Try.prog 36)).getD 0 .skip)) (headOf Go.Proofs.Try.prog wire_put_book0 36) m s kq | e => kq e s)).trans (congrArg (fun nx => wire_put_l1 F none nx (fun y0 y1 y2 => kq (.exit 0) (wire_put_l1_T0.inst (((), (y0, (y1, ()))), (((), ()), (y2, ()))))) n i dst) (funext fun n => funext fun i => funext fun dst => wire_put_l1_run F d m n i dst kq))
theorem wire_put_loOk (F : Nat) : LoOk Go.Proofs.Try.prog (wire_put_book F) F := loOk_of (l := wire_put_lo F) rfl (List.forall_mem_cons.2 ⟨loOne_of 0 (by kernel_rfl) (by kernel_rfl) (loIs_of fun d x kq => wire_put_l1_run F d F x.1.2.1 x.1.2.2.1 x.2.2.1 kq), (fun _ h => nomatch h)⟩)
set_option maxRecDepth 100000 in
theorem wire_put_run (F : Nat) (dst : List UInt8) (n : Int) (kend : List BV → Option Unit) : runFnL Go.Proofs.Try.prog (wire_put_book F) F 20 36 [.o 5 (.int .u8) dst, .d (.int .i64) n] [.o 5 (.int .u8)] kend = wire_put F dst n none (fun y0 => kend [BV.o 5 (.int .u8) y0]) := by kernel_rfl
theorem wire_put_contract : Contract Go.Proofs.Try.prog 36 wire_put_orc := contract_of_runL (B0 := wire_put_book0) (noNumB_ok num_ok) mix_ok (gamB_ok gam_ok) (orcsOf_ok (List.forall_mem_cons.2 ⟨wire_further_contract, (List.forall_mem_cons.2 ⟨wire_number_contract, (fun _ h => nomatch h)⟩)⟩)) (by kernel_rfl) (fun x h => by
  obtain ⟨F, hF⟩ := wire_put_plain x.1 x.2.1 h
  exact ⟨F, 20, wire_put_book F, rfl, wire_put_loOk F, fun kend => (wire_put_run F x.1 x.2.1 kend).trans (hF none (fun y0 => kend [BV.o 5 (.int .u8) y0]))⟩)

def wire_PutInt_orc : Orc := Orc.of [.d (.slc (.int .u8)), .d (.int .i64)] true 1 fun x => (wire_PutInt_P x.1 x.2.1, [.o 5 (.int .u8) (wire_PutInt_r x.1 x.2.1)])
def wire_PutInt_orcs : List (FuncId × Orc) := [(36, wire_put_orc), (37, clone_byte_orc)]
def wire_PutInt_book0 : Book := { Γ := gam, orc := orcsOf wire_PutInt_orcs, hint := hintsOf [] }
def wire_PutInt_lo (F : Nat) : List (LoE Unit) := []
def wire_PutInt_book (F : Nat) : BookL Unit := { toBook := wire_PutInt_book0, lo := losOf (wire_PutInt_lo F), need := needsOf [] }
theorem wire_PutInt_loOk (F : Nat) : LoOk Go.Proofs.Try.prog (wire_PutInt_book F) F := loOk_of (l := wire_PutInt_lo F) rfl (fun _ h => nomatch h)
set_option maxRecDepth 100000 in
theorem wire_PutInt_run (F : Nat) (dst : List UInt8) (n : Int) (kend : List BV → Option Unit) : runFnL Go.Proofs.Try.prog (wire_PutInt_book F) F 20 13 [.d (.slc (.int .u8)) dst, .d (.int .i64) n] [.o 5 (.int .u8)] kend = wire_PutInt F dst n none (fun y0 => kend [BV.o 5 (.int .u8) y0]) := by kernel_rfl
theorem wire_PutInt_contract : Contract Go.Proofs.Try.prog 13 wire_PutInt_orc := contract_of_runL (B0 := wire_PutInt_book0) (noNumB_ok num_ok) mix_ok (gamB_ok gam_ok) (orcsOf_ok (List.forall_mem_cons.2 ⟨wire_put_contract, (List.forall_mem_cons.2 ⟨clone_byte_contract, (fun _ h => nomatch h)⟩)⟩)) (by kernel_rfl) (fun x h => by
  obtain ⟨F, hF⟩ := wire_PutInt_plain x.1 x.2.1 h
  exact ⟨F, 20, wire_PutInt_book F, rfl, wire_PutInt_loOk F, fun kend => (wire_PutInt_run F x.1 x.2.1 kend).trans (hF none (fun y0 => kend [BV.o 5 (.int .u8) y0]))⟩)

def wire_Int_orc : Orc := Orc.of [.d (.slc (.int .u8))] true 1 fun x => (wire_Int_P x.1, [.d (.int .i64) (wire_Int_r0 x.1), .o 5 (.int .u8) (wire_Int_r1 x.1), .d (.int .i64) (wire_Int_r2 x.1)])
@[reducible] def wire_Int_l1_T : Tpl := { cur := ⟨[(0, .var (.slc (.int .u8))), (4, .var (.int .i64)), (0, .var (.int .i64)), (26, .var (.slc (.int .u8))), (0, .var (.int .i64)), (0, .var (.int .i64))], 23⟩, stk := [⟨[], 0⟩], heap := [] }
@[reducible] def wire_Int_l1_T0 : Tpl := { cur := ⟨[(0, .var (.slc (.int .u8))), (4, .var (.int .i64)), (0, .var (.int .i64)), (26, .var (.slc (.int .u8))), (0, .var (.int .i64)), (0, .var (.int .i64))], 23⟩, stk := [⟨[], 0⟩], heap := [] }
def wire_Int_orcs : List (FuncId × Orc) := [(37, clone_byte_orc), (39, wire_further_orc), (43, bits_LeadingZeros8_orc)]
def wire_Int_book0 : Book := { Γ := gam, orc := orcsOf wire_Int_orcs, hint := hintsOf [(19, { keep := some [0, 5, 6, 33, 34, 35], own := [], dat := [], stk := [] })] }
def wire_Int_lo (F : Nat) : List (LoE Unit) := [⟨19, 10, LO.of wire_Int_l1_T fun x kq => wire_Int_l1F F none (fun y0 y1 y2 y3 y4 y5 => kq (.exit 0) (wire_Int_l1_T0.inst ((y0, (y1, (y2, (y3, (y4, (y5, ())))))), (((), ()), ())))) F x.1.1 x.1.2.1 x.1.2.2.1 x.1.2.2.2.1 x.1.2.2.2.2.1 x.1.2.2.2.2.2.1⟩]
def wire_Int_book (F : Nat) : BookL Unit := { toBook := wire_Int_book0, lo := losOf (wire_Int_lo F), need := needsOf [] }
set_option maxRecDepth 100000 in
theorem wire_Int_l1_step (F d : Nat) (src : List UInt8) (k : Int) (n : Int) (s33 : List UInt8) (s34 : Int) (s35 : Int) (KQ : AExit → ASt → Option Unit) : (stepL Go.Proofs.Try.prog (wire_Int_book F) F d 19 ((loopsOf (codeOf Go.Proofs.Try.prog 19)).getD 0 .skip)) (wire_Int_l1_T.inst ((src, (k, (n, (s33, (s34, (s35, ())))))), (((), ()), ()))) (fun e s => KQ e ((headOf Go.Proofs.Try.prog wire_Int_book0 19) s)) = wire_Int_l1 F none (fun src k n s33 s34 s35 => KQ .normal (wire_Int_l1_T.inst ((src, (k, (n, (s33, (s34, (s35, ())))))), (((), ()), ())))) (fun y0 y1 y2 y3 y4 y5 => KQ (.exit 0) (wire_Int_l1_T0.inst ((y0, (y1, (y2, (y3, (y4, (y5, ())))))), (((), ()), ())))) src k n s33 s34 s35 := by kernel_rfl
theorem wire_Int_l1_run (F d : Nat) : ∀ (m : Nat) (src : List UInt8) (k : Int) (n : Int) (s33 : List UInt8) (s34 : Int) (s35 : Int) (kq : AExit → ASt → Option Unit), loopN (stepL Go.Proofs.Try.prog (wire_Int_book F) F d 19 ((loopsOf (codeOf Go.Proofs.Try.prog 19)).getD 0 .skip)) (headOf Go.Proofs.Try.prog wire_Int_book0 19) m (wire_Int_l1_T.inst ((src, (k, (n, (s33, (s34, (s35, ())))))), (((), ()), ()))) kq = wire_Int_l1F F none (fun y0 y1 y2 y3 y4 y5 => kq (.exit 0) (wire_Int_l1_T0.inst ((y0, (y1, (y2, (y3, (y4, (y5, ())))))), (((), ()), ())))) m src k n s33 s34 s35
  | 0, _, _, _, _, _, _, _ => rfl
  | m + 1, src, k, n, s33, s34, s35, kq => (wire_Int_l1_step F d src k n s33 s34 s35 (fun e s => match e with | .normal => loopN (stepL Go.Proofs.Try.prog (wire_Int_book F) F d 19 ((loopsOf (codeOf Go.Proofs.Try.prog 19)).getD 0 .skip)) (headOf Go.Proofs.Try.prog wire_Int_book0 19) m s kq | e => kq e s)).trans (congrArg (fun nx => wire_Int_l1 F none nx (fun y0 y1 y2 y3 y4 y5 => kq (.exit 0) (wire_Int_l1_T0.inst ((y0, (y1, (y2, (y3, (y4, (y5, ())))))), (((), ()), ())))) src k n s33 s34 s35) (funext fun src => funext fun k => funext fun n => funext fun s33 => funext fun s34 => funext fun s35 => wire_Int_l1_run F d m src k n s33 s34 s35 kq))
theorem wire_Int_loOk (F : Nat) : LoOk Go.Proofs.Try.prog (wire_Int_book F) F := loOk_of (l := wire_Int_lo F) rfl (List.forall_mem_cons.2 ⟨loOne_of 0 (by kernel_rfl) (by kernel_rfl) (loIs_of fun d x kq => wire_Int_l1_run F d F x.1.1 x.1.2.1 x.1.2.2.1 x.1.2.2.2.1 x.1.2.2.2.2.1 x.1.2.2.2.2.2.1 kq), (fun _ h => nomatch h)⟩)
set_option maxRecDepth 100000 in
theorem wire_Int_run (F : Nat) (src : List UInt8) (kend : List BV → Option Unit) : runFnL Go.Proofs.Try.prog (wire_Int_book F) F 20 19 [.d (.slc (.int .u8)) src] [.d (.int .i64), .o 5 (.int .u8), .d (.int .i64)] kend = wire_Int F src none (fun y0 y1 y2 => kend [BV.d (.int .i64) y0, BV.o 5 (.int .u8) y1, BV.d (.int .i64) y2]) := by kernel_rfl
theorem wire_Int_contract : Contract Go.Proofs.Try.prog 19 wire_Int_orc := contract_of_runL (B0 := wire_Int_book0) (noNumB_ok num_ok) mix_ok (gamB_ok gam_ok) (orcsOf_ok (List.forall_mem_cons.2 ⟨clone_byte_contract, (List.forall_mem_cons.2 ⟨wire_further_contract, (List.forall_mem_cons.2 ⟨bits_LeadingZeros8_contract, (fun _ h => nomatch h)⟩)⟩)⟩)) (by kernel_rfl) (fun x h => by
  obtain ⟨F, hF⟩ := wire_Int_plain x.1 h
  exact ⟨F, 20, wire_Int_book F, rfl, wire_Int_loOk F, fun kend => (wire_Int_run F x.1 kend).trans (hF none (fun y0 y1 y2 => kend [BV.d (.int .i64) y0, BV.o 5 (.int .u8) y1, BV.d (.int .i64) y2]))⟩)

def ref02_power_orc : Orc := Orc.of [.d (.int .i64)] true 0 fun x => (ref02_power_P x.1, [.d (.int .i64) (ref02_power_r x.1)])
@[reducible] def ref02_power_l1_T : Tpl := { cur := ⟨[(0, .var (.int .i64)), (2, .var (.int .i64)), (0, .var (.int .i64))], 8⟩, stk := [⟨[], 0⟩], heap := [] }
@[reducible] def ref02_power_l1_T0 : Tpl := { cur := ⟨[(0, .var (.int .i64)), (2, .var (.int .i64)), (0, .var (.int .i64))], 8⟩, stk := [⟨[], 0⟩], heap := [] }
def ref02_power_orcs : List (FuncId × Orc) := []
def ref02_power_book0 : Book := { Γ := gam, orc := orcsOf ref02_power_orcs, hint := hintsOf [(42, { keep := some [0, 3, 4], own := [], dat := [], stk := [] })] }
def ref02_power_lo (F : Nat) : List (LoE Unit) := [⟨42, 3, LO.of ref02_power_l1_T fun x kq => ref02_power_l1F F none (fun y0 y1 y2 => kq (.exit 0) (ref02_power_l1_T0.inst ((y0, (y1, (y2, ()))), (((), ()), ())))) F x.1.1 x.1.2.1 x.1.2.2.1⟩]
def ref02_power_book (F : Nat) : BookL Unit := { toBook := ref02_power_book0, lo := losOf (ref02_power_lo F), need := needsOf [] }
set_option maxRecDepth 100000 in
theorem ref02_power_l1_step (F d : Nat) (n : Int) (p : Int) (i : Int) (KQ : AExit → ASt → Option Unit) : (stepL Go.Proofs.Try.prog (ref02_power_book F) F d 42 ((loopsOf (codeOf Go.Proofs.Try.prog 42)).getD 0 .skip)) (ref02_power_l1_T.inst ((n, (p, (i, ()))), (((), ()), ()))) (fun e s => KQ e ((headOf Go.Proofs.Try.prog ref02_power_book0 42) s)) = ref02_power_l1 F none (fun n p i => KQ .normal (ref02_power_l1_T.inst ((n, (p, (i, ()))), (((), ()), ())))) (fun y0 y1 y2 => KQ (.exit 0) (ref02_power_l1_T0.inst ((y0, (y1, (y2, ()))), (((), ()), ())))) n p i := by kernel_rfl
theorem ref02_power_l1_run (F d : Nat) : ∀ (m : Nat) (n : Int) (p : Int) (i : Int) (kq : AExit → ASt → Option Unit), loopN (stepL Go.Proofs.Try.prog (ref02_power_book F) F d 42 ((loopsOf (codeOf Go.Proofs.Try.prog 42)).getD 0 .skip)) (headOf Go.Proofs.Try.prog ref02_power_book0 42) m (ref02_power_l1_T.inst ((n, (p, (i, ()))), (((), ()), ()))) kq = ref02_power_l1F F none (fun y0 y1 y2 => kq (.exit 0) (ref02_power_l1_T0.inst ((y0, (y1, (y2, ()))), (((), ()), ())))) m n p i
  | 0, _, _, _, _ => rfl
  | m + 1, n, p, i, kq => (ref02_power_l1_step F d n p i (fun e s => match e with | .normal => loopN (stepL Go.Proofs.Try.prog (ref02_power_book F) F d 42 ((loopsOf (codeOf Go.Proofs.Try.prog 42)).getD 0 .skip)) (headOf Go.Proofs.Try.prog ref02_power_book0 42) m s kq | e => kq e s)).trans (congrArg (fun nx => ref02_power_l1 F none nx (fun y0 y1 y2 => kq (.exit 0) (ref02_power_l1_T0.inst ((y0, (y1, (y2, ()))), (((), ()), ())))) n p i) (funext fun n => funext fun p => funext fun i => ref02_power_l1_run F d m n p i kq))
theorem ref02_power_loOk (F : Nat) : LoOk Go.Proofs.Try.prog (ref02_power_book F) F := loOk_of (l := ref02_power_lo F) rfl (List.forall_mem_cons.2 ⟨loOne_of 0 (by kernel_rfl) (by kernel_rfl) (loIs_of fun d x kq => ref02_power_l1_run F d F x.1.1 x.1.2.1 x.1.2.2.1 kq), (fun _ h => nomatch h)⟩)
set_option maxRecDepth 100000 in
theorem ref02_power_run (F : Nat) (n : Int) (kend : List BV → Option Unit) : runFnL Go.Proofs.Try.prog (ref02_power_book F) F 20 42 [.d (.int .i64) n] [.d (.int .i64)] kend = ref02_power F n none (fun y0 => kend [BV.d (.int .i64) y0]) := by kernel_rfl
theorem ref02_power_contract : Contract Go.Proofs.Try.prog 42 ref02_power_orc := contract_of_runL (B0 := ref02_power_book0) (noNumB_ok num_ok) mix_ok (gamB_ok gam_ok) (orcsOf_ok (fun _ h => nomatch h)) (by kernel_rfl) (fun x h => by
  obtain ⟨F, hF⟩ := ref02_power_plain x.1 h
  exact ⟨F, 20, ref02_power_book F, rfl, ref02_power_loOk F, fun kend => (ref02_power_run F x.1 kend).trans (hF none (fun y0 => kend [BV.d (.int .i64) y0]))⟩)

def ref02_number_orc : Orc := Orc.of [.d (.int .i64)] true 0 fun x => (true, [.d (.int .i64) (ref02_number_r x.1)])
def ref02_number_orcs : List (FuncId × Orc) := []
def ref02_number_book0 : Book := { Γ := gam, orc := orcsOf ref02_number_orcs, hint := hintsOf [] }
def ref02_number_lo (F : Nat) : List (LoE Unit) := []
def ref02_number_book (F : Nat) : BookL Unit := { toBook := ref02_number_book0, lo := losOf (ref02_number_lo F), need := needsOf [] }
theorem ref02_number_loOk (F : Nat) : LoOk Go.Proofs.Try.prog (ref02_number_book F) F := loOk_of (l := ref02_number_lo F) rfl (fun _ h => nomatch h)
set_option maxRecDepth 100000 in
theorem ref02_number_run (F : Nat) (n : Int) (kend : List BV → Option Unit) : runFnL Go.Proofs.Try.prog (ref02_number_book F) F 20 41 [.d (.int .i64) n] [.d (.int .i64)] kend = ref02_number F n none (fun y0 => kend [BV.d (.int .i64) y0]) := by kernel_rfl
theorem ref02_number_contract : Contract Go.Proofs.Try.prog 41 ref02_number_orc := contract_of_runL (B0 := ref02_number_book0) (noNumB_ok num_ok) mix_ok (gamB_ok gam_ok) (orcsOf_ok (fun _ h => nomatch h)) (by kernel_rfl) (fun x h => by
  obtain ⟨F, hF⟩ := ref02_number_plain x.1
  exact ⟨F, 20, ref02_number_book F, rfl, ref02_number_loOk F, fun kend => (ref02_number_run F x.1 kend).trans (hF none (fun y0 => kend [BV.d (.int .i64) y0]))⟩)

def ref02_Size_orc : Orc := Orc.of [.d (.int .i64)] true 0 fun x => (true, [.d (.int .i64) (ref02_Size_r x.1)])
@[reducible] def ref02_Size_l1_T : Tpl := { cur := ⟨[(0, .var (.int .i64)), (2, .var (.int .i64))], 11⟩, stk := [⟨[], 0⟩], heap := [] }
@[reducible] def ref02_Size_l1_T0 : Tpl := { cur := ⟨[(0, .var (.int .i64)), (2, .var (.int .i64))], 11⟩, stk := [⟨[], 0⟩], heap := [] }
def ref02_Size_orcs : List (FuncId × Orc) := [(41, ref02_number_orc), (42, ref02_power_orc)]
def ref02_Size_book0 : Book := { Γ := gam, orc := orcsOf ref02_Size_orcs, hint := hintsOf [(18, { keep := some [0, 3], own := [], dat := [], stk := [] })] }
def ref02_Size_lo (F : Nat) : List (LoE Unit) := [⟨18, 2, LO.of ref02_Size_l1_T fun x kq => ref02_Size_l1F F none (fun y0 y1 => kq (.exit 0) (ref02_Size_l1_T0.inst ((y0, (y1, ())), (((), ()), ())))) F x.1.1 x.1.2.1⟩]
def ref02_Size_book (F : Nat) : BookL Unit := { toBook := ref02_Size_book0, lo := losOf (ref02_Size_lo F), need := needsOf [] }
set_option maxRecDepth 100000 in
theorem ref02_Size_l1_step (F d : Nat) (n : Int) (k : Int) (KQ : AExit → ASt → Option Unit) : (stepL Go.Proofs.Try.prog (ref02_Size_book F) F d 18 ((loopsOf (codeOf Go.Proofs.Try.prog 18)).getD 0 .skip)) (ref02_Size_l1_T.inst ((n, (k, ())), (((), ()), ()))) (fun e s => KQ e ((headOf Go.Proofs.Try.prog ref02_Size_book0 18) s)) = ref02_Size_l1 F none (fun n k => KQ .normal (ref02_Size_l1_T.inst ((n, (k, ())), (((), ()), ())))) (fun y0 y1 => KQ (.exit 0) (ref02_Size_l1_T0.inst ((y0, (y1, ())), (((), ()), ())))) n k := by kernel_rfl
theorem ref02_Size_l1_run (F d : Nat) : ∀ (m : Nat) (n : Int) (k : Int) (kq : AExit → ASt → Option Unit), loopN (stepL Go.Proofs.Try.prog (ref02_Size_book F) F d 18 ((loopsOf (codeOf Go.Proofs.Try.prog 18)).getD 0 .skip)) (headOf Go.Proofs.Try.prog ref02_Size_book0 18) m (ref02_Size_l1_T.inst ((n, (k, ())), (((), ()), ()))) kq = ref02_Size_l1F F none (fun y0 y1 => kq (.exit 0) (ref02_Size_l1_T0.inst ((y0, (y1, ())), (((), ()), ())))) m n k
  | 0, _, _, _ => rfl
  | m + 1, n, k, kq => (ref02_Size_l1_step F d n k (fun e s => match e with | .normal => loopN (stepL Go.Proofs.Try.prog (ref02_Size_book F) F d 18 ((loopsOf (codeOf Go.Proofs.Try.prog 18)).getD 0 .skip)) (headOf Go.Proofs.Try.prog ref02_Size_book0 18) m s kq | e => kq e s)).trans (congrArg (fun nx => ref02_Size_l1 F none nx (fun y0 y1 => kq (.exit 0) (ref02_Size_l1_T0.inst ((y0, (y1, ())), (((), ()), ())))) n k) (funext fun n => funext fun k => ref02_Size_l1_run F d m n k kq))
theorem ref02_Size_loOk (F : Nat) : LoOk Go.Proofs.Try.prog (ref02_Size_book F) F := loOk_of (l := ref02_Size_lo F) rfl (List.forall_mem_cons.2 ⟨loOne_of 0 (by kernel_rfl) (by kernel_rfl) (loIs_of fun d x kq => ref02_Size_l1_run F d F x.1.1 x.1.2.1 kq), (fun _ h => nomatch h)⟩)
set_option maxRecDepth 100000 in
theorem ref02_Size_run (F : Nat) (n : Int) (kend : List BV → Option Unit) : runFnL Go.Proofs.Try.prog (ref02_Size_book F) F 20 18 [.d (.int .i64) n] [.d (.int .i64)] kend = ref02_Size F n none (fun y0 => kend [BV.d (.int .i64) y0]) := by kernel_rfl
theorem ref02_Size_contract : Contract Go.Proofs.Try.prog 18 ref02_Size_orc := contract_of_runL (B0 := ref02_Size_book0) (noNumB_ok num_ok) mix_ok (gamB_ok gam_ok) (orcsOf_ok (List.forall_mem_cons.2 ⟨ref02_number_contract, (List.forall_mem_cons.2 ⟨ref02_power_contract, (fun _ h => nomatch h)⟩)⟩)) (by kernel_rfl) (fun x h => by
  obtain ⟨F, hF⟩ := ref02_Size_plain x.1
  exact ⟨F, 20, ref02_Size_book F, rfl, ref02_Size_loOk F, fun kend => (ref02_Size_run F x.1 kend).trans (hF none (fun y0 => kend [BV.d (.int .i64) y0]))⟩)

def ref02_PutInt_orc : Orc := Orc.of [.d (.slc (.int .u8)), .d (.int .i64)] true 1 fun x => (ref02_PutInt_P x.1 x.2.1, [.o 5 (.int .u8) (ref02_PutInt_r x.1 x.2.1)])
@[reducible] def ref02_PutInt_l1_T : Tpl := { cur := ⟨[(1, .var (.int .i64)), (4, .row 0), (0, .var (.int .i64))], 39⟩, stk := [⟨[], 0⟩], heap := [.row 5 (.int .u8) false] }
@[reducible] def ref02_PutInt_l1_T0 : Tpl := { cur := ⟨[(1, .var (.int .i64)), (4, .row 0), (0, .var (.int .i64))], 39⟩, stk := [⟨[], 0⟩], heap := [.row 5 (.int .u8) false] }
def ref02_PutInt_orcs : List (FuncId × Orc) := [(18, ref02_Size_orc), (41, ref02_number_orc), (42, ref02_power_orc)]
def ref02_PutInt_book0 : Book := { Γ := gam, orc := orcsOf ref02_PutInt_orcs, hint := hintsOf [(17, { keep := some [1, 6, 7], own := [], dat := [], stk := [] })] }
def ref02_PutInt_lo (F : Nat) : List (LoE Unit) := [⟨17, 7, LO.of ref02_PutInt_l1_T fun x kq => ref02_PutInt_l1F F none (fun y0 y1 y2 => kq (.exit 0) (ref02_PutInt_l1_T0.inst ((y0, ((), (y1, ()))), (((), ()), (y2, ()))))) F x.1.1 x.1.2.2.1 x.2.2.1⟩]
def ref02_PutInt_book (F : Nat) : BookL Unit := { toBook := ref02_PutInt_book0, lo := losOf (ref02_PutInt_lo F), need := needsOf [] }
set_option maxRecDepth 100000 in
theorem ref02_PutInt_l1_step (F d : Nat) (n : Int) (i : Int) (out : List UInt8) (KQ : AExit → ASt → Option Unit) : (stepL Go.Proofs.Try.prog (ref02_PutInt_book F) F d 17 ((loopsOf (codeOf Go.Proofs.Try.prog 17)).getD 0 .skip)) (ref02_PutInt_l1_T.inst ((n, ((), (i, ()))), (((), ()), (out, ())))) (fun e s => KQ e ((headOf Go.Proofs.Try.prog ref02_PutInt_book0 17) s)) = ref02_PutInt_l1 F none (fun n i out => KQ .normal (ref02_PutInt_l1_T.inst ((n, ((), (i, ()))), (((), ()), (out, ()))))) (fun y0 y1 y2 => KQ (.exit 0) (ref02_PutInt_l1_T0.inst ((y0, ((), (y1, ()))), (((), ()), (y2, ()))))) n i out := by kernel_rfl
theorem ref02_PutInt_l1_run (F d : Nat) : ∀ (m : Nat) (n : Int) (i : Int) (out : List UInt8) (kq : AExit → ASt → Option Unit), loopN (stepL Go.Proofs.Try.prog (ref02_PutInt_book F) F d 17 ((loopsOf (codeOf Go.Proofs.Try.prog 17)).getD 0 .skip)) (headOf Go.Proofs.Try.prog ref02_PutInt_book0 17) m (ref02_PutInt_l1_T.inst ((n, ((), (i, ()))), (((), ()), (out, ())))) kq = ref02_PutInt_l1F F none (fun y0 y1 y2 => kq (.exit 0) (ref02_PutInt_l1_T0.inst ((y0, ((), (y1, ()))), (((), ()), (y2, ()))))) m n i out
  | 0, _, _, _, _ => rfl
  | m + 1, n, i, out, kq => (ref02_PutInt_l1_step F d n i out (fun e s => match e with | .normal => loopN (stepL Go.Proofs.Try.prog (ref02_PutInt_book F) F d 17 ((loopsOf (codeOf Go.Proofs.Try.prog 17)).getD 0 .skip)) (headOf Go.Proofs.Try.prog ref02_PutInt_book0 17) m s kq | e => kq e s)).trans (congrArg (fun nx => ref02_PutInt_l1 F none nx (fun y0 y1 y2 => kq (.exit 0) (ref02_PutInt_l1_T0.inst ((y0, ((), (y1, ()))), (((), ()), (y2, ()))))) n i out) (funext fun n => funext fun i => funext fun out => ref02_PutInt_l1_run F d m n i out kq))
theorem ref02_PutInt_loOk (F : Nat) : LoOk Go.Proofs.Try.prog (ref02_PutInt_book F) F := loOk_of (l := ref02_PutInt_lo F) rfl (List.forall_mem_cons.2 ⟨loOne_of 0 (by kernel_rfl) (by kernel_rfl) (loIs_of fun d x kq => ref02_PutInt_l1_run F d F x.1.1 x.1.2.2.1 x.2.2.1 kq), (fun _ h => nomatch h)⟩)
set_option maxRecDepth 100000 in
theorem ref02_PutInt_run (F : Nat) (dst : List UInt8) (n : Int) (kend : List BV → Option Unit) : runFnL Go.Proofs.Try.prog (ref02_PutInt_book F) F 20 17 [.d (.slc (.int .u8)) dst, .d (.int .i64) n] [.o 5 (.int .u8)] kend = ref02_PutInt F dst n none (fun y0 => kend [BV.o 5 (.int .u8) y0]) := by kernel_rfl
theorem ref02_PutInt_contract : Contract Go.Proofs.Try.prog 17 ref02_PutInt_orc := contract_of_runL (B0 := ref02_PutInt_book0) (noNumB_ok num_ok) mix_ok (gamB_ok gam_ok) (orcsOf_ok (List.forall_mem_cons.2 ⟨ref02_Size_contract, (List.forall_mem_cons.2 ⟨ref02_number_contract, (List.forall_mem_cons.2 ⟨ref02_power_contract, (fun _ h => nomatch h)⟩)⟩)⟩)) (by kernel_rfl) (fun x h => by
  obtain ⟨F, hF⟩ := ref02_PutInt_plain x.1 x.2.1 h
  exact ⟨F, 20, ref02_PutInt_book F, rfl, ref02_PutInt_loOk F, fun kend => (ref02_PutInt_run F x.1 x.2.1 kend).trans (hF none (fun y0 => kend [BV.o 5 (.int .u8) y0]))⟩)

def ref02_rest_orc : Orc := Orc.of [.d (.slc (.int .u8))] true 1 fun x => (ref02_rest_P x.1, [.o 5 (.int .u8) (ref02_rest_r x.1)])
def ref02_rest_orcs : List (FuncId × Orc) := []
def ref02_rest_book0 : Book := { Γ := gam, orc := orcsOf ref02_rest_orcs, hint := hintsOf [] }
def ref02_rest_lo (F : Nat) : List (LoE Unit) := []
def ref02_rest_book (F : Nat) : BookL Unit := { toBook := ref02_rest_book0, lo := losOf (ref02_rest_lo F), need := needsOf [] }
theorem ref02_rest_loOk (F : Nat) : LoOk Go.Proofs.Try.prog (ref02_rest_book F) F := loOk_of (l := ref02_rest_lo F) rfl (fun _ h => nomatch h)
set_option maxRecDepth 100000 in
theorem ref02_rest_run (F : Nat) (b : List UInt8) (kend : List BV → Option Unit) : runFnL Go.Proofs.Try.prog (ref02_rest_book F) F 20 44 [.d (.slc (.int .u8)) b] [.o 5 (.int .u8)] kend = ref02_rest F b none (fun y0 => kend [BV.o 5 (.int .u8) y0]) := by kernel_rfl
theorem ref02_rest_contract : Contract Go.Proofs.Try.prog 44 ref02_rest_orc := contract_of_runL (B0 := ref02_rest_book0) (noNumB_ok num_ok) mix_ok (gamB_ok gam_ok) (orcsOf_ok (fun _ h => nomatch h)) (by kernel_rfl) (fun x h => by
  obtain ⟨F, hF⟩ := ref02_rest_plain x.1 h
  exact ⟨F, 20, ref02_rest_book F, rfl, ref02_rest_loOk F, fun kend => (ref02_rest_run F x.1 kend).trans (hF none (fun y0 => kend [BV.o 5 (.int .u8) y0]))⟩)

def ref02_Int_orc : Orc := Orc.of [.d (.slc (.int .u8))] true 1 fun x => (ref02_Int_P x.1, [.d (.int .i64) (ref02_Int_r0 x.1), .o 5 (.int .u8) (ref02_Int_r1 x.1), .d (.int .i64) (ref02_Int_r2 x.1)])
@[reducible] def ref02_Int_l1_T : Tpl := { cur := ⟨[(0, .var (.slc (.int .u8))), (4, .var (.int .i64)), (0, .var (.int .i64))], 58⟩, stk := [⟨[], 0⟩], heap := [] }
@[reducible] def ref02_Int_l1_T0 : Tpl := { cur := ⟨[(0, .var (.slc (.int .u8))), (4, .var (.int .i64)), (0, .var (.int .i64))], 58⟩, stk := [⟨[], 0⟩], heap := [] }
@[reducible] def ref02_Int_l2_T : Tpl := { cur := ⟨[(0, .var (.slc (.int .u8))), (4, .var (.int .i64)), (0, .var (.int .i64)), (0, .var (.int .i64)), (0, .var (.int .i64))], 56⟩, stk := [⟨[], 0⟩], heap := [] }
@[reducible] def ref02_Int_l2_T0 : Tpl := { cur := ⟨[(0, .var (.slc (.int .u8))), (4, .var (.int .i64)), (0, .var (.int .i64)), (0, .var (.int .i64)), (0, .var (.int .i64))], 56⟩, stk := [⟨[], 0⟩], heap := [] }
def ref02_Int_orcs : List (FuncId × Orc) := [(18, ref02_Size_orc), (42, ref02_power_orc), (44, ref02_rest_orc)]
def ref02_Int_book0 : Book := { Γ := gam, orc := orcsOf ref02_Int_orcs, hint := hintsOf [(20, { keep := some [0, 5, 6, 7, 8], own := [], dat := [], stk := [] })] }
def ref02_Int_lo (F : Nat) : List (LoE Unit) := [⟨20, 7, LO.of ref02_Int_l1_T fun x kq => ref02_Int_l1F F none (fun y0 y1 y2 => kq (.exit 0) (ref02_Int_l1_T0.inst ((y0, (y1, (y2, ()))), (((), ()), ())))) F x.1.1 x.1.2.1 x.1.2.2.1⟩,
  ⟨20, 13, LO.of ref02_Int_l2_T fun x kq => ref02_Int_l2F F none (fun y0 y1 y2 y3 y4 => kq (.exit 2) (ref02_Int_l2_T0.inst ((y0, (y1, (y2, (y3, (y4, ()))))), (((), ()), ())))) F x.1.1 x.1.2.1 x.1.2.2.1 x.1.2.2.2.1 x.1.2.2.2.2.1⟩]
def ref02_Int_book (F : Nat) : BookL Unit := { toBook := ref02_Int_book0, lo := losOf (ref02_Int_lo F), need := needsOf [] }
set_option maxRecDepth 100000 in
theorem ref02_Int_l1_step (F d : Nat) (src : List UInt8) (first : Int) (k : Int) (KQ : AExit → ASt → Option Unit) : (stepL Go.Proofs.Try.prog (ref02_Int_book F) F d 20 ((loopsOf (codeOf Go.Proofs.Try.prog 20)).getD 0 .skip)) (ref02_Int_l1_T.inst ((src, (first, (k, ()))), (((), ()), ()))) (fun e s => KQ e ((headOf Go.Proofs.Try.prog ref02_Int_book0 20) s)) = ref02_Int_l1 F none (fun src first k => KQ .normal (ref02_Int_l1_T.inst ((src, (first, (k, ()))), (((), ()), ())))) (fun y0 y1 y2 => KQ (.exit 0) (ref02_Int_l1_T0.inst ((y0, (y1, (y2, ()))), (((), ()), ())))) src first k := by kernel_rfl
theorem ref02_Int_l1_run (F d : Nat) : ∀ (m : Nat) (src : List UInt8) (first : Int) (k : Int) (kq : AExit → ASt → Option Unit), loopN (stepL Go.Proofs.Try.prog (ref02_Int_book F) F d 20 ((loopsOf (codeOf Go.Proofs.Try.prog 20)).getD 0 .skip)) (headOf Go.Proofs.Try.prog ref02_Int_book0 20) m (ref02_Int_l1_T.inst ((src, (first, (k, ()))), (((), ()), ()))) kq = ref02_Int_l1F F none (fun y0 y1 y2 => kq (.exit 0) (ref02_Int_l1_T0.inst ((y0, (y1, (y2, ()))), (((), ()), ())))) m src first k
  | 0, _, _, _, _ => rfl
  | m + 1, src, first, k, kq => (ref02_Int_l1_step F d src first k (fun e s => match e with | .normal => loopN (stepL Go.Proofs.Try.prog (ref02_Int_book F) F d 20 ((loopsOf (codeOf Go.Proofs.Try.prog 20)).getD 0 .skip)) (headOf Go.Proofs.Try.prog ref02_Int_book0 20) m s kq | e => kq e s)).trans (congrArg (fun nx => ref02_Int_l1 F none nx (fun y0 y1 y2 => kq (.exit 0) (ref02_Int_l1_T0.inst ((y0, (y1, (y2, ()))), (((), ()), ())))) src first k) (funext fun src => funext fun first => funext fun k => ref02_Int_l1_run F d m src first k kq))
set_option maxRecDepth 100000 in
theorem ref02_Int_l2_step (F d : Nat) (src : List UInt8) (first : Int) (k : Int) (n : Int) (i : Int) (KQ : AExit → ASt → Option Unit) : (stepL Go.Proofs.Try.prog (ref02_Int_book F) F d 20 ((loopsOf (codeOf Go.Proofs.Try.prog 20)).getD 1 .skip)) (ref02_Int_l2_T.inst ((src, (first, (k, (n, (i, ()))))), (((), ()), ()))) (fun e s => KQ e ((headOf Go.Proofs.Try.prog ref02_Int_book0 20) s)) = ref02_Int_l2 F none (fun src first k n i => KQ .normal (ref02_Int_l2_T.inst ((src, (first, (k, (n, (i, ()))))), (((), ()), ())))) (fun y0 y1 y2 y3 y4 => KQ (.exit 2) (ref02_Int_l2_T0.inst ((y0, (y1, (y2, (y3, (y4, ()))))), (((), ()), ())))) src first k n i := by kernel_rfl
theorem ref02_Int_l2_run (F d : Nat) : ∀ (m : Nat) (src : List UInt8) (first : Int) (k : Int) (n : Int) (i : Int) (kq : AExit → ASt → Option Unit), loopN (stepL Go.Proofs.Try.prog (ref02_Int_book F) F d 20 ((loopsOf (codeOf Go.Proofs.Try.prog 20)).getD 1 .skip)) (headOf Go.Proofs.Try.prog ref02_Int_book0 20) m (ref02_Int_l2_T.inst ((src, (first, (k, (n, (i, ()))))), (((), ()), ()))) kq = ref02_Int_l2F F none (fun y0 y1 y2 y3 y4 => kq (.exit 2) (ref02_Int_l2_T0.inst ((y0, (y1, (y2, (y3, (y4, ()))))), (((), ()), ())))) m src first k n i
  | 0, _, _, _, _, _, _ => rfl
  | m + 1, src, first, k, n, i, kq => (ref02_Int_l2_step F d src first k n i (fun e s => match e with | .normal => loopN (stepL Go.Proofs.Try.prog (ref02_Int_book F) F d 20 ((loopsOf (codeOf Go.Proofs.Try.prog 20)).getD 1 .skip)) (headOf Go.Proofs.Try.prog ref02_Int_book0 20) m s kq | e => kq e s)).trans (congrArg (fun nx => ref02_Int_l2 F none nx (fun y0 y1 y2 y3 y4 => kq (.exit 2) (ref02_Int_l2_T0.inst ((y0, (y1, (y2, (y3, (y4, ()))))), (((), ()), ())))) src first k n i) (funext fun src => funext fun first => funext fun k => funext fun n => funext fun i => ref02_Int_l2_run F d m src first k n i kq))
theorem ref02_Int_loOk (F : Nat) : LoOk Go.Proofs.Try.prog (ref02_Int_book F) F := loOk_of (l := ref02_Int_lo F) rfl (List.forall_mem_cons.2 ⟨loOne_of 0 (by kernel_rfl) (by kernel_rfl) (loIs_of fun d x kq => ref02_Int_l1_run F d F x.1.1 x.1.2.1 x.1.2.2.1 kq), (List.forall_mem_cons.2 ⟨loOne_of 1 (by kernel_rfl) (by kernel_rfl) (loIs_of fun d x kq => ref02_Int_l2_run F d F x.1.1 x.1.2.1 x.1.2.2.1 x.1.2.2.2.1 x.1.2.2.2.2.1 kq), (fun _ h => nomatch h)⟩)⟩)
set_option maxRecDepth 100000 in
theorem ref02_Int_run (F : Nat) (src : List UInt8) (kend : List BV → Option Unit) : runFnL Go.Proofs.Try.prog (ref02_Int_book F) F 20 20 [.d (.slc (.int .u8)) src] [.d (.int .i64), .o 5 (.int .u8), .d (.int .i64)] kend = ref02_Int F src none (fun y0 y1 y2 => kend [BV.d (.int .i64) y0, BV.o 5 (.int .u8) y1, BV.d (.int .i64) y2]) := by kernel_rfl
theorem ref02_Int_contract : Contract Go.Proofs.Try.prog 20 ref02_Int_orc := contract_of_runL (B0 := ref02_Int_book0) (noNumB_ok num_ok) mix_ok (gamB_ok gam_ok) (orcsOf_ok (List.forall_mem_cons.2 ⟨ref02_Size_contract, (List.forall_mem_cons.2 ⟨ref02_power_contract, (List.forall_mem_cons.2 ⟨ref02_rest_contract, (fun _ h => nomatch h)⟩)⟩)⟩)) (by kernel_rfl) (fun x h => by
  obtain ⟨F, hF⟩ := ref02_Int_plain x.1 h
  exact ⟨F, 20, ref02_Int_book F, rfl, ref02_Int_loOk F, fun kend => (ref02_Int_run F x.1 kend).trans (hF none (fun y0 y1 y2 => kend [BV.d (.int .i64) y0, BV.o 5 (.int .u8) y1, BV.d (.int .i64) y2]))⟩)

end Go.AI
