/- The machine runs as the plain functions say. -/
import Derived.Test.YtadpmbipdafjiaaWireA
import Derived.Test.YtadpmbipdafjiaaWireP3
import Derived.KernelRfl
namespace Go.AI
open Go
set_option linter.unusedVariables false

def WireOrders_orc : Orc := Orc.of [.d (.int .i64), .d (.int .i64), .d (.arr 2 (.slc (.int .u8)))] true 0 fun x => (WireOrders_P x.1 x.2.1 x.2.2.1, [.d .bool (WireOrders_r x.1 x.2.1 x.2.2.1)])
def WireOrders_orcs : List (FuncId × Orc) := [(11, law02_short_orc), (12, law02_awake_orc), (13, wire_PutInt_orc), (14, bytes_Compare_orc), (15, wire_Size_orc)]
def WireOrders_book0 : Book := { Γ := gam, orc := orcsOf WireOrders_orcs, hint := hintsOf [] }
def WireOrders_lo (F : Nat) : List (LoE Unit) := []
def WireOrders_book (F : Nat) : BookL Unit := { toBook := WireOrders_book0, lo := losOf (WireOrders_lo F), need := needsOf [] }
theorem WireOrders_loOk (F : Nat) : LoOk Go.Proofs.Try.prog (WireOrders_book F) F := loOk_of (l := WireOrders_lo F) rfl (fun _ h => nomatch h)
set_option maxRecDepth 100000 in
theorem WireOrders_run (F : Nat) (a : Int) (b : Int) (rest_ : List (List UInt8)) (kend : List BV → Option Unit) : runFnL Go.Proofs.Try.prog (WireOrders_book F) F 20 3 [.d (.int .i64) a, .d (.int .i64) b, .d (.arr 2 (.slc (.int .u8))) rest_] [.d .bool] kend = WireOrders F a b rest_ none (fun y0 => kend [BV.d .bool y0]) := by kernel_rfl
theorem WireOrders_contract : Contract Go.Proofs.Try.prog 3 WireOrders_orc := contract_of_runL (B0 := WireOrders_book0) (noNumB_ok num_ok) mix_ok (gamB_ok gam_ok) (orcsOf_ok (List.forall_mem_cons.2 ⟨law02_short_contract, (List.forall_mem_cons.2 ⟨law02_awake_contract, (List.forall_mem_cons.2 ⟨wire_PutInt_contract, (List.forall_mem_cons.2 ⟨bytes_Compare_contract, (List.forall_mem_cons.2 ⟨wire_Size_contract, (fun _ h => nomatch h)⟩)⟩)⟩)⟩)⟩)) (by kernel_rfl) (fun x h => by
  obtain ⟨F, hF⟩ := WireOrders_plain x.1 x.2.1 x.2.2.1 h
  exact ⟨F, 20, WireOrders_book F, rfl, WireOrders_loOk F, fun kend => (WireOrders_run F x.1 x.2.1 x.2.2.1 kend).trans (hF none (fun y0 => kend [BV.d .bool y0]))⟩)

def WirePuts_orc : Orc := Orc.of [.d (.slc (.int .u8)), .d (.int .i64)] true 0 fun x => (WirePuts_P x.1 x.2.1, [.d .bool (WirePuts_r x.1 x.2.1)])
def WirePuts_orcs : List (FuncId × Orc) := [(11, law02_short_orc), (12, law02_awake_orc), (13, wire_PutInt_orc), (15, wire_Size_orc), (16, bytes_Equal_orc), (17, ref02_PutInt_orc), (18, ref02_Size_orc)]
def WirePuts_book0 : Book := { Γ := gam, orc := orcsOf WirePuts_orcs, hint := hintsOf [] }
def WirePuts_lo (F : Nat) : List (LoE Unit) := []
def WirePuts_book (F : Nat) : BookL Unit := { toBook := WirePuts_book0, lo := losOf (WirePuts_lo F), need := needsOf [] }
theorem WirePuts_loOk (F : Nat) : LoOk Go.Proofs.Try.prog (WirePuts_book F) F := loOk_of (l := WirePuts_lo F) rfl (fun _ h => nomatch h)
set_option maxRecDepth 100000 in
theorem WirePuts_run (F : Nat) (dst : List UInt8) (n : Int) (kend : List BV → Option Unit) : runFnL Go.Proofs.Try.prog (WirePuts_book F) F 20 4 [.d (.slc (.int .u8)) dst, .d (.int .i64) n] [.d .bool] kend = WirePuts F dst n none (fun y0 => kend [BV.d .bool y0]) := by kernel_rfl
theorem WirePuts_contract : Contract Go.Proofs.Try.prog 4 WirePuts_orc := contract_of_runL (B0 := WirePuts_book0) (noNumB_ok num_ok) mix_ok (gamB_ok gam_ok) (orcsOf_ok (List.forall_mem_cons.2 ⟨law02_short_contract, (List.forall_mem_cons.2 ⟨law02_awake_contract, (List.forall_mem_cons.2 ⟨wire_PutInt_contract, (List.forall_mem_cons.2 ⟨wire_Size_contract, (List.forall_mem_cons.2 ⟨bytes_Equal_contract, (List.forall_mem_cons.2 ⟨ref02_PutInt_contract, (List.forall_mem_cons.2 ⟨ref02_Size_contract, (fun _ h => nomatch h)⟩)⟩)⟩)⟩)⟩)⟩)⟩)) (by kernel_rfl) (fun x h => by
  obtain ⟨F, hF⟩ := WirePuts_plain x.1 x.2.1 h
  exact ⟨F, 20, WirePuts_book F, rfl, WirePuts_loOk F, fun kend => (WirePuts_run F x.1 x.2.1 kend).trans (hF none (fun y0 => kend [BV.d .bool y0]))⟩)

def WireReads_orc : Orc := Orc.of [.d (.slc (.int .u8))] true 0 fun x => (WireReads_P x.1, [.d .bool (WireReads_r x.1)])
def WireReads_orcs : List (FuncId × Orc) := [(11, law02_short_orc), (12, law02_awake_orc), (16, bytes_Equal_orc), (19, wire_Int_orc), (20, ref02_Int_orc)]
def WireReads_book0 : Book := { Γ := gam, orc := orcsOf WireReads_orcs, hint := hintsOf [] }
def WireReads_lo (F : Nat) : List (LoE Unit) := []
def WireReads_book (F : Nat) : BookL Unit := { toBook := WireReads_book0, lo := losOf (WireReads_lo F), need := needsOf [] }
theorem WireReads_loOk (F : Nat) : LoOk Go.Proofs.Try.prog (WireReads_book F) F := loOk_of (l := WireReads_lo F) rfl (fun _ h => nomatch h)
set_option maxRecDepth 100000 in
theorem WireReads_run (F : Nat) (src : List UInt8) (kend : List BV → Option Unit) : runFnL Go.Proofs.Try.prog (WireReads_book F) F 20 5 [.d (.slc (.int .u8)) src] [.d .bool] kend = WireReads F src none (fun y0 => kend [BV.d .bool y0]) := by kernel_rfl
theorem WireReads_contract : Contract Go.Proofs.Try.prog 5 WireReads_orc := contract_of_runL (B0 := WireReads_book0) (noNumB_ok num_ok) mix_ok (gamB_ok gam_ok) (orcsOf_ok (List.forall_mem_cons.2 ⟨law02_short_contract, (List.forall_mem_cons.2 ⟨law02_awake_contract, (List.forall_mem_cons.2 ⟨bytes_Equal_contract, (List.forall_mem_cons.2 ⟨wire_Int_contract, (List.forall_mem_cons.2 ⟨ref02_Int_contract, (fun _ h => nomatch h)⟩)⟩)⟩)⟩)⟩)) (by kernel_rfl) (fun x h => by
  obtain ⟨F, hF⟩ := WireReads_plain x.1 h
  exact ⟨F, 20, WireReads_book F, rfl, WireReads_loOk F, fun kend => (WireReads_run F x.1 kend).trans (hF none (fun y0 => kend [BV.d .bool y0]))⟩)

def WireStrings_orc : Orc := Orc.of [.d (.slc (.int .u8)), .d (.slc (.int .u8)), .d (.slc (.int .u8))] true 0 fun x => (WireStrings_P x.1 x.2.1 x.2.2.1, [.d .bool (WireStrings_r x.1 x.2.1 x.2.2.1)])
def WireStrings_orcs : List (FuncId × Orc) := [(11, law02_short_orc), (12, law02_awake_orc), (16, bytes_Equal_orc), (21, wire_PutBytes_orc), (22, ref02_PutBytes_orc), (23, wire_PutText_orc), (24, ref02_PutText_orc), (25, wire_Bytes_orc), (26, ref02_Bytes_orc), (27, wire_Text_orc)]
def WireStrings_book0 : Book := { Γ := gam, orc := orcsOf WireStrings_orcs, hint := hintsOf [] }
def WireStrings_lo (F : Nat) : List (LoE Unit) := []
def WireStrings_book (F : Nat) : BookL Unit := { toBook := WireStrings_book0, lo := losOf (WireStrings_lo F), need := needsOf [] }
theorem WireStrings_loOk (F : Nat) : LoOk Go.Proofs.Try.prog (WireStrings_book F) F := loOk_of (l := WireStrings_lo F) rfl (fun _ h => nomatch h)
set_option maxRecDepth 100000 in
theorem WireStrings_run (F : Nat) (dst : List UInt8) (b : List UInt8) (src : List UInt8) (kend : List BV → Option Unit) : runFnL Go.Proofs.Try.prog (WireStrings_book F) F 20 6 [.d (.slc (.int .u8)) dst, .d (.slc (.int .u8)) b, .d (.slc (.int .u8)) src] [.d .bool] kend = WireStrings F dst b src none (fun y0 => kend [BV.d .bool y0]) := by kernel_rfl
theorem WireStrings_contract : Contract Go.Proofs.Try.prog 6 WireStrings_orc := contract_of_runL (B0 := WireStrings_book0) (noNumB_ok num_ok) mix_ok (gamB_ok gam_ok) (orcsOf_ok (List.forall_mem_cons.2 ⟨law02_short_contract, (List.forall_mem_cons.2 ⟨law02_awake_contract, (List.forall_mem_cons.2 ⟨bytes_Equal_contract, (List.forall_mem_cons.2 ⟨wire_PutBytes_contract, (List.forall_mem_cons.2 ⟨ref02_PutBytes_contract, (List.forall_mem_cons.2 ⟨wire_PutText_contract, (List.forall_mem_cons.2 ⟨ref02_PutText_contract, (List.forall_mem_cons.2 ⟨wire_Bytes_contract, (List.forall_mem_cons.2 ⟨ref02_Bytes_contract, (List.forall_mem_cons.2 ⟨wire_Text_contract, (fun _ h => nomatch h)⟩)⟩)⟩)⟩)⟩)⟩)⟩)⟩)⟩)⟩)) (by kernel_rfl) (fun x h => by
  obtain ⟨F, hF⟩ := WireStrings_plain x.1 x.2.1 x.2.2.1 h
  exact ⟨F, 20, WireStrings_book F, rfl, WireStrings_loOk F, fun kend => (WireStrings_run F x.1 x.2.1 x.2.2.1 kend).trans (hF none (fun y0 => kend [BV.d .bool y0]))⟩)

def WireLists_orc : Orc := Orc.of [.d (.slc (.int .u8)), .d (.slc (.int .i64)), .d (.slc (.int .u8))] true 0 fun x => (WireLists_P x.1 x.2.1 x.2.2.1, [.d .bool (WireLists_r x.1 x.2.1 x.2.2.1)])
def WireLists_orcs : List (FuncId × Orc) := [(11, law02_short_orc), (12, law02_awake_orc), (16, bytes_Equal_orc), (28, wire_PutInts_orc), (30, wire_Ints_orc), (31, ref02_Ints_orc), (32, ref02_PutInts_orc), (33, equal_int_orc)]
def WireLists_book0 : Book := { Γ := gam, orc := orcsOf WireLists_orcs, hint := hintsOf [] }
def WireLists_lo (F : Nat) : List (LoE Unit) := []
def WireLists_book (F : Nat) : BookL Unit := { toBook := WireLists_book0, lo := losOf (WireLists_lo F), need := needsOf [] }
theorem WireLists_loOk (F : Nat) : LoOk Go.Proofs.Try.prog (WireLists_book F) F := loOk_of (l := WireLists_lo F) rfl (fun _ h => nomatch h)
set_option maxRecDepth 100000 in
theorem WireLists_run (F : Nat) (dst : List UInt8) (l : List Int) (src : List UInt8) (kend : List BV → Option Unit) : runFnL Go.Proofs.Try.prog (WireLists_book F) F 20 8 [.d (.slc (.int .u8)) dst, .d (.slc (.int .i64)) l, .d (.slc (.int .u8)) src] [.d .bool] kend = WireLists F dst l src none (fun y0 => kend [BV.d .bool y0]) := by kernel_rfl
theorem WireLists_contract : Contract Go.Proofs.Try.prog 8 WireLists_orc := contract_of_runL (B0 := WireLists_book0) (noNumB_ok num_ok) mix_ok (gamB_ok gam_ok) (orcsOf_ok (List.forall_mem_cons.2 ⟨law02_short_contract, (List.forall_mem_cons.2 ⟨law02_awake_contract, (List.forall_mem_cons.2 ⟨bytes_Equal_contract, (List.forall_mem_cons.2 ⟨wire_PutInts_contract, (List.forall_mem_cons.2 ⟨wire_Ints_contract, (List.forall_mem_cons.2 ⟨ref02_Ints_contract, (List.forall_mem_cons.2 ⟨ref02_PutInts_contract, (List.forall_mem_cons.2 ⟨equal_int_contract, (fun _ h => nomatch h)⟩)⟩)⟩)⟩)⟩)⟩)⟩)⟩)) (by kernel_rfl) (fun x h => by
  obtain ⟨F, hF⟩ := WireLists_plain x.1 x.2.1 x.2.2.1 h
  exact ⟨F, 20, WireLists_book F, rfl, WireLists_loOk F, fun kend => (WireLists_run F x.1 x.2.1 x.2.2.1 kend).trans (hF none (fun y0 => kend [BV.d .bool y0]))⟩)

end Go.AI
