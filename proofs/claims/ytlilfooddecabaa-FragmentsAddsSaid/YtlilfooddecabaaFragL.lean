/- The machine runs as the plain functions say. -/
import Derived.Test.YtlilfooddecabaaFragM2
import Derived.Test.YtlilfooddecabaaFragP6
import Derived.KernelRfl
namespace Go.AI
open Go
set_option linter.unusedVariables false

def FragmentsChecks_orc : Orc := Orc.of [.d (.pair (.slc (.pair (.arr 32 (.int .u8)) (.pair (.int .i64) (.pair (.int .i64) (.pair (.int .i64) .unit))))) .unit), .d (.arr 32 (.int .u8)), .d (.int .i64)] true 0 fun x => (FragmentsChecks_P x.1 x.2.1 x.2.2.1, [.d .bool (FragmentsChecks_r x.1 x.2.1 x.2.2.1)])
def FragmentsChecks_orcs : List (FuncId × Orc) := [(11, qFew_orc), (12, law46_awake_orc), (25, fFind_orc), (26, qFind_orc), (27, fCheck_orc), (28, qCheck_orc)]
def FragmentsChecks_book0 : Book := { Γ := gam, orc := orcsOf FragmentsChecks_orcs, hint := hintsOf [] }
def FragmentsChecks_lo (F : Nat) : List (LoE Unit) := []
def FragmentsChecks_book (F : Nat) : BookL Unit := { toBook := FragmentsChecks_book0, lo := losOf (FragmentsChecks_lo F), need := needsOf [] }
theorem FragmentsChecks_loOk (F : Nat) : LoOk Go.Proofs.Try.prog (FragmentsChecks_book F) F := loOk_of (l := FragmentsChecks_lo F) rfl (fun _ h => nomatch h)
set_option maxRecDepth 100000 in
theorem FragmentsChecks_run (F : Nat) (f : ((List ((List UInt8) × (Int × (Int × (Int × Unit))))) × Unit)) (d_ : List UInt8) (length : Int) (kend : List BV → Option Unit) : runFnL Go.Proofs.Try.prog (FragmentsChecks_book F) F 20 9 [.d (.pair (.slc (.pair (.arr 32 (.int .u8)) (.pair (.int .i64) (.pair (.int .i64) (.pair (.int .i64) .unit))))) .unit) f, .d (.arr 32 (.int .u8)) d_, .d (.int .i64) length] [.d .bool] kend = FragmentsChecks F f d_ length none (fun y0 => kend [BV.d .bool y0]) := by kernel_rfl
theorem FragmentsChecks_contract : Contract Go.Proofs.Try.prog 9 FragmentsChecks_orc := contract_of_runL (B0 := FragmentsChecks_book0) (noNumB_ok num_ok) (rangesB_ok rng_ok) mix_ok (gamB_ok gam_ok) (orcsOf_ok (List.forall_mem_cons.2 ⟨qFew_contract, (List.forall_mem_cons.2 ⟨law46_awake_contract, (List.forall_mem_cons.2 ⟨fFind_contract, (List.forall_mem_cons.2 ⟨qFind_contract, (List.forall_mem_cons.2 ⟨fCheck_contract, (List.forall_mem_cons.2 ⟨qCheck_contract, (fun _ h => nomatch h)⟩)⟩)⟩)⟩)⟩)⟩)) (by kernel_rfl) (fun x h => by
  obtain ⟨F, hF⟩ := FragmentsChecks_plain x.1 x.2.1 x.2.2.1 h
  exact ⟨F, 20, FragmentsChecks_book F, rfl, FragmentsChecks_loOk F, fun kend => (FragmentsChecks_run F x.1 x.2.1 x.2.2.1 kend).trans (hF none (fun y0 => kend [BV.d .bool y0]))⟩)

def FragmentsAdds_orc : Orc := Orc.of [.d (.pair (.slc (.pair (.arr 32 (.int .u8)) (.pair (.int .i64) (.pair (.int .i64) (.pair (.int .i64) .unit))))) .unit), .d (.slc (.int .u8))] true 0 fun x => (FragmentsAdds_P x.1 x.2.1, [.d .bool (FragmentsAdds_r x.1 x.2.1)])
def FragmentsAdds_orcs : List (FuncId × Orc) := [(11, qFew_orc), (12, law46_awake_orc), (13, fAdd_orc), (14, qAdd_orc), (15, qSame_orc)]
def FragmentsAdds_book0 : Book := { Γ := gam, orc := orcsOf FragmentsAdds_orcs, hint := hintsOf [] }
def FragmentsAdds_lo (F : Nat) : List (LoE Unit) := []
def FragmentsAdds_book (F : Nat) : BookL Unit := { toBook := FragmentsAdds_book0, lo := losOf (FragmentsAdds_lo F), need := needsOf [] }
theorem FragmentsAdds_loOk (F : Nat) : LoOk Go.Proofs.Try.prog (FragmentsAdds_book F) F := loOk_of (l := FragmentsAdds_lo F) rfl (fun _ h => nomatch h)
set_option maxRecDepth 100000 in
theorem FragmentsAdds_run (F : Nat) (f : ((List ((List UInt8) × (Int × (Int × (Int × Unit))))) × Unit)) (data : List UInt8) (kend : List BV → Option Unit) : runFnL Go.Proofs.Try.prog (FragmentsAdds_book F) F 20 3 [.d (.pair (.slc (.pair (.arr 32 (.int .u8)) (.pair (.int .i64) (.pair (.int .i64) (.pair (.int .i64) .unit))))) .unit) f, .d (.slc (.int .u8)) data] [.d .bool] kend = FragmentsAdds F f data none (fun y0 => kend [BV.d .bool y0]) := by kernel_rfl
theorem FragmentsAdds_contract : Contract Go.Proofs.Try.prog 3 FragmentsAdds_orc := contract_of_runL (B0 := FragmentsAdds_book0) (noNumB_ok num_ok) (rangesB_ok rng_ok) mix_ok (gamB_ok gam_ok) (orcsOf_ok (List.forall_mem_cons.2 ⟨qFew_contract, (List.forall_mem_cons.2 ⟨law46_awake_contract, (List.forall_mem_cons.2 ⟨fAdd_contract, (List.forall_mem_cons.2 ⟨qAdd_contract, (List.forall_mem_cons.2 ⟨qSame_contract, (fun _ h => nomatch h)⟩)⟩)⟩)⟩)⟩)) (by kernel_rfl) (fun x h => by
  obtain ⟨F, hF⟩ := FragmentsAdds_plain x.1 x.2.1 h
  exact ⟨F, 20, FragmentsAdds_book F, rfl, FragmentsAdds_loOk F, fun kend => (FragmentsAdds_run F x.1 x.2.1 kend).trans (hF none (fun y0 => kend [BV.d .bool y0]))⟩)

def FragmentsPlaces_orc : Orc := Orc.of [.d (.pair (.slc (.pair (.arr 32 (.int .u8)) (.pair (.int .i64) (.pair (.int .i64) (.pair (.int .i64) .unit))))) .unit), .d (.int .i64), .d (.arr 2 (.int .i64))] true 0 fun x => (FragmentsPlaces_P x.1 x.2.1 x.2.2.1, [.d .bool (FragmentsPlaces_r x.1 x.2.1 x.2.2.1)])
def FragmentsPlaces_orcs : List (FuncId × Orc) := [(11, qFew_orc), (12, law46_awake_orc), (15, qSame_orc), (16, fPlace_orc), (17, qPlace_orc), (18, fStored_orc), (19, qStored_orc)]
def FragmentsPlaces_book0 : Book := { Γ := gam, orc := orcsOf FragmentsPlaces_orcs, hint := hintsOf [] }
def FragmentsPlaces_lo (F : Nat) : List (LoE Unit) := []
def FragmentsPlaces_book (F : Nat) : BookL Unit := { toBook := FragmentsPlaces_book0, lo := losOf (FragmentsPlaces_lo F), need := needsOf [] }
theorem FragmentsPlaces_loOk (F : Nat) : LoOk Go.Proofs.Try.prog (FragmentsPlaces_book F) F := loOk_of (l := FragmentsPlaces_lo F) rfl (fun _ h => nomatch h)
set_option maxRecDepth 100000 in
theorem FragmentsPlaces_run (F : Nat) (f : ((List ((List UInt8) × (Int × (Int × (Int × Unit))))) × Unit)) (fragment : Int) (to : List Int) (kend : List BV → Option Unit) : runFnL Go.Proofs.Try.prog (FragmentsPlaces_book F) F 20 4 [.d (.pair (.slc (.pair (.arr 32 (.int .u8)) (.pair (.int .i64) (.pair (.int .i64) (.pair (.int .i64) .unit))))) .unit) f, .d (.int .i64) fragment, .d (.arr 2 (.int .i64)) to] [.d .bool] kend = FragmentsPlaces F f fragment to none (fun y0 => kend [BV.d .bool y0]) := by kernel_rfl
theorem FragmentsPlaces_contract : Contract Go.Proofs.Try.prog 4 FragmentsPlaces_orc := contract_of_runL (B0 := FragmentsPlaces_book0) (noNumB_ok num_ok) (rangesB_ok rng_ok) mix_ok (gamB_ok gam_ok) (orcsOf_ok (List.forall_mem_cons.2 ⟨qFew_contract, (List.forall_mem_cons.2 ⟨law46_awake_contract, (List.forall_mem_cons.2 ⟨qSame_contract, (List.forall_mem_cons.2 ⟨fPlace_contract, (List.forall_mem_cons.2 ⟨qPlace_contract, (List.forall_mem_cons.2 ⟨fStored_contract, (List.forall_mem_cons.2 ⟨qStored_contract, (fun _ h => nomatch h)⟩)⟩)⟩)⟩)⟩)⟩)⟩)) (by kernel_rfl) (fun x h => by
  obtain ⟨F, hF⟩ := FragmentsPlaces_plain x.1 x.2.1 x.2.2.1 h
  exact ⟨F, 20, FragmentsPlaces_book F, rfl, FragmentsPlaces_loOk F, fun kend => (FragmentsPlaces_run F x.1 x.2.1 x.2.2.1 kend).trans (hF none (fun y0 => kend [BV.d .bool y0]))⟩)

end Go.AI
