/- The machine runs as the plain functions say. -/
import Derived.Test.YtaobeghgcfbcfaaLogM
import Derived.Test.YtaobeghgcfbcfaaLogA0
import Derived.KernelRfl
namespace Go.AI
open Go
set_option linter.unusedVariables false

def law49_awake_orc : Orc := Orc.of [] true 0 fun x => (true, [.d .bool (law49_awake_r)])
def law49_awake_orcs : List (FuncId × Orc) := [(11, lFormat_orc), (13, lPages_orc), (18, lAppend_orc), (22, qSameB_orc), (24, lOpen_orc), (28, ran_orc), (29, dInterrupt_orc), (30, dNew_orc), (31, dRead_orc)]
def law49_awake_book0 : Book := { Γ := gam, orc := orcsOf law49_awake_orcs, hint := hintsOf [] }
def law49_awake_lo (F : Nat) : List (LoE Unit) := []
def law49_awake_book (F : Nat) : BookL Unit := { toBook := law49_awake_book0, lo := losOf (law49_awake_lo F), need := needsOf [] }
theorem law49_awake_loOk (F : Nat) : LoOk Go.Proofs.Try.prog (law49_awake_book F) F := loOk_of (l := law49_awake_lo F) rfl (fun _ h => nomatch h)
set_option maxRecDepth 100000 in
theorem law49_awake_run (F : Nat)  (kend : List BV → Option Unit) : runFnL Go.Proofs.Try.prog (law49_awake_book F) F 20 10 [] [.d .bool] kend = law49_awake F  none (fun y0 => kend [BV.d .bool y0]) := by kernel_rfl
theorem law49_awake_contract : Contract Go.Proofs.Try.prog 10 law49_awake_orc := contract_of_runL (B0 := law49_awake_book0) (noNumB_ok num_ok) (rangesB_ok rng_ok) mix_ok (gamB_ok gam_ok) (orcsOf_ok (List.forall_mem_cons.2 ⟨lFormat_contract, (List.forall_mem_cons.2 ⟨lPages_contract, (List.forall_mem_cons.2 ⟨lAppend_contract, (List.forall_mem_cons.2 ⟨qSameB_contract, (List.forall_mem_cons.2 ⟨lOpen_contract, (List.forall_mem_cons.2 ⟨ran_contract, (List.forall_mem_cons.2 ⟨dInterrupt_contract, (List.forall_mem_cons.2 ⟨dNew_contract, (List.forall_mem_cons.2 ⟨dRead_contract, (fun _ h => nomatch h)⟩)⟩)⟩)⟩)⟩)⟩)⟩)⟩)⟩)) (by kernel_rfl) (fun x h => by
  obtain ⟨F, hF⟩ := law49_awake_plain 
  exact ⟨F, 20, law49_awake_book F, rfl, law49_awake_loOk F, fun kend => (law49_awake_run F  kend).trans (hF none (fun y0 => kend [BV.d .bool y0]))⟩)

end Go.AI
