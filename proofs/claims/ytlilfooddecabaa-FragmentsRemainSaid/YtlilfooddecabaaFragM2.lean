/- The machine runs as the plain functions say. -/
import Derived.Test.YtlilfooddecabaaFragM
import Derived.Test.YtlilfooddecabaaFragA0
import Derived.KernelRfl
namespace Go.AI
open Go
set_option linter.unusedVariables false

def law46_awake_orc : Orc := Orc.of [] true 0 fun x => (true, [.d .bool (law46_awake_r)])
def law46_awake_orcs : List (FuncId × Orc) := [(13, fAdd_orc), (16, fPlace_orc), (18, fStored_orc), (20, fGroups_orc), (22, qSameGroups_orc)]
def law46_awake_book0 : Book := { Γ := gam, orc := orcsOf law46_awake_orcs, hint := hintsOf [] }
def law46_awake_lo (F : Nat) : List (LoE Unit) := []
def law46_awake_book (F : Nat) : BookL Unit := { toBook := law46_awake_book0, lo := losOf (law46_awake_lo F), need := needsOf [] }
theorem law46_awake_loOk (F : Nat) : LoOk Go.Proofs.Try.prog (law46_awake_book F) F := loOk_of (l := law46_awake_lo F) rfl (fun _ h => nomatch h)
set_option maxRecDepth 100000 in
theorem law46_awake_run (F : Nat)  (kend : List BV → Option Unit) : runFnL Go.Proofs.Try.prog (law46_awake_book F) F 20 12 [] [.d .bool] kend = law46_awake F  none (fun y0 => kend [BV.d .bool y0]) := by kernel_rfl
theorem law46_awake_contract : Contract Go.Proofs.Try.prog 12 law46_awake_orc := contract_of_runL (B0 := law46_awake_book0) (noNumB_ok num_ok) (rangesB_ok rng_ok) mix_ok (gamB_ok gam_ok) (orcsOf_ok (List.forall_mem_cons.2 ⟨fAdd_contract, (List.forall_mem_cons.2 ⟨fPlace_contract, (List.forall_mem_cons.2 ⟨fStored_contract, (List.forall_mem_cons.2 ⟨fGroups_contract, (List.forall_mem_cons.2 ⟨qSameGroups_contract, (fun _ h => nomatch h)⟩)⟩)⟩)⟩)⟩)) (by kernel_rfl) (fun x h => by
  obtain ⟨F, hF⟩ := law46_awake_plain 
  exact ⟨F, 20, law46_awake_book F, rfl, law46_awake_loOk F, fun kend => (law46_awake_run F  kend).trans (hF none (fun y0 => kend [BV.d .bool y0]))⟩)

end Go.AI
