/- The machine runs as the plain functions say. -/
import Derived.Test.YtfpconfgbkoifaaCipherM2
import Derived.Test.YtfpconfgbkoifaaCipherA0
import Derived.KernelRfl
namespace Go.AI
open Go
set_option linter.unusedVariables false

def law47_awake_orc : Orc := Orc.of [] true 0 fun x => (true, [.d .bool (law47_awake_r)])
def law47_awake_orcs : List (FuncId × Orc) := [(11, cBlock_orc), (13, bytes_Equal_orc), (15, cStream_orc), (17, cSeal_orc), (18, cOpen_orc)]
def law47_awake_book0 : Book := { Γ := gam, orc := orcsOf law47_awake_orcs, hint := hintsOf [] }
def law47_awake_lo (F : Nat) : List (LoE Unit) := []
def law47_awake_book (F : Nat) : BookL Unit := { toBook := law47_awake_book0, lo := losOf (law47_awake_lo F), need := needsOf [] }
theorem law47_awake_loOk (F : Nat) : LoOk Go.Proofs.Try.prog (law47_awake_book F) F := loOk_of (l := law47_awake_lo F) rfl (fun _ h => nomatch h)
set_option maxRecDepth 100000 in
theorem law47_awake_run (F : Nat)  (kend : List BV → Option Unit) : runFnL Go.Proofs.Try.prog (law47_awake_book F) F 20 14 [] [.d .bool] kend = law47_awake F  none (fun y0 => kend [BV.d .bool y0]) := by kernel_rfl
theorem law47_awake_contract : Contract Go.Proofs.Try.prog 14 law47_awake_orc := contract_of_runL (B0 := law47_awake_book0) (noNumB_ok num_ok) (rangesB_ok rng_ok) mix_ok (gamB_ok gam_ok) (orcsOf_ok (List.forall_mem_cons.2 ⟨cBlock_contract, (List.forall_mem_cons.2 ⟨bytes_Equal_contract, (List.forall_mem_cons.2 ⟨cStream_contract, (List.forall_mem_cons.2 ⟨cSeal_contract, (List.forall_mem_cons.2 ⟨cOpen_contract, (fun _ h => nomatch h)⟩)⟩)⟩)⟩)⟩)) (by kernel_rfl) (fun x h => by
  obtain ⟨F, hF⟩ := law47_awake_plain 
  exact ⟨F, 20, law47_awake_book F, rfl, law47_awake_loOk F, fun kend => (law47_awake_run F  kend).trans (hF none (fun y0 => kend [BV.d .bool y0]))⟩)

end Go.AI
