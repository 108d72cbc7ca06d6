/- The machine runs as the plain functions say. -/
import Derived.Test.YtoabbbechmeggaaDigestM2
import Derived.Test.YtoabbbechmeggaaDigestA0
import Derived.KernelRfl
namespace Go.AI
open Go
set_option linter.unusedVariables false

def law04_awake_orc : Orc := Orc.of [] true 0 fun x => (true, [.d .bool (law04_awake_r)])
def law04_awake_orcs : List (FuncId × Orc) := [(12, dSum_orc), (14, dDerive_orc), (16, dMac_orc), (20, dHex_orc)]
def law04_awake_book0 : Book := { Γ := gam, orc := orcsOf law04_awake_orcs, hint := hintsOf [] }
def law04_awake_lo (F : Nat) : List (LoE Unit) := []
def law04_awake_book (F : Nat) : BookL Unit := { toBook := law04_awake_book0, lo := losOf (law04_awake_lo F), need := needsOf [] }
theorem law04_awake_loOk (F : Nat) : LoOk Go.Proofs.Try.prog (law04_awake_book F) F := loOk_of (l := law04_awake_lo F) rfl (fun _ h => nomatch h)
set_option maxRecDepth 100000 in
theorem law04_awake_run (F : Nat)  (kend : List BV → Option Unit) : runFnL Go.Proofs.Try.prog (law04_awake_book F) F 20 11 [] [.d .bool] kend = law04_awake F  none (fun y0 => kend [BV.d .bool y0]) := by kernel_rfl
theorem law04_awake_contract : Contract Go.Proofs.Try.prog 11 law04_awake_orc := contract_of_runL (B0 := law04_awake_book0) (noNumB_ok num_ok) (rangesB_ok rng_ok) mix_ok (gamB_ok gam_ok) (orcsOf_ok (List.forall_mem_cons.2 ⟨dSum_contract, (List.forall_mem_cons.2 ⟨dDerive_contract, (List.forall_mem_cons.2 ⟨dMac_contract, (List.forall_mem_cons.2 ⟨dHex_contract, (fun _ h => nomatch h)⟩)⟩)⟩)⟩)) (by kernel_rfl) (fun x h => by
  obtain ⟨F, hF⟩ := law04_awake_plain 
  exact ⟨F, 20, law04_awake_book F, rfl, law04_awake_loOk F, fun kend => (law04_awake_run F  kend).trans (hF none (fun y0 => kend [BV.d .bool y0]))⟩)

end Go.AI
