/- The machine runs as the plain functions say. -/
import Derived.Test.YtadpmbipdafjiaaWireM2
import Derived.Test.YtadpmbipdafjiaaWireC
import Derived.KernelRfl
namespace Go.AI
open Go
set_option linter.unusedVariables false

def law02_awake_orc : Orc := Orc.of [] true 0 fun x => (true, [.d .bool (law02_awake_r)])
def law02_awake_orcs : List (FuncId × Orc) := [(13, wire_PutInt_orc), (15, wire_Size_orc), (19, wire_Int_orc), (23, wire_PutText_orc), (28, wire_PutInts_orc)]
def law02_awake_book : BookL Unit := { Γ := gam, orc := orcsOf law02_awake_orcs, hint := fun _ => { keep := none } }
theorem law02_awake_loOk (F : Nat) : LoOk Go.Proofs.Try.prog law02_awake_book F := loOk_of (l := []) rfl (fun _ h => nomatch h)
set_option maxRecDepth 100000 in
theorem law02_awake_run (kend : List BV → Option Unit) : runFnL Go.Proofs.Try.prog law02_awake_book 200 20 12 [] [.d .bool] kend = kend [BV.d .bool true] := by kernel_rfl
theorem law02_awake_contract : Contract Go.Proofs.Try.prog 12 law02_awake_orc := contract_of_runL (B0 := law02_awake_book.toBook) (noNumB_ok num_ok) mix_ok (gamB_ok gam_ok) (orcsOf_ok (List.forall_mem_cons.2 ⟨wire_PutInt_contract, (List.forall_mem_cons.2 ⟨wire_Size_contract, (List.forall_mem_cons.2 ⟨wire_Int_contract, (List.forall_mem_cons.2 ⟨wire_PutText_contract, (List.forall_mem_cons.2 ⟨wire_PutInts_contract, (fun _ h => nomatch h)⟩)⟩)⟩)⟩)⟩)) (by kernel_rfl) (fun _ _ => ⟨200, 20, law02_awake_book, rfl, law02_awake_loOk 200, fun kend => law02_awake_run kend⟩)

end Go.AI
