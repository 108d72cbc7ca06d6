/- The machine runs as the plain functions say. -/
import Derived.Test.YtlilfooddecabaaFragM
import Derived.Test.YtlilfooddecabaaFragA0
import Derived.KernelRfl
namespace Go.AI
open Go
open Go.Proofs.Try (prog)
set_option linter.unusedVariables false

@[reducible] def law46_awake_ps : List PM := []
def law46_awake_orc : Orc := Orc.of law46_awake_ps true 0 fun x => (true, [.d .bool (law46_awake_r)])
def law46_awake_orcs : List (FuncId × Orc) := [(13, fAdd_orc), (16, fPlace_orc), (18, fStored_orc), (20, fGroups_orc), (22, qSameGroups_orc)]
def law46_awake_book0 : Book := { Γ := gam, orc := orcsOf law46_awake_orcs, hint := hintsOf [] }
def law46_awake_lo (F : Nat) : List (LoE Unit) := []
def law46_awake_book (F : Nat) : BookL Unit := { toBook := law46_awake_book0, lo := losOf (law46_awake_lo F), need := needsOf [] }
theorem law46_awake_loOk (F : Nat) : LoOk prog (law46_awake_book F) F := loOk_of (l := law46_awake_lo F) rfl fz
set_option maxRecDepth 100000 in
theorem law46_awake_run (F : Nat) (x : ArgsT law46_awake_ps) (kend : List BV → Option Unit) : runFnL prog (law46_awake_book F) F 20 12 (argsInst law46_awake_ps x) [.d .bool] kend = law46_awake F  none (fun y0 => kend [BV.d .bool y0]) := by kernel_rfl
theorem law46_awake_contract : Contract prog 12 law46_awake_orc := con_of (B0 := law46_awake_book0) (noNumB_ok num_ok) (rangesB_ok rng_ok) mix_ok (gamB_ok gam_ok) law46_awake_run (orcsOf_ok (fa fAdd_contract (fa fPlace_contract (fa fStored_contract (fa fGroups_contract (fa qSameGroups_contract fz)))))) (by kernel_rfl) (fun _ => rfl) law46_awake_loOk (fun x _ => (law46_awake_plain ).elim fun F hF => ⟨F, fun kend => hF none _⟩)

end Go.AI
