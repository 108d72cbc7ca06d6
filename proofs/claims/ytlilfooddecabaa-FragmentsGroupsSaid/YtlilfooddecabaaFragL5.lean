/- The machine runs as the plain functions say. -/
import Derived.Test.YtlilfooddecabaaFragR11
import Derived.Test.YtlilfooddecabaaFragP10
import Derived.KernelRfl
namespace Go.AI
open Go
open Go.Proofs.Try (prog)
set_option linter.unusedVariables false

@[reducible] def FragmentsGroups_ps : List PM := [.d (.slc (.int .i64)), .d (.int .i64)]
def FragmentsGroups_orc : Orc := Orc.of FragmentsGroups_ps true 0 fun x => (FragmentsGroups_P x.1 x.2.1, [.d .bool (FragmentsGroups_r x.1 x.2.1)])
def FragmentsGroups_orcs : List (FuncId × Orc) := [(12, law46_awake_orc), (20, fGroups_orc), (21, qGroups_orc), (22, qSameGroups_orc)]
def FragmentsGroups_book0 : Book := { Γ := gam, orc := orcsOf FragmentsGroups_orcs, hint := hintsOf [] }
def FragmentsGroups_lo (F : Nat) : List (LoE Unit) := []
def FragmentsGroups_book (F : Nat) : BookL Unit := { toBook := FragmentsGroups_book0, lo := losOf (FragmentsGroups_lo F), need := needsOf [] }
theorem FragmentsGroups_loOk (F : Nat) : LoOk prog (FragmentsGroups_book F) F := loOk_of (l := FragmentsGroups_lo F) rfl fz
set_option maxRecDepth 100000 in
theorem FragmentsGroups_run (F : Nat) (x : ArgsT FragmentsGroups_ps) (kend : List BV → Option Unit) : runFnL prog (FragmentsGroups_book F) F 20 5 (argsInst FragmentsGroups_ps x) [.d .bool] kend = FragmentsGroups F x.1 x.2.1 none (fun y0 => kend [BV.d .bool y0]) := by kernel_rfl
theorem FragmentsGroups_contract : Contract prog 5 FragmentsGroups_orc := con_of (B0 := FragmentsGroups_book0) (noNumB_ok num_ok) (rangesB_ok rng_ok) mix_ok (gamB_ok gam_ok) FragmentsGroups_run (orcsOf_ok (fa law46_awake_contract (fa fGroups_contract (fa qGroups_contract (fa qSameGroups_contract fz))))) (by kernel_rfl) (fun _ => rfl) FragmentsGroups_loOk (fun x h => (FragmentsGroups_plain x.1 x.2.1 h).elim fun F hF => ⟨F, fun kend => hF none _⟩)

end Go.AI
