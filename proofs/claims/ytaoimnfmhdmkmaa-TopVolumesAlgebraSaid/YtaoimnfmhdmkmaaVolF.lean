/- The machine runs as the plain functions say. -/
import Derived.Test.YtaoimnfmhdmkmaaVolG
import Derived.Test.YtaoimnfmhdmkmaaTypes
import Derived.KernelRfl
noncomputable section
namespace Go.AI
open Go
open Go.Proofs.Try (prog)
set_option linter.unusedVariables false

@[reducible] def gField_ps : List PM := []
def gField_orc : Orc := Orc.of gField_ps false 0 fun x => (gField_P, [.p (.pair (.arr 255 (.int .u8)) (.pair (.arr 256 (.int .i64)) .unit)) (gField_r)])
def gField_orcs : List (FuncId × Orc) := []
def gField_book : BookL Unit := { Γ := gam, orc := orcsOf gField_orcs, hint := hintsOf [(19, { keep := none, rg := [(5012, [(1, 45)])] })] }
theorem gField_loOk (F : Nat) : LoOk prog gField_book F := loOk_of (l := []) rfl (fun _ h => nomatch h)
set_option maxRecDepth 100000 in
theorem gField_run (kend : List BV → Option Unit) : runFnL prog gField_book 300 20 19 [] [.p (.pair (.arr 255 (.int .u8)) (.pair (.arr 256 (.int .i64)) .unit))] kend = kend [BV.p (.pair (.arr 255 (.int .u8)) (.pair (.arr 256 (.int .i64)) .unit)) gField_r] := by kernel_rfl
theorem gField_contract : Contract prog 19 gField_orc := contract_of_runL (B0 := gField_book.toBook) (noNumB_ok num_ok) (rangesB_ok rng_ok) mix_ok (gamB_ok gam_ok) (orcsOf_ok fz) (by kernel_rfl) (fun _ _ => ⟨300, 20, gField_book, rfl, gField_loOk 300, fun kend => gField_run kend⟩)

end Go.AI
