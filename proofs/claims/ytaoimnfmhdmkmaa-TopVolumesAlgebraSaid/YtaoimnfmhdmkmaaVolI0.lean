/- The inverse of a matrix: what is run, and what is asked of a run. -/
import Derived.Test.YtaoimnfmhdmkmaaVolM
import Derived.KernelRfl
noncomputable section
namespace Go.AI
open Go
open Go.Proofs.Try (prog)

def gInvert_orcs : List (FuncId × Orc) := [(19, gField_orc), (20, tInv_orc), (21, isMat_orc), (22, tMul_orc), (25, sClone_orc)]
def gInvert_book : BookL Unit := { Γ := gamn22, orc := orcsOf gInvert_orcs, hint := hintsB [(39, { rg := [(5023, [(10, 22), (10, 22)])] })] }
theorem gInvert_loOk (F : Nat) : LoOk prog gInvert_book F := loOk_of (l := []) rfl (fun _ h => nomatch h)
/-- A run of the inverse on a matrix. -/
def InvOk (m r : Mat) : Prop := ∀ kend : List BV → Option Unit, runFnL prog gInvert_book 300 20 39 [.d (.slc (.slc (.int .u8))) m] [.d (.slc (.slc (.int .u8))), .d (.int .i64)] kend = kend [.d (.slc (.slc (.int .u8))) r, .d (.int .i64) (0 : Int)]
end Go.AI
