/- The matrix of all parts, at the inputs that are asked for. -/
import Derived.Test.YtaoimnfmhdmkmaaVolM
import Derived.KernelRfl
noncomputable section
namespace Go.AI
open Go
open Go.Proofs.Try (prog)

def pMatrix_orcs : List (FuncId × Orc) := [(7, gCauchy_orc)]
def pMatrix_book : BookL Unit := { Γ := gamn22, orc := orcsOf pMatrix_orcs, hint := hintsB [(18, { rg := [(5008, [(5, 22)])] })] }
theorem pMatrix_loOk (F : Nat) : LoOk prog pMatrix_book F := loOk_of (l := []) rfl (fun _ h => nomatch h)
set_option maxRecDepth 100000
theorem mat_run_1_2 (kend : List BV → Option Unit) : runFnL prog pMatrix_book 300 20 18 [.d (.int .i64) (1 : Int), .d (.int .i64) (2 : Int)] [.d (.slc (.slc (.int .u8)))] kend = kend [.d (.slc (.slc (.int .u8))) (pMatrix_r 1 2)] := by kernel_rfl
theorem mat_run_2_2 (kend : List BV → Option Unit) : runFnL prog pMatrix_book 300 20 18 [.d (.int .i64) (2 : Int), .d (.int .i64) (2 : Int)] [.d (.slc (.slc (.int .u8)))] kend = kend [.d (.slc (.slc (.int .u8))) (pMatrix_r 2 2)] := by kernel_rfl
theorem mat_run_3_2 (kend : List BV → Option Unit) : runFnL prog pMatrix_book 300 20 18 [.d (.int .i64) (3 : Int), .d (.int .i64) (2 : Int)] [.d (.slc (.slc (.int .u8)))] kend = kend [.d (.slc (.slc (.int .u8))) (pMatrix_r 3 2)] := by kernel_rfl
theorem mat_run_4_2 (kend : List BV → Option Unit) : runFnL prog pMatrix_book 300 20 18 [.d (.int .i64) (4 : Int), .d (.int .i64) (2 : Int)] [.d (.slc (.slc (.int .u8)))] kend = kend [.d (.slc (.slc (.int .u8))) (pMatrix_r 4 2)] := by kernel_rfl
theorem mat_run_5_2 (kend : List BV → Option Unit) : runFnL prog pMatrix_book 300 20 18 [.d (.int .i64) (5 : Int), .d (.int .i64) (2 : Int)] [.d (.slc (.slc (.int .u8)))] kend = kend [.d (.slc (.slc (.int .u8))) (pMatrix_r 5 2)] := by kernel_rfl
theorem mat_run_6_2 (kend : List BV → Option Unit) : runFnL prog pMatrix_book 300 20 18 [.d (.int .i64) (6 : Int), .d (.int .i64) (2 : Int)] [.d (.slc (.slc (.int .u8)))] kend = kend [.d (.slc (.slc (.int .u8))) (pMatrix_r 6 2)] := by kernel_rfl
theorem mat_run_3_1 (kend : List BV → Option Unit) : runFnL prog pMatrix_book 300 20 18 [.d (.int .i64) (3 : Int), .d (.int .i64) (1 : Int)] [.d (.slc (.slc (.int .u8)))] kend = kend [.d (.slc (.slc (.int .u8))) (pMatrix_r 3 1)] := by kernel_rfl
theorem mat_all (n r : Int) (h : pMatrix_P n r = true) : ∀ kend : List BV → Option Unit, runFnL prog pMatrix_book 300 20 18 [.d (.int .i64) n, .d (.int .i64) r] [.d (.slc (.slc (.int .u8)))] kend = kend [.d (.slc (.slc (.int .u8))) (pMatrix_r n r)] := by
  have hc : (r = 2 ∧ (n = 1 ∨ n = 2 ∨ n = 3 ∨ n = 4 ∨ n = 5 ∨ n = 6)) ∨ (r = 1 ∧ n = 3) := by
    unfold pMatrix_P cauchyIn at h
    simp only [Bool.or_eq_true, Bool.and_eq_true, beq_iff_eq, decide_eq_true_eq] at h
    omega
  rcases hc with ⟨rfl, rfl | rfl | rfl | rfl | rfl | rfl⟩ | ⟨rfl, rfl⟩
  · exact mat_run_1_2
  · exact mat_run_2_2
  · exact mat_run_3_2
  · exact mat_run_4_2
  · exact mat_run_5_2
  · exact mat_run_6_2
  · exact mat_run_3_1
@[reducible] def pMatrix_ps : List PM := [.d (.int .i64), .d (.int .i64)]
def pMatrix_orc : Orc := Orc.of pMatrix_ps false 0 fun x => (pMatrix_P x.1 x.2.1, [.d (.slc (.slc (.int .u8))) (pMatrix_r x.1 x.2.1)])
theorem pMatrix_contract : Contract prog 18 pMatrix_orc := contract_of_runL (B0 := pMatrix_book.toBook) (noNumB_ok num_ok) (rangesB_ok rng_ok) mix_ok (gamB_ok gamn22_ok) (orcsOf_ok (fa gCauchy_contract fz)) (by kernel_rfl)
  (fun x h => ⟨300, 20, pMatrix_book, rfl, pMatrix_loOk 300, mat_all x.1 x.2.1 h⟩)
end Go.AI
