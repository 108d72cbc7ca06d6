/- The inverse of some matrices. -/
import Derived.Test.YtaoimnfmhdmkmaaVolI0
import Derived.KernelRfl
namespace Go.AI
open Go
open Go.Proofs.Try (prog)
set_option maxRecDepth 100000
theorem inv_run_55 (kend : List BV → Option Unit) : runFnL prog gInvert_book 300 20 39 [.d (.slc (.slc (.int .u8))) (invTab.getD 55 ([], [])).1] [.d (.slc (.slc (.int .u8))), .d (.int .i64)] kend = kend [.d (.slc (.slc (.int .u8))) (invTab.getD 55 ([], [])).2, .d (.int .i64) (0 : Int)] := by kernel_rfl
theorem inv_run_56 (kend : List BV → Option Unit) : runFnL prog gInvert_book 300 20 39 [.d (.slc (.slc (.int .u8))) (invTab.getD 56 ([], [])).1] [.d (.slc (.slc (.int .u8))), .d (.int .i64)] kend = kend [.d (.slc (.slc (.int .u8))) (invTab.getD 56 ([], [])).2, .d (.int .i64) (0 : Int)] := by kernel_rfl
end Go.AI
