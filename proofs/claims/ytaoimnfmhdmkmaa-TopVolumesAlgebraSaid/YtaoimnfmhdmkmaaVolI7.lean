/- The inverse of some matrices. -/
import Derived.Test.YtaoimnfmhdmkmaaVolI0
import Derived.KernelRfl
namespace Go.AI
open Go
open Go.Proofs.Try (prog)
set_option maxRecDepth 100000
theorem inv_run_50 (kend : List BV → Option Unit) : runFnL prog gInvert_book 300 20 39 [.d (.slc (.slc (.int .u8))) (invTab.getD 50 ([], [])).1] [.d (.slc (.slc (.int .u8))), .d (.int .i64)] kend = kend [.d (.slc (.slc (.int .u8))) (invTab.getD 50 ([], [])).2, .d (.int .i64) (0 : Int)] := by kernel_rfl
theorem inv_run_51 (kend : List BV → Option Unit) : runFnL prog gInvert_book 300 20 39 [.d (.slc (.slc (.int .u8))) (invTab.getD 51 ([], [])).1] [.d (.slc (.slc (.int .u8))), .d (.int .i64)] kend = kend [.d (.slc (.slc (.int .u8))) (invTab.getD 51 ([], [])).2, .d (.int .i64) (0 : Int)] := by kernel_rfl
theorem inv_run_52 (kend : List BV → Option Unit) : runFnL prog gInvert_book 300 20 39 [.d (.slc (.slc (.int .u8))) (invTab.getD 52 ([], [])).1] [.d (.slc (.slc (.int .u8))), .d (.int .i64)] kend = kend [.d (.slc (.slc (.int .u8))) (invTab.getD 52 ([], [])).2, .d (.int .i64) (0 : Int)] := by kernel_rfl
theorem inv_run_53 (kend : List BV → Option Unit) : runFnL prog gInvert_book 300 20 39 [.d (.slc (.slc (.int .u8))) (invTab.getD 53 ([], [])).1] [.d (.slc (.slc (.int .u8))), .d (.int .i64)] kend = kend [.d (.slc (.slc (.int .u8))) (invTab.getD 53 ([], [])).2, .d (.int .i64) (0 : Int)] := by kernel_rfl
theorem inv_run_54 (kend : List BV → Option Unit) : runFnL prog gInvert_book 300 20 39 [.d (.slc (.slc (.int .u8))) (invTab.getD 54 ([], [])).1] [.d (.slc (.slc (.int .u8))), .d (.int .i64)] kend = kend [.d (.slc (.slc (.int .u8))) (invTab.getD 54 ([], [])).2, .d (.int .i64) (0 : Int)] := by kernel_rfl
end Go.AI
