/- The inverse of some matrices. -/
import Derived.Test.YtaoimnfmhdmkmaaVolI0
import Derived.KernelRfl
namespace Go.AI
open Go
open Go.Proofs.Try (prog)
set_option maxRecDepth 100000
theorem inv_run_35 (kend : List BV → Option Unit) : runFnL prog gInvert_book 300 20 39 [.d (.slc (.slc (.int .u8))) (invTab.getD 35 ([], [])).1] [.d (.slc (.slc (.int .u8))), .d (.int .i64)] kend = kend [.d (.slc (.slc (.int .u8))) (invTab.getD 35 ([], [])).2, .d (.int .i64) (0 : Int)] := by kernel_rfl
theorem inv_run_36 (kend : List BV → Option Unit) : runFnL prog gInvert_book 300 20 39 [.d (.slc (.slc (.int .u8))) (invTab.getD 36 ([], [])).1] [.d (.slc (.slc (.int .u8))), .d (.int .i64)] kend = kend [.d (.slc (.slc (.int .u8))) (invTab.getD 36 ([], [])).2, .d (.int .i64) (0 : Int)] := by kernel_rfl
theorem inv_run_37 (kend : List BV → Option Unit) : runFnL prog gInvert_book 300 20 39 [.d (.slc (.slc (.int .u8))) (invTab.getD 37 ([], [])).1] [.d (.slc (.slc (.int .u8))), .d (.int .i64)] kend = kend [.d (.slc (.slc (.int .u8))) (invTab.getD 37 ([], [])).2, .d (.int .i64) (0 : Int)] := by kernel_rfl
theorem inv_run_38 (kend : List BV → Option Unit) : runFnL prog gInvert_book 300 20 39 [.d (.slc (.slc (.int .u8))) (invTab.getD 38 ([], [])).1] [.d (.slc (.slc (.int .u8))), .d (.int .i64)] kend = kend [.d (.slc (.slc (.int .u8))) (invTab.getD 38 ([], [])).2, .d (.int .i64) (0 : Int)] := by kernel_rfl
theorem inv_run_39 (kend : List BV → Option Unit) : runFnL prog gInvert_book 300 20 39 [.d (.slc (.slc (.int .u8))) (invTab.getD 39 ([], [])).1] [.d (.slc (.slc (.int .u8))), .d (.int .i64)] kend = kend [.d (.slc (.slc (.int .u8))) (invTab.getD 39 ([], [])).2, .d (.int .i64) (0 : Int)] := by kernel_rfl
end Go.AI
