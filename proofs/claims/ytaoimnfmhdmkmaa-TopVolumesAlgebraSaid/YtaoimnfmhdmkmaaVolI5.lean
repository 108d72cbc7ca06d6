/- The inverse of some matrices. -/
import Derived.Test.YtaoimnfmhdmkmaaVolI0
import Derived.KernelRfl
namespace Go.AI
open Go
open Go.Proofs.Try (prog)
set_option maxRecDepth 100000
theorem inv_run_40 (kend : List BV → Option Unit) : runFnL prog gInvert_book 300 20 39 [.d (.slc (.slc (.int .u8))) (invTab.getD 40 ([], [])).1] [.d (.slc (.slc (.int .u8))), .d (.int .i64)] kend = kend [.d (.slc (.slc (.int .u8))) (invTab.getD 40 ([], [])).2, .d (.int .i64) (0 : Int)] := by kernel_rfl
theorem inv_run_41 (kend : List BV → Option Unit) : runFnL prog gInvert_book 300 20 39 [.d (.slc (.slc (.int .u8))) (invTab.getD 41 ([], [])).1] [.d (.slc (.slc (.int .u8))), .d (.int .i64)] kend = kend [.d (.slc (.slc (.int .u8))) (invTab.getD 41 ([], [])).2, .d (.int .i64) (0 : Int)] := by kernel_rfl
theorem inv_run_42 (kend : List BV → Option Unit) : runFnL prog gInvert_book 300 20 39 [.d (.slc (.slc (.int .u8))) (invTab.getD 42 ([], [])).1] [.d (.slc (.slc (.int .u8))), .d (.int .i64)] kend = kend [.d (.slc (.slc (.int .u8))) (invTab.getD 42 ([], [])).2, .d (.int .i64) (0 : Int)] := by kernel_rfl
theorem inv_run_43 (kend : List BV → Option Unit) : runFnL prog gInvert_book 300 20 39 [.d (.slc (.slc (.int .u8))) (invTab.getD 43 ([], [])).1] [.d (.slc (.slc (.int .u8))), .d (.int .i64)] kend = kend [.d (.slc (.slc (.int .u8))) (invTab.getD 43 ([], [])).2, .d (.int .i64) (0 : Int)] := by kernel_rfl
theorem inv_run_44 (kend : List BV → Option Unit) : runFnL prog gInvert_book 300 20 39 [.d (.slc (.slc (.int .u8))) (invTab.getD 44 ([], [])).1] [.d (.slc (.slc (.int .u8))), .d (.int .i64)] kend = kend [.d (.slc (.slc (.int .u8))) (invTab.getD 44 ([], [])).2, .d (.int .i64) (0 : Int)] := by kernel_rfl
end Go.AI
