/- The inverse of some matrices. -/
import Derived.Test.YtaoimnfmhdmkmaaVolI0
import Derived.KernelRfl
namespace Go.AI
open Go
open Go.Proofs.Try (prog)
set_option maxRecDepth 100000
theorem inv_run_28 (kend : List BV → Option Unit) : runFnL prog gInvert_book 300 20 39 [.d (.slc (.slc (.int .u8))) (invTab.getD 28 ([], [])).1] [.d (.slc (.slc (.int .u8))), .d (.int .i64)] kend = kend [.d (.slc (.slc (.int .u8))) (invTab.getD 28 ([], [])).2, .d (.int .i64) (0 : Int)] := by kernel_rfl
theorem inv_run_29 (kend : List BV → Option Unit) : runFnL prog gInvert_book 300 20 39 [.d (.slc (.slc (.int .u8))) (invTab.getD 29 ([], [])).1] [.d (.slc (.slc (.int .u8))), .d (.int .i64)] kend = kend [.d (.slc (.slc (.int .u8))) (invTab.getD 29 ([], [])).2, .d (.int .i64) (0 : Int)] := by kernel_rfl
theorem inv_run_30 (kend : List BV → Option Unit) : runFnL prog gInvert_book 300 20 39 [.d (.slc (.slc (.int .u8))) (invTab.getD 30 ([], [])).1] [.d (.slc (.slc (.int .u8))), .d (.int .i64)] kend = kend [.d (.slc (.slc (.int .u8))) (invTab.getD 30 ([], [])).2, .d (.int .i64) (0 : Int)] := by kernel_rfl
theorem inv_run_31 (kend : List BV → Option Unit) : runFnL prog gInvert_book 300 20 39 [.d (.slc (.slc (.int .u8))) (invTab.getD 31 ([], [])).1] [.d (.slc (.slc (.int .u8))), .d (.int .i64)] kend = kend [.d (.slc (.slc (.int .u8))) (invTab.getD 31 ([], [])).2, .d (.int .i64) (0 : Int)] := by kernel_rfl
theorem inv_run_32 (kend : List BV → Option Unit) : runFnL prog gInvert_book 300 20 39 [.d (.slc (.slc (.int .u8))) (invTab.getD 32 ([], [])).1] [.d (.slc (.slc (.int .u8))), .d (.int .i64)] kend = kend [.d (.slc (.slc (.int .u8))) (invTab.getD 32 ([], [])).2, .d (.int .i64) (0 : Int)] := by kernel_rfl
theorem inv_run_33 (kend : List BV → Option Unit) : runFnL prog gInvert_book 300 20 39 [.d (.slc (.slc (.int .u8))) (invTab.getD 33 ([], [])).1] [.d (.slc (.slc (.int .u8))), .d (.int .i64)] kend = kend [.d (.slc (.slc (.int .u8))) (invTab.getD 33 ([], [])).2, .d (.int .i64) (0 : Int)] := by kernel_rfl
theorem inv_run_34 (kend : List BV → Option Unit) : runFnL prog gInvert_book 300 20 39 [.d (.slc (.slc (.int .u8))) (invTab.getD 34 ([], [])).1] [.d (.slc (.slc (.int .u8))), .d (.int .i64)] kend = kend [.d (.slc (.slc (.int .u8))) (invTab.getD 34 ([], [])).2, .d (.int .i64) (0 : Int)] := by kernel_rfl
end Go.AI
