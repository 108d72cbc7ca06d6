/- What memory holds fits what the laws ask. -/
import Derived.Test.YtadpmbipdafjiaaWireL
import Derived.Test.YtadpmbipdafjiaaA5
namespace Go.AI
open Go
theorem i64_of_wf {a : Int} (h : (Sch.int .i64).Wf a) : -9223372036854775808 ≤ a ∧ a < 9223372036854775808 := by
  have h : (Lit.int .i64 (toI .i64 a)).wf = true := h
  simp only [toI, Lit.wf, IntKind.min, IntKind.max, IntKind.signed, IntKind.bits] at h
  simp at h
  omega
theorem WireOrders_wf (x : LawT [.int .i64, .int .i64, .arr 2 (.slc (.int .u8))]) (h : WfArgs [.int .i64, .int .i64, .arr 2 (.slc (.int .u8))] x) : WireOrders_P x.1 x.2.1 x.2.2.1 = true := by
  have h1 := i64_of_wf h.1
  have h2 := i64_of_wf h.2.1
  exact tt ⟨h1.1, h1.2, h2.1, h2.2⟩
theorem WirePuts_wf (x : LawT [.slc (.int .u8), .int .i64]) (h : WfArgs [.slc (.int .u8), .int .i64] x) : WirePuts_P x.1 x.2.1 = true := tt (i64_of_wf h.2.1)
theorem WireReads_wf (x : LawT [.slc (.int .u8)]) (_ : WfArgs [.slc (.int .u8)] x) : WireReads_P x.1 = true := rfl
theorem WireStrings_wf (x : LawT [.slc (.int .u8), .slc (.int .u8), .slc (.int .u8)]) (_ : WfArgs [.slc (.int .u8), .slc (.int .u8), .slc (.int .u8)] x) : WireStrings_P x.1 x.2.1 x.2.2.1 = true := rfl
theorem WireLists_wf (x : LawT [.slc (.int .u8), .slc (.int .i64), .slc (.int .u8)]) (h : WfArgs [.slc (.int .u8), .slc (.int .i64), .slc (.int .u8)] x) : WireLists_P x.1 x.2.1 x.2.2.1 = true :=
  List.all_eq_true.2 fun n hn => tt (i64_of_wf (h.2.1.2 n hn))
end Go.AI
