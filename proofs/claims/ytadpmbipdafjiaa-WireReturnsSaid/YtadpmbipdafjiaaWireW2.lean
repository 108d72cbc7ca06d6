/- What memory holds fits what the laws about reading back ask. -/
import Derived.Test.YtadpmbipdafjiaaWireL2
import Derived.Test.YtadpmbipdafjiaaWireW
namespace Go.AI
open Go
theorem i16_of_wf {a : Int} (h : (Sch.int .u16).Wf a) : 0 ≤ a ∧ a < 65536 := by
  have h : (Lit.int .u16 (toI .u16 a)).wf = true := h
  simp only [toI, Lit.wf, IntKind.min, IntKind.max, IntKind.signed, IntKind.bits] at h
  simp at h
  omega
theorem WireCanonical_wf (x : LawT [.slc (.int .u8)]) (_ : WfArgs [.slc (.int .u8)] x) : WireCanonical_P x.1 = true := rfl
theorem WireReturns_wf (x : LawT [.slc (.int .i64), .slc (.int .u8), .slc (.int .u8)]) (h : WfArgs [.slc (.int .i64), .slc (.int .u8), .slc (.int .u8)] x) : WireReturns_P x.1 x.2.1 x.2.2.1 = true :=
  List.all_eq_true.2 fun n hn => tt (i64_of_wf (h.1.2 n hn))
theorem WireTears_wf (x : LawT [.slc (.int .i64), .int .i64, .int .u16]) (h : WfArgs [.slc (.int .i64), .int .i64, .int .u16] x) : WireTears_P x.1 x.2.1 x.2.2.1 = true := by
  have h1 := i64_of_wf h.2.1
  have h2 := i16_of_wf h.2.2.1
  show (_ && decide _) = true
  rw [Bool.and_eq_true]
  exact ⟨List.all_eq_true.2 fun n hn => tt (i64_of_wf (h.1.2 n hn)), tt ⟨h1.1, h1.2, h2.1, h2.2⟩⟩
end Go.AI
