/- What memory holds fits what the laws ask. -/
import Derived.Test.YtoabbbechmeggaaDigestL
import Derived.Test.YtoabbbechmeggaaA5
namespace Go.AI
open Go
theorem DigestSums_wf (x : LawT [.slc (.int .u8)]) (_ : WfArgs [.slc (.int .u8)] x) : DigestSums_P x.1 = true := rfl
theorem DigestWrites_wf (x : LawT [.pair (.arr 8 (.int .u32)) (.pair (.slc (.int .u8)) (.pair (.int .i64) .unit)), .slc (.int .u8)]) (h : WfArgs [.pair (.arr 8 (.int .u32)) (.pair (.slc (.int .u8)) (.pair (.int .i64) .unit)), .slc (.int .u8)] x) : DigestWrites_P x.1 x.2.1 = true := tt h.1.1.1
theorem DigestMacs_wf (x : LawT [.slc (.int .u8), .slc (.int .u8), .int .i64]) (_ : WfArgs [.slc (.int .u8), .slc (.int .u8), .int .i64] x) : DigestMacs_P x.1 x.2.1 x.2.2.1 = true := rfl
theorem DigestTexts_wf (x : LawT [.arr 32 (.int .u8), .str]) (_ : WfArgs [.arr 32 (.int .u8), .str] x) : DigestTexts_P x.1 x.2.1 = true := rfl
theorem DigestParts_wf (x : LawT [.slc (.int .u8), .slc (.int .u8)]) (_ : WfArgs [.slc (.int .u8), .slc (.int .u8)] x) : DigestParts_P x.1 x.2.1 = true := rfl
theorem DigestKeys_wf (x : LawT [.slc (.int .u8), .slc (.int .u8), .int .u8]) (_ : WfArgs [.slc (.int .u8), .slc (.int .u8), .int .u8] x) : DigestKeys_P x.1 x.2.1 x.2.2.1 = true := rfl
theorem DigestRounds_wf (x : LawT [.slc (.int .u8), .slc (.int .u8), .int .u8]) (_ : WfArgs [.slc (.int .u8), .slc (.int .u8), .int .u8] x) : DigestRounds_P x.1 x.2.1 x.2.2.1 = true := rfl
theorem DigestReturns_wf (x : LawT [.arr 32 (.int .u8), .str]) (h : WfArgs [.arr 32 (.int .u8), .str] x) : DigestReturns_P x.1 x.2.1 = true := tt h.1.1
end Go.AI
