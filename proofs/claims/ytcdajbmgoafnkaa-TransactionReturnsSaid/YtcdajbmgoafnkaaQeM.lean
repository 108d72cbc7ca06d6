/- Texts of the proof, joined: Types WireM WireM2 DigestM DigestM2 CipherM CipherM2 DiskM LogM TransM TransM4 TransM2 TransM3 TransL TransW. -/
import Derived.Test.YtcdajbmgoafnkaaProg
import Derived.Test.YtcdajbmgoafnkaaQeA5
import Derived.KernelRfl
import Derived.Test.YtcdajbmgoafnkaaQeWireP
import Derived.Test.YtcdajbmgoafnkaaQeWireP2
import Derived.Test.YtcdajbmgoafnkaaQeDigestP3
import Derived.Test.YtcdajbmgoafnkaaQeDigestP4
import Derived.Test.YtcdajbmgoafnkaaQeCipherP4
import Derived.Test.YtcdajbmgoafnkaaQeDiskP3
import Derived.Test.YtcdajbmgoafnkaaQeLogP7
import Derived.Test.YtcdajbmgoafnkaaQeTransP
import Derived.Test.YtcdajbmgoafnkaaQeTransP2
import Derived.Test.YtcdajbmgoafnkaaQeTransP3
set_option maxRecDepth 100000
namespace Go.AI
abbrev ZO := Option Unit
abbrev ZK := AExit → ASt → ZO
end Go.AI
namespace Go.AI
open Go
def gam  : Gam := [
 none,
 some ⟨.func, 1, none, false⟩,
 some ⟨.other, 1, some (.int .i64), false⟩,
 some ⟨.other, 1, some (.int .i64), false⟩,
 some ⟨.other, 1, some .bool, false⟩,
 some ⟨.other, 1, some (.int .u8), false⟩,
 some ⟨.other, 1, some (.int .u8), false⟩,
 some ⟨(.struct [(0, 2), (1, 3), (2, 4), (3, 6)]), 4, some (.pair (.int .i64) (.pair (.int .i64) (.pair .bool (.pair (.int .u8) .unit)))), false⟩,
 some ⟨(.struct [(0, 2), (1, 3), (2, 4), (3, 6)]), 4, some (.pair (.int .i64) (.pair (.int .i64) (.pair .bool (.pair (.int .u8) .unit)))), false⟩,
 some ⟨.other, 1, some .str, false⟩,
 some ⟨.other, 1, some .str, false⟩,
 some ⟨.other, 1, some .str, false⟩,
 some ⟨.other, 1, some (.int .u64), false⟩,
 some ⟨(.struct [(0, 9), (1, 12)]), 2, some (.pair .str (.pair (.int .u64) .unit)), false⟩,
 some ⟨(.struct [(0, 9), (1, 12)]), 2, some (.pair .str (.pair (.int .u64) .unit)), false⟩,
 some ⟨(.ptr 146), 1, none, false⟩,
 some ⟨(.ptr 149), 1, none, false⟩,
 some ⟨(.ptr 158), 1, none, false⟩,
 some ⟨(.struct [(0, 17)]), 1, none, false⟩,
 some ⟨(.struct [(0, 17)]), 1, none, false⟩,
 some ⟨.other, 1, none, false⟩,
 some ⟨.other, 1, some (.int .i32), false⟩,
 some ⟨(.slice 40), 1, some (.slc (.pair (.int .i64) (.pair (.slc (.int .u8)) .unit))), false⟩,
 some ⟨(.slice 5), 1, some (.slc (.int .u8)), false⟩,
 some ⟨.func, 1, none, false⟩,
 some ⟨.func, 1, none, false⟩,
 some ⟨.other, 1, some (.int .i64), false⟩,
 none,
 some ⟨.func, 1, none, false⟩,
 none,
 some ⟨.func, 1, none, false⟩,
 none,
 some ⟨.func, 1, none, false⟩,
 none,
 some ⟨.func, 1, none, false⟩,
 some ⟨.func, 1, none, false⟩,
 some ⟨.func, 1, none, false⟩,
 some ⟨.func, 1, none, false⟩,
 some ⟨.func, 1, none, false⟩,
 some ⟨(.struct [(0, 3), (1, 23)]), 2, some (.pair (.int .i64) (.pair (.slc (.int .u8)) .unit)), false⟩,
 some ⟨(.struct [(0, 3), (1, 23)]), 2, some (.pair (.int .i64) (.pair (.slc (.int .u8)) .unit)), false⟩,
 some ⟨(.struct [(0, 3), (1, 3), (2, 3)]), 3, some (.pair (.int .i64) (.pair (.int .i64) (.pair (.int .i64) .unit))), true⟩,
 some ⟨(.struct [(0, 3), (1, 3), (2, 3)]), 3, some (.pair (.int .i64) (.pair (.int .i64) (.pair (.int .i64) .unit))), true⟩,
 some ⟨(.slice 48), 1, some (.slc (.pair (.int .i64) (.pair (.int .i64) (.pair (.slc (.arr 16 (.int .u8))) .unit)))), false⟩,
 none,
 some ⟨.func, 1, none, false⟩,
 some ⟨(.slice 89), 1, some (.slc (.arr 16 (.int .u8))), false⟩,
 some ⟨(.struct [(0, 3), (1, 3), (2, 46)]), 3, some (.pair (.int .i64) (.pair (.int .i64) (.pair (.slc (.arr 16 (.int .u8))) .unit))), false⟩,
 some ⟨(.struct [(0, 3), (1, 3), (2, 46)]), 3, some (.pair (.int .i64) (.pair (.int .i64) (.pair (.slc (.arr 16 (.int .u8))) .unit))), false⟩,
 some ⟨.func, 1, none, false⟩,
 some ⟨.func, 1, none, false⟩,
 some ⟨.func, 1, none, false⟩,
 some ⟨.func, 1, none, false⟩,
 some ⟨.func, 1, none, false⟩,
 some ⟨(.ptr 23), 1, none, false⟩,
 some ⟨.func, 1, none, false⟩,
 some ⟨(.ptr 3), 1, none, false⟩,
 some ⟨.func, 1, none, false⟩,
 some ⟨.func, 1, none, false⟩,
 some ⟨.func, 1, none, false⟩,
 none,
 some ⟨.func, 1, none, false⟩,
 some ⟨.func, 1, none, false⟩,
 none,
 some ⟨.func, 1, none, false⟩,
 some ⟨.func, 1, none, false⟩,
 some ⟨.func, 1, none, false⟩,
 some ⟨.func, 1, none, false⟩,
 some ⟨.func, 1, none, false⟩,
 some ⟨.func, 1, none, false⟩,
 some ⟨(.struct [(0, 69)]), 1, none, false⟩,
 some ⟨(.struct [(0, 69)]), 1, none, false⟩,
 none,
 some ⟨.func, 1, none, false⟩,
 some ⟨.other, 1, some (.int .u64), false⟩,
 none,
 some ⟨.func, 1, none, false⟩,
 some ⟨.func, 1, none, false⟩,
 some ⟨.func, 1, none, false⟩,
 some ⟨(.array 32 5), 32, some (.arr 32 (.int .u8)), true⟩,
 some ⟨(.array 32 5), 32, some (.arr 32 (.int .u8)), true⟩,
 none,
 some ⟨.func, 1, none, false⟩,
 some ⟨.func, 1, none, false⟩,
 some ⟨.func, 1, none, false⟩,
 some ⟨.func, 1, none, false⟩,
 some ⟨.func, 1, none, false⟩,
 some ⟨.func, 1, none, false⟩,
 some ⟨(.array 16 5), 16, some (.arr 16 (.int .u8)), true⟩,
 some ⟨(.array 16 5), 16, some (.arr 16 (.int .u8)), true⟩,
 some ⟨.func, 1, none, false⟩,
 some ⟨.func, 1, none, false⟩,
 some ⟨.func, 1, none, false⟩,
 some ⟨.func, 1, none, false⟩,
 some ⟨.func, 1, none, false⟩,
 some ⟨.func, 1, none, false⟩,
 some ⟨.func, 1, none, false⟩,
 some ⟨.func, 1, none, false⟩,
 some ⟨.func, 1, none, false⟩,
 some ⟨.func, 1, none, false⟩,
 some ⟨.func, 1, none, false⟩,
 some ⟨.other, 1, some (.int .u32), false⟩,
 some ⟨.func, 1, none, false⟩,
 some ⟨.func, 1, none, false⟩,
 some ⟨.func, 1, none, false⟩,
 some ⟨.other, 1, some (.int .u64), false⟩,
 some ⟨.func, 1, none, false⟩,
 some ⟨(.array 8 101), 8, some (.arr 8 (.int .u32)), true⟩,
 some ⟨(.struct [(0, 107), (8, 23), (9, 3)]), 10, some (.pair (.arr 8 (.int .u32)) (.pair (.slc (.int .u8)) (.pair (.int .i64) .unit))), false⟩,
 some ⟨(.struct [(0, 107), (8, 23), (9, 3)]), 10, some (.pair (.arr 8 (.int .u32)) (.pair (.slc (.int .u8)) (.pair (.int .i64) .unit))), false⟩,
 some ⟨.func, 1, none, false⟩,
 some ⟨.func, 1, none, false⟩,
 some ⟨(.array 16 101), 16, some (.arr 16 (.int .u32)), true⟩,
 some ⟨(.array 16 101), 16, some (.arr 16 (.int .u32)), true⟩,
 some ⟨.func, 1, none, false⟩,
 some ⟨.func, 1, none, false⟩,
 some ⟨.other, 1, some (.int .u32), false⟩,
 some ⟨(.array 8 116), 8, some (.arr 8 (.int .u32)), true⟩,
 some ⟨(.array 8 116), 8, some (.arr 8 (.int .u32)), true⟩,
 some ⟨.func, 1, none, false⟩,
 some ⟨.func, 1, none, false⟩,
 some ⟨(.ptr 113), 1, none, false⟩,
 some ⟨.func, 1, none, false⟩,
 some ⟨.func, 1, none, false⟩,
 some ⟨.func, 1, none, false⟩,
 some ⟨.func, 1, none, false⟩,
 some ⟨.func, 1, none, false⟩,
 some ⟨.func, 1, none, false⟩,
 some ⟨.func, 1, none, false⟩,
 some ⟨.func, 1, none, false⟩,
 some ⟨.func, 1, none, false⟩,
 some ⟨.func, 1, none, false⟩,
 some ⟨.func, 1, none, false⟩,
 some ⟨(.struct [(0, 3), (1, 3), (2, 3), (3, 3)]), 4, some (.pair (.int .i64) (.pair (.int .i64) (.pair (.int .i64) (.pair (.int .i64) .unit)))), true⟩,
 some ⟨(.array 4 133), 16, some (.arr 4 (.pair (.int .i64) (.pair (.int .i64) (.pair (.int .i64) (.pair (.int .i64) .unit))))), true⟩,
 some ⟨.func, 1, none, false⟩,
 some ⟨(.array 256 101), 256, some (.arr 256 (.int .u32)), true⟩,
 some ⟨.func, 1, none, false⟩,
 some ⟨.func, 1, none, false⟩,
 some ⟨.func, 1, none, false⟩,
 some ⟨(.array 16 116), 16, some (.arr 16 (.int .u32)), true⟩,
 some ⟨(.array 64 116), 64, some (.arr 64 (.int .u32)), true⟩,
 some ⟨.func, 1, none, false⟩,
 some ⟨.func, 1, none, false⟩,
 some ⟨.func, 1, none, false⟩,
 some ⟨(.struct [(0, 17), (1, 17), (2, 17), (3, 9)]), 4, none, false⟩,
 some ⟨(.struct [(0, 17), (1, 17), (2, 17), (3, 9)]), 4, none, false⟩,
 some ⟨(.array 0 16), 0, none, false⟩,
 some ⟨(.struct [(0, 147)]), 0, none, false⟩,
 some ⟨(.struct [(0, 147)]), 0, none, false⟩,
 some ⟨.func, 1, none, false⟩,
 some ⟨.other, 1, some (.int .u8), false⟩,
 some ⟨.other, 1, some (.int .u8), false⟩,
 some ⟨.func, 1, none, false⟩,
 some ⟨(.ptr 5), 1, none, false⟩,
 some ⟨.other, 1, some (.int .i32), false⟩,
 some ⟨.other, 1, some (.int .i32), false⟩,
 some ⟨(.struct [(0, 12), (1, 12), (2, 101), (3, 151), (4, 5), (5, 5), (6, 152), (7, 153), (8, 154), (9, 155), (10, 156)]), 11, none, false⟩,
 some ⟨(.struct [(0, 12), (1, 12), (2, 101), (3, 151), (4, 5), (5, 5), (6, 152), (7, 153), (8, 154), (9, 155), (10, 156)]), 11, none, false⟩,
 some ⟨.other, 1, none, false⟩]
theorem gam_ok  : gamB Go.Proofs.Try.prog gam = true := by kernel_rfl
theorem num_ok  : noNumB Go.Proofs.Try.prog = true := by kernel_rfl
theorem rng_ok  : rangesB Go.Proofs.Try.prog = true := by kernel_rfl
theorem mix_ok  : Go.Proofs.Try.prog.follows .mixedOrders = true := by kernel_rfl
theorem zN  : NoNum Go.Proofs.Try.prog := noNumB_ok num_ok
theorem zG  : RangesOk Go.Proofs.Try.prog := rangesB_ok rng_ok
theorem zT  : GamOk Go.Proofs.Try.prog gam := gamB_ok gam_ok
end Go.AI
namespace Go.AI
open Go
open Go.Proofs.Try (prog)
set_option linter.unusedVariables false
@[reducible] def bits_Len64_ps  : List PM := [.d (.int .u64)]
def bits_Len64_orc  : Orc := Orc.of bits_Len64_ps true 0 fun x => (bits_Len64_P x.1, [.d (.int .i64) (bits_Len64_r x.1)])
def bits_Len64_orcs  : List (FuncId × Orc) := []
def bits_Len64_book0  : Book := { Γ := gam, orc := orcsOf bits_Len64_orcs, hint := hintsOf [] }
def bits_Len64_lo (F : Nat) : List (LoE Unit) := []
def bits_Len64_book (F : Nat) : BookL Unit := { toBook := bits_Len64_book0, lo := losOf (bits_Len64_lo F), need := needsOf [] }
theorem bits_Len64_loOk (F : Nat) : LoOk prog (bits_Len64_book F) F := loOk_of (l := bits_Len64_lo F) rfl fz
theorem bits_Len64_run (F : Nat) (x : ArgsT bits_Len64_ps) (kend : List BV → ZO) : runFnL prog (bits_Len64_book F) F 20 66 (argsInst bits_Len64_ps x) [.d (.int .i64)] kend = bits_Len64 F x.1 none (fun y0 => kend [BV.d (.int .i64) y0]) := by kernel_rfl
theorem bits_Len64_contract  : Contract prog 66 bits_Len64_orc := con_of (B0 := bits_Len64_book0) zN zG mix_ok zT bits_Len64_run (orcsOf_ok fz) (by kernel_rfl) (fun _ => rfl) bits_Len64_loOk (fun x h => (bits_Len64_plain x.1 h).elim fun F hF => ⟨F, fun kend => hF none _⟩)
@[reducible] def bits_Len8_ps  : List PM := [.d (.int .u8)]
def bits_Len8_orc  : Orc := Orc.of bits_Len8_ps true 0 fun x => (true, [.d (.int .i64) (bits_Len8_r x.1)])
def bits_Len8_orcs  : List (FuncId × Orc) := []
def bits_Len8_book0  : Book := { Γ := gam, orc := orcsOf bits_Len8_orcs, hint := hintsOf [] }
def bits_Len8_lo (F : Nat) : List (LoE Unit) := []
def bits_Len8_book (F : Nat) : BookL Unit := { toBook := bits_Len8_book0, lo := losOf (bits_Len8_lo F), need := needsOf [] }
theorem bits_Len8_loOk (F : Nat) : LoOk prog (bits_Len8_book F) F := loOk_of (l := bits_Len8_lo F) rfl fz
theorem bits_Len8_run (F : Nat) (x : ArgsT bits_Len8_ps) (kend : List BV → ZO) : runFnL prog (bits_Len8_book F) F 20 55 (argsInst bits_Len8_ps x) [.d (.int .i64)] kend = bits_Len8 F x.1 none (fun y0 => kend [BV.d (.int .i64) y0]) := by kernel_rfl
theorem bits_Len8_contract  : Contract prog 55 bits_Len8_orc := con_of (B0 := bits_Len8_book0) zN zG mix_ok zT bits_Len8_run (orcsOf_ok fz) (by kernel_rfl) (fun _ => rfl) bits_Len8_loOk (fun x _ => (bits_Len8_plain x.1).elim fun F hF => ⟨F, fun kend => hF none _⟩)
@[reducible] def bits_Len_ps  : List PM := [.d (.int .u64)]
def bits_Len_orc  : Orc := Orc.of bits_Len_ps true 0 fun x => (bits_Len_P x.1, [.d (.int .i64) (bits_Len_r x.1)])
def bits_Len_orcs  : List (FuncId × Orc) := [(66, bits_Len64_orc)]
def bits_Len_book0  : Book := { Γ := gam, orc := orcsOf bits_Len_orcs, hint := hintsOf [] }
def bits_Len_lo (F : Nat) : List (LoE Unit) := []
def bits_Len_book (F : Nat) : BookL Unit := { toBook := bits_Len_book0, lo := losOf (bits_Len_lo F), need := needsOf [] }
theorem bits_Len_loOk (F : Nat) : LoOk prog (bits_Len_book F) F := loOk_of (l := bits_Len_lo F) rfl fz
theorem bits_Len_run (F : Nat) (x : ArgsT bits_Len_ps) (kend : List BV → ZO) : runFnL prog (bits_Len_book F) F 20 56 (argsInst bits_Len_ps x) [.d (.int .i64)] kend = bits_Len F x.1 none (fun y0 => kend [BV.d (.int .i64) y0]) := by kernel_rfl
theorem bits_Len_contract  : Contract prog 56 bits_Len_orc := con_of (B0 := bits_Len_book0) zN zG mix_ok zT bits_Len_run (orcsOf_ok (fa bits_Len64_contract fz)) (by kernel_rfl) (fun _ => rfl) bits_Len_loOk (fun x h => (bits_Len_plain x.1 h).elim fun F hF => ⟨F, fun kend => hF none _⟩)
@[reducible] def bits_LeadingZeros8_ps  : List PM := [.d (.int .u8)]
def bits_LeadingZeros8_orc  : Orc := Orc.of bits_LeadingZeros8_ps true 0 fun x => (true, [.d (.int .i64) (bits_LeadingZeros8_r x.1)])
def bits_LeadingZeros8_orcs  : List (FuncId × Orc) := [(55, bits_Len8_orc)]
def bits_LeadingZeros8_book0  : Book := { Γ := gam, orc := orcsOf bits_LeadingZeros8_orcs, hint := hintsOf [] }
def bits_LeadingZeros8_lo (F : Nat) : List (LoE Unit) := []
def bits_LeadingZeros8_book (F : Nat) : BookL Unit := { toBook := bits_LeadingZeros8_book0, lo := losOf (bits_LeadingZeros8_lo F), need := needsOf [] }
theorem bits_LeadingZeros8_loOk (F : Nat) : LoOk prog (bits_LeadingZeros8_book F) F := loOk_of (l := bits_LeadingZeros8_lo F) rfl fz
theorem bits_LeadingZeros8_run (F : Nat) (x : ArgsT bits_LeadingZeros8_ps) (kend : List BV → ZO) : runFnL prog (bits_LeadingZeros8_book F) F 20 39 (argsInst bits_LeadingZeros8_ps x) [.d (.int .i64)] kend = bits_LeadingZeros8 F x.1 none (fun y0 => kend [BV.d (.int .i64) y0]) := by kernel_rfl
theorem bits_LeadingZeros8_contract  : Contract prog 39 bits_LeadingZeros8_orc := con_of (B0 := bits_LeadingZeros8_book0) zN zG mix_ok zT bits_LeadingZeros8_run (orcsOf_ok (fa bits_Len8_contract fz)) (by kernel_rfl) (fun _ => rfl) bits_LeadingZeros8_loOk (fun x _ => (bits_LeadingZeros8_plain x.1).elim fun F hF => ⟨F, fun kend => hF none _⟩)
@[reducible] def wire_number_ps  : List PM := [.d (.int .i64)]
def wire_number_orc  : Orc := Orc.of wire_number_ps true 0 fun x => (true, [.d (.int .i64) (wire_number_r x.1)])
def wire_number_orcs  : List (FuncId × Orc) := []
def wire_number_book0  : Book := { Γ := gam, orc := orcsOf wire_number_orcs, hint := hintsOf [] }
def wire_number_lo (F : Nat) : List (LoE Unit) := []
def wire_number_book (F : Nat) : BookL Unit := { toBook := wire_number_book0, lo := losOf (wire_number_lo F), need := needsOf [] }
theorem wire_number_loOk (F : Nat) : LoOk prog (wire_number_book F) F := loOk_of (l := wire_number_lo F) rfl fz
theorem wire_number_run (F : Nat) (x : ArgsT wire_number_ps) (kend : List BV → ZO) : runFnL prog (wire_number_book F) F 20 54 (argsInst wire_number_ps x) [.d (.int .i64)] kend = wire_number F x.1 none (fun y0 => kend [BV.d (.int .i64) y0]) := by kernel_rfl
theorem wire_number_contract  : Contract prog 54 wire_number_orc := con_of (B0 := wire_number_book0) zN zG mix_ok zT wire_number_run (orcsOf_ok fz) (by kernel_rfl) (fun _ => rfl) wire_number_loOk (fun x _ => (wire_number_plain x.1).elim fun F hF => ⟨F, fun kend => hF none _⟩)
@[reducible] def wire_further_ps  : List PM := [.d (.int .i64)]
def wire_further_orc  : Orc := Orc.of wire_further_ps true 0 fun x => (wire_further_P x.1, [.d (.int .i64) (wire_further_r x.1)])
def wire_further_orcs  : List (FuncId × Orc) := [(56, bits_Len_orc)]
def wire_further_book0  : Book := { Γ := gam, orc := orcsOf wire_further_orcs, hint := hintsOf [] }
def wire_further_lo (F : Nat) : List (LoE Unit) := []
def wire_further_book (F : Nat) : BookL Unit := { toBook := wire_further_book0, lo := losOf (wire_further_lo F), need := needsOf [] }
theorem wire_further_loOk (F : Nat) : LoOk prog (wire_further_book F) F := loOk_of (l := wire_further_lo F) rfl fz
theorem wire_further_run (F : Nat) (x : ArgsT wire_further_ps) (kend : List BV → ZO) : runFnL prog (wire_further_book F) F 20 40 (argsInst wire_further_ps x) [.d (.int .i64)] kend = wire_further F x.1 none (fun y0 => kend [BV.d (.int .i64) y0]) := by kernel_rfl
theorem wire_further_contract  : Contract prog 40 wire_further_orc := con_of (B0 := wire_further_book0) zN zG mix_ok zT wire_further_run (orcsOf_ok (fa bits_Len_contract fz)) (by kernel_rfl) (fun _ => rfl) wire_further_loOk (fun x h => (wire_further_plain x.1 h).elim fun F hF => ⟨F, fun kend => hF none _⟩)
@[reducible] def clone_byte_ps  : List PM := [.d (.slc (.int .u8))]
def clone_byte_orc  : Orc := Orc.of clone_byte_ps true 1 fun x => (clone_byte_P x.1, [.o 5 (.int .u8) (clone_byte_r x.1)])
def clone_byte_orcs  : List (FuncId × Orc) := []
def clone_byte_book0  : Book := { Γ := gam, orc := orcsOf clone_byte_orcs, hint := hintsOf [] }
def clone_byte_lo (F : Nat) : List (LoE Unit) := []
def clone_byte_book (F : Nat) : BookL Unit := { toBook := clone_byte_book0, lo := losOf (clone_byte_lo F), need := needsOf [] }
theorem clone_byte_loOk (F : Nat) : LoOk prog (clone_byte_book F) F := loOk_of (l := clone_byte_lo F) rfl fz
theorem clone_byte_run (F : Nat) (x : ArgsT clone_byte_ps) (kend : List BV → ZO) : runFnL prog (clone_byte_book F) F 20 33 (argsInst clone_byte_ps x) [.o 5 (.int .u8)] kend = clone_byte F x.1 none both (fun y0 => kend [BV.o 5 (.int .u8) y0]) := by kernel_rfl
theorem clone_byte_contract  : Contract prog 33 clone_byte_orc := con_of (B0 := clone_byte_book0) zN zG mix_ok zT clone_byte_run (orcsOf_ok fz) (by kernel_rfl) (fun _ => rfl) clone_byte_loOk (fun x h => (clone_byte_plain x.1 h).elim fun F hF => ⟨F, fun kend => hF none both both_self _⟩)
@[reducible] def wire_put_ps  : List PM := [.o 5 (.int .u8), .d (.int .i64)]
def wire_put_orc  : Orc := Orc.of wire_put_ps true 1 fun x => (wire_put_P x.1 x.2.1, [.o 5 (.int .u8) (wire_put_r x.1 x.2.1)])
@[reducible] def wire_put_l1_T  : Tpl := { cur := ⟨[(0, .row 0), (0, .var (.int .i64)), (5, .var (.int .i64))], 32⟩, stk := [⟨[], 0⟩], heap := [.row 5 (.int .u8) false] }
def wire_put_orcs  : List (FuncId × Orc) := [(40, wire_further_orc), (54, wire_number_orc)]
def wire_put_book0  : Book := { Γ := gam, orc := orcsOf wire_put_orcs, hint := hintsOf [(32, { keep := some [0, 1, 7], keeps := [(6, [0, 1, 7])], own := [], dat := [], stk := [] })] }
def wire_put_l1_G (F : Nat) (nx : wire_put_l1_T.T → ZO) (kq : ZK) (x : wire_put_l1_T.T) : ZO := wire_put_l1 F none (fun n i dst => nx (((), (n, (i, ()))), (((), ()), (dst, ())))) (fun y0 y1 y2 => kq (.exit 0) (wire_put_l1_T.inst (((), (y0, (y1, ()))), (((), ()), (y2, ()))))) x.1.2.1 x.1.2.2.1 x.2.2.1
def wire_put_l1_R (F m : Nat) (x : wire_put_l1_T.T) (kq : ZK) : ZO := wire_put_l1F F none (fun y0 y1 y2 => kq (.exit 0) (wire_put_l1_T.inst (((), (y0, (y1, ()))), (((), ()), (y2, ()))))) m x.1.2.1 x.1.2.2.1 x.2.2.1
def wire_put_lo (F : Nat) : List (LoE Unit) := [⟨32, 6, LO.of wire_put_l1_T (wire_put_l1_R F F)⟩]
def wire_put_book (F : Nat) : BookL Unit := { toBook := wire_put_book0, lo := losOf (wire_put_lo F), need := needsOf [] }
theorem wire_put_l1_step (F : Nat) : LStep prog (wire_put_book F) F 32 0 6 wire_put_l1_T (wire_put_l1_G F) := fun d x KQ => by kernel_rfl
theorem wire_put_loOk (F : Nat) : LoOk prog (wire_put_book F) F := loOk_of (l := wire_put_lo F) rfl (fa (loOne_of 0 (by kernel_rfl) (by kernel_rfl) (lstep_run (wire_put_l1_step F) (fun _ _ => rfl) (fun _ _ _ _ => rfl))) fz)
theorem wire_put_run (F : Nat) (x : ArgsT wire_put_ps) (kend : List BV → ZO) : runFnL prog (wire_put_book F) F 20 32 (argsInst wire_put_ps x) [.o 5 (.int .u8)] kend = wire_put F x.1 x.2.1 none (fun y0 => kend [BV.o 5 (.int .u8) y0]) := by kernel_rfl
theorem wire_put_contract  : Contract prog 32 wire_put_orc := con_of (B0 := wire_put_book0) zN zG mix_ok zT wire_put_run (orcsOf_ok (fa wire_further_contract (fa wire_number_contract fz))) (by kernel_rfl) (fun _ => rfl) wire_put_loOk (fun x h => (wire_put_plain x.1 x.2.1 h).elim fun F hF => ⟨F, fun kend => hF none _⟩)
@[reducible] def wire_PutInt_ps  : List PM := [.d (.slc (.int .u8)), .d (.int .i64)]
def wire_PutInt_orc  : Orc := Orc.of wire_PutInt_ps true 1 fun x => (wire_PutInt_P x.1 x.2.1, [.o 5 (.int .u8) (wire_PutInt_r x.1 x.2.1)])
def wire_PutInt_orcs  : List (FuncId × Orc) := [(32, wire_put_orc), (33, clone_byte_orc)]
def wire_PutInt_book0  : Book := { Γ := gam, orc := orcsOf wire_PutInt_orcs, hint := hintsOf [] }
def wire_PutInt_lo (F : Nat) : List (LoE Unit) := []
def wire_PutInt_book (F : Nat) : BookL Unit := { toBook := wire_PutInt_book0, lo := losOf (wire_PutInt_lo F), need := needsOf [] }
theorem wire_PutInt_loOk (F : Nat) : LoOk prog (wire_PutInt_book F) F := loOk_of (l := wire_PutInt_lo F) rfl fz
theorem wire_PutInt_run (F : Nat) (x : ArgsT wire_PutInt_ps) (kend : List BV → ZO) : runFnL prog (wire_PutInt_book F) F 20 16 (argsInst wire_PutInt_ps x) [.o 5 (.int .u8)] kend = wire_PutInt F x.1 x.2.1 none (fun y0 => kend [BV.o 5 (.int .u8) y0]) := by kernel_rfl
theorem wire_PutInt_contract  : Contract prog 16 wire_PutInt_orc := con_of (B0 := wire_PutInt_book0) zN zG mix_ok zT wire_PutInt_run (orcsOf_ok (fa wire_put_contract (fa clone_byte_contract fz))) (by kernel_rfl) (fun _ => rfl) wire_PutInt_loOk (fun x h => (wire_PutInt_plain x.1 x.2.1 h).elim fun F hF => ⟨F, fun kend => hF none _⟩)
@[reducible] def wire_Int_ps  : List PM := [.d (.slc (.int .u8))]
def wire_Int_orc  : Orc := Orc.of wire_Int_ps false 0 fun x => (wire_Int_P x.1, [.d (.int .i64) (wire_Int_r0 x.1), .d (.slc (.int .u8)) (wire_Int_r1 x.1), .d (.int .i64) (wire_Int_r2 x.1)])
@[reducible] def wire_Int_l1_T  : Tpl := { cur := ⟨[(0, .var (.slc (.int .u8))), (4, .var (.int .i64)), (0, .var (.int .i64)), (26, .var (.slc (.int .u8))), (0, .var (.int .i64)), (0, .var (.int .i64))], 23⟩, stk := [⟨[], 0⟩], heap := [] }
def wire_Int_orcs  : List (FuncId × Orc) := [(33, clone_byte_orc), (39, bits_LeadingZeros8_orc), (40, wire_further_orc)]
def wire_Int_book0  : Book := { Γ := gam, orc := orcsOf wire_Int_orcs, hint := hintsOf [(22, { keep := some [0, 5, 6, 33, 34, 35], keeps := [(10, [0, 5, 6, 33, 34, 35])], own := [], dat := [], stk := [] })] }
def wire_Int_l1_G (F : Nat) (nx : wire_Int_l1_T.T → ZO) (kq : ZK) (x : wire_Int_l1_T.T) : ZO := wire_Int_l1 F none (fun src k n s33 s34 s35 => nx ((src, (k, (n, (s33, (s34, (s35, ())))))), (((), ()), ()))) (fun y0 y1 y2 y3 y4 y5 => kq (.exit 0) (wire_Int_l1_T.inst ((y0, (y1, (y2, (y3, (y4, (y5, ())))))), (((), ()), ())))) x.1.1 x.1.2.1 x.1.2.2.1 x.1.2.2.2.1 x.1.2.2.2.2.1 x.1.2.2.2.2.2.1
def wire_Int_l1_R (F m : Nat) (x : wire_Int_l1_T.T) (kq : ZK) : ZO := wire_Int_l1F F none (fun y0 y1 y2 y3 y4 y5 => kq (.exit 0) (wire_Int_l1_T.inst ((y0, (y1, (y2, (y3, (y4, (y5, ())))))), (((), ()), ())))) m x.1.1 x.1.2.1 x.1.2.2.1 x.1.2.2.2.1 x.1.2.2.2.2.1 x.1.2.2.2.2.2.1
def wire_Int_lo (F : Nat) : List (LoE Unit) := [⟨22, 10, LO.of wire_Int_l1_T (wire_Int_l1_R F F)⟩]
def wire_Int_book (F : Nat) : BookL Unit := { toBook := wire_Int_book0, lo := losOf (wire_Int_lo F), need := needsOf [] }
theorem wire_Int_l1_step (F : Nat) : LStep prog (wire_Int_book F) F 22 0 10 wire_Int_l1_T (wire_Int_l1_G F) := fun d x KQ => by kernel_rfl
theorem wire_Int_loOk (F : Nat) : LoOk prog (wire_Int_book F) F := loOk_of (l := wire_Int_lo F) rfl (fa (loOne_of 0 (by kernel_rfl) (by kernel_rfl) (lstep_run (wire_Int_l1_step F) (fun _ _ => rfl) (fun _ _ _ _ => rfl))) fz)
theorem wire_Int_run (F : Nat) (x : ArgsT wire_Int_ps) (kend : List BV → ZO) : runFnL prog (wire_Int_book F) F 20 22 (argsInst wire_Int_ps x) [.d (.int .i64), .d (.slc (.int .u8)), .d (.int .i64)] kend = wire_Int F x.1 none (fun y0 y1 y2 => kend [BV.d (.int .i64) y0, BV.d (.slc (.int .u8)) y1, BV.d (.int .i64) y2]) := by kernel_rfl
theorem wire_Int_contract  : Contract prog 22 wire_Int_orc := con_of (B0 := wire_Int_book0) zN zG mix_ok zT wire_Int_run (orcsOf_ok (fa clone_byte_contract (fa bits_LeadingZeros8_contract (fa wire_further_contract fz)))) (by kernel_rfl) (fun _ => rfl) wire_Int_loOk (fun x h => (wire_Int_plain x.1 h).elim fun F hF => ⟨F, fun kend => hF none _⟩)
@[reducible] def ref02_power_ps  : List PM := [.d (.int .i64)]
def ref02_power_orc  : Orc := Orc.of ref02_power_ps true 0 fun x => (ref02_power_P x.1, [.d (.int .i64) (ref02_power_r x.1)])
@[reducible] def ref02_power_l1_T  : Tpl := { cur := ⟨[(0, .var (.int .i64)), (2, .var (.int .i64)), (0, .var (.int .i64))], 8⟩, stk := [⟨[], 0⟩], heap := [] }
def ref02_power_orcs  : List (FuncId × Orc) := []
def ref02_power_book0  : Book := { Γ := gam, orc := orcsOf ref02_power_orcs, hint := hintsOf [(38, { keep := some [0, 3, 4], keeps := [(3, [0, 3, 4])], own := [], dat := [], stk := [] })] }
def ref02_power_l1_G (F : Nat) (nx : ref02_power_l1_T.T → ZO) (kq : ZK) (x : ref02_power_l1_T.T) : ZO := ref02_power_l1 F none (fun n p i => nx ((n, (p, (i, ()))), (((), ()), ()))) (fun y0 y1 y2 => kq (.exit 0) (ref02_power_l1_T.inst ((y0, (y1, (y2, ()))), (((), ()), ())))) x.1.1 x.1.2.1 x.1.2.2.1
def ref02_power_l1_R (F m : Nat) (x : ref02_power_l1_T.T) (kq : ZK) : ZO := ref02_power_l1F F none (fun y0 y1 y2 => kq (.exit 0) (ref02_power_l1_T.inst ((y0, (y1, (y2, ()))), (((), ()), ())))) m x.1.1 x.1.2.1 x.1.2.2.1
def ref02_power_lo (F : Nat) : List (LoE Unit) := [⟨38, 3, LO.of ref02_power_l1_T (ref02_power_l1_R F F)⟩]
def ref02_power_book (F : Nat) : BookL Unit := { toBook := ref02_power_book0, lo := losOf (ref02_power_lo F), need := needsOf [] }
theorem ref02_power_l1_step (F : Nat) : LStep prog (ref02_power_book F) F 38 0 3 ref02_power_l1_T (ref02_power_l1_G F) := fun d x KQ => by kernel_rfl
theorem ref02_power_loOk (F : Nat) : LoOk prog (ref02_power_book F) F := loOk_of (l := ref02_power_lo F) rfl (fa (loOne_of 0 (by kernel_rfl) (by kernel_rfl) (lstep_run (ref02_power_l1_step F) (fun _ _ => rfl) (fun _ _ _ _ => rfl))) fz)
theorem ref02_power_run (F : Nat) (x : ArgsT ref02_power_ps) (kend : List BV → ZO) : runFnL prog (ref02_power_book F) F 20 38 (argsInst ref02_power_ps x) [.d (.int .i64)] kend = ref02_power F x.1 none (fun y0 => kend [BV.d (.int .i64) y0]) := by kernel_rfl
theorem ref02_power_contract  : Contract prog 38 ref02_power_orc := con_of (B0 := ref02_power_book0) zN zG mix_ok zT ref02_power_run (orcsOf_ok fz) (by kernel_rfl) (fun _ => rfl) ref02_power_loOk (fun x h => (ref02_power_plain x.1 h).elim fun F hF => ⟨F, fun kend => hF none _⟩)
@[reducible] def ref02_number_ps  : List PM := [.d (.int .i64)]
def ref02_number_orc  : Orc := Orc.of ref02_number_ps true 0 fun x => (true, [.d (.int .i64) (ref02_number_r x.1)])
def ref02_number_orcs  : List (FuncId × Orc) := []
def ref02_number_book0  : Book := { Γ := gam, orc := orcsOf ref02_number_orcs, hint := hintsOf [] }
def ref02_number_lo (F : Nat) : List (LoE Unit) := []
def ref02_number_book (F : Nat) : BookL Unit := { toBook := ref02_number_book0, lo := losOf (ref02_number_lo F), need := needsOf [] }
theorem ref02_number_loOk (F : Nat) : LoOk prog (ref02_number_book F) F := loOk_of (l := ref02_number_lo F) rfl fz
theorem ref02_number_run (F : Nat) (x : ArgsT ref02_number_ps) (kend : List BV → ZO) : runFnL prog (ref02_number_book F) F 20 36 (argsInst ref02_number_ps x) [.d (.int .i64)] kend = ref02_number F x.1 none (fun y0 => kend [BV.d (.int .i64) y0]) := by kernel_rfl
theorem ref02_number_contract  : Contract prog 36 ref02_number_orc := con_of (B0 := ref02_number_book0) zN zG mix_ok zT ref02_number_run (orcsOf_ok fz) (by kernel_rfl) (fun _ => rfl) ref02_number_loOk (fun x _ => (ref02_number_plain x.1).elim fun F hF => ⟨F, fun kend => hF none _⟩)
@[reducible] def ref02_Size_ps  : List PM := [.d (.int .i64)]
def ref02_Size_orc  : Orc := Orc.of ref02_Size_ps true 0 fun x => (true, [.d (.int .i64) (ref02_Size_r x.1)])
@[reducible] def ref02_Size_l1_T  : Tpl := { cur := ⟨[(0, .var (.int .i64)), (2, .var (.int .i64))], 11⟩, stk := [⟨[], 0⟩], heap := [] }
def ref02_Size_orcs  : List (FuncId × Orc) := [(36, ref02_number_orc), (38, ref02_power_orc)]
def ref02_Size_book0  : Book := { Γ := gam, orc := orcsOf ref02_Size_orcs, hint := hintsOf [(37, { keep := some [0, 3], keeps := [(2, [0, 3])], own := [], dat := [], stk := [] })] }
def ref02_Size_l1_G (F : Nat) (nx : ref02_Size_l1_T.T → ZO) (kq : ZK) (x : ref02_Size_l1_T.T) : ZO := ref02_Size_l1 F none (fun n k => nx ((n, (k, ())), (((), ()), ()))) (fun y0 y1 => kq (.exit 0) (ref02_Size_l1_T.inst ((y0, (y1, ())), (((), ()), ())))) x.1.1 x.1.2.1
def ref02_Size_l1_R (F m : Nat) (x : ref02_Size_l1_T.T) (kq : ZK) : ZO := ref02_Size_l1F F none (fun y0 y1 => kq (.exit 0) (ref02_Size_l1_T.inst ((y0, (y1, ())), (((), ()), ())))) m x.1.1 x.1.2.1
def ref02_Size_lo (F : Nat) : List (LoE Unit) := [⟨37, 2, LO.of ref02_Size_l1_T (ref02_Size_l1_R F F)⟩]
def ref02_Size_book (F : Nat) : BookL Unit := { toBook := ref02_Size_book0, lo := losOf (ref02_Size_lo F), need := needsOf [] }
theorem ref02_Size_l1_step (F : Nat) : LStep prog (ref02_Size_book F) F 37 0 2 ref02_Size_l1_T (ref02_Size_l1_G F) := fun d x KQ => by kernel_rfl
theorem ref02_Size_loOk (F : Nat) : LoOk prog (ref02_Size_book F) F := loOk_of (l := ref02_Size_lo F) rfl (fa (loOne_of 0 (by kernel_rfl) (by kernel_rfl) (lstep_run (ref02_Size_l1_step F) (fun _ _ => rfl) (fun _ _ _ _ => rfl))) fz)
theorem ref02_Size_run (F : Nat) (x : ArgsT ref02_Size_ps) (kend : List BV → ZO) : runFnL prog (ref02_Size_book F) F 20 37 (argsInst ref02_Size_ps x) [.d (.int .i64)] kend = ref02_Size F x.1 none (fun y0 => kend [BV.d (.int .i64) y0]) := by kernel_rfl
theorem ref02_Size_contract  : Contract prog 37 ref02_Size_orc := con_of (B0 := ref02_Size_book0) zN zG mix_ok zT ref02_Size_run (orcsOf_ok (fa ref02_number_contract (fa ref02_power_contract fz))) (by kernel_rfl) (fun _ => rfl) ref02_Size_loOk (fun x _ => (ref02_Size_plain x.1).elim fun F hF => ⟨F, fun kend => hF none _⟩)
@[reducible] def ref02_PutInt_ps  : List PM := [.d (.slc (.int .u8)), .d (.int .i64)]
def ref02_PutInt_orc  : Orc := Orc.of ref02_PutInt_ps true 1 fun x => (ref02_PutInt_P x.1 x.2.1, [.o 5 (.int .u8) (ref02_PutInt_r x.1 x.2.1)])
@[reducible] def ref02_PutInt_l1_T  : Tpl := { cur := ⟨[(1, .var (.int .i64)), (4, .row 0), (0, .var (.int .i64))], 39⟩, stk := [⟨[], 0⟩], heap := [.row 5 (.int .u8) false] }
def ref02_PutInt_orcs  : List (FuncId × Orc) := [(36, ref02_number_orc), (37, ref02_Size_orc), (38, ref02_power_orc)]
def ref02_PutInt_book0  : Book := { Γ := gam, orc := orcsOf ref02_PutInt_orcs, hint := hintsOf [(19, { keep := some [1, 6, 7], keeps := [(7, [1, 6, 7])], own := [], dat := [], stk := [] })] }
def ref02_PutInt_l1_G (F : Nat) (nx : ref02_PutInt_l1_T.T → ZO) (kq : ZK) (x : ref02_PutInt_l1_T.T) : ZO := ref02_PutInt_l1 F none (fun n i out => nx ((n, ((), (i, ()))), (((), ()), (out, ())))) (fun y0 y1 y2 => kq (.exit 0) (ref02_PutInt_l1_T.inst ((y0, ((), (y1, ()))), (((), ()), (y2, ()))))) x.1.1 x.1.2.2.1 x.2.2.1
def ref02_PutInt_l1_R (F m : Nat) (x : ref02_PutInt_l1_T.T) (kq : ZK) : ZO := ref02_PutInt_l1F F none (fun y0 y1 y2 => kq (.exit 0) (ref02_PutInt_l1_T.inst ((y0, ((), (y1, ()))), (((), ()), (y2, ()))))) m x.1.1 x.1.2.2.1 x.2.2.1
def ref02_PutInt_lo (F : Nat) : List (LoE Unit) := [⟨19, 7, LO.of ref02_PutInt_l1_T (ref02_PutInt_l1_R F F)⟩]
def ref02_PutInt_book (F : Nat) : BookL Unit := { toBook := ref02_PutInt_book0, lo := losOf (ref02_PutInt_lo F), need := needsOf [] }
theorem ref02_PutInt_l1_step (F : Nat) : LStep prog (ref02_PutInt_book F) F 19 0 7 ref02_PutInt_l1_T (ref02_PutInt_l1_G F) := fun d x KQ => by kernel_rfl
theorem ref02_PutInt_loOk (F : Nat) : LoOk prog (ref02_PutInt_book F) F := loOk_of (l := ref02_PutInt_lo F) rfl (fa (loOne_of 0 (by kernel_rfl) (by kernel_rfl) (lstep_run (ref02_PutInt_l1_step F) (fun _ _ => rfl) (fun _ _ _ _ => rfl))) fz)
theorem ref02_PutInt_run (F : Nat) (x : ArgsT ref02_PutInt_ps) (kend : List BV → ZO) : runFnL prog (ref02_PutInt_book F) F 20 19 (argsInst ref02_PutInt_ps x) [.o 5 (.int .u8)] kend = ref02_PutInt F x.1 x.2.1 none (fun y0 => kend [BV.o 5 (.int .u8) y0]) := by kernel_rfl
theorem ref02_PutInt_contract  : Contract prog 19 ref02_PutInt_orc := con_of (B0 := ref02_PutInt_book0) zN zG mix_ok zT ref02_PutInt_run (orcsOf_ok (fa ref02_number_contract (fa ref02_Size_contract (fa ref02_power_contract fz)))) (by kernel_rfl) (fun _ => rfl) ref02_PutInt_loOk (fun x h => (ref02_PutInt_plain x.1 x.2.1 h).elim fun F hF => ⟨F, fun kend => hF none _⟩)
@[reducible] def ref02_rest_ps  : List PM := [.d (.slc (.int .u8))]
def ref02_rest_orc  : Orc := Orc.of ref02_rest_ps true 1 fun x => (ref02_rest_P x.1, [.o 5 (.int .u8) (ref02_rest_r x.1)])
def ref02_rest_orcs  : List (FuncId × Orc) := []
def ref02_rest_book0  : Book := { Γ := gam, orc := orcsOf ref02_rest_orcs, hint := hintsOf [] }
def ref02_rest_lo (F : Nat) : List (LoE Unit) := []
def ref02_rest_book (F : Nat) : BookL Unit := { toBook := ref02_rest_book0, lo := losOf (ref02_rest_lo F), need := needsOf [] }
theorem ref02_rest_loOk (F : Nat) : LoOk prog (ref02_rest_book F) F := loOk_of (l := ref02_rest_lo F) rfl fz
theorem ref02_rest_run (F : Nat) (x : ArgsT ref02_rest_ps) (kend : List BV → ZO) : runFnL prog (ref02_rest_book F) F 20 43 (argsInst ref02_rest_ps x) [.o 5 (.int .u8)] kend = ref02_rest F x.1 none (fun y0 => kend [BV.o 5 (.int .u8) y0]) := by kernel_rfl
theorem ref02_rest_contract  : Contract prog 43 ref02_rest_orc := con_of (B0 := ref02_rest_book0) zN zG mix_ok zT ref02_rest_run (orcsOf_ok fz) (by kernel_rfl) (fun _ => rfl) ref02_rest_loOk (fun x h => (ref02_rest_plain x.1 h).elim fun F hF => ⟨F, fun kend => hF none _⟩)
@[reducible] def ref02_Int_ps  : List PM := [.d (.slc (.int .u8))]
def ref02_Int_orc  : Orc := Orc.of ref02_Int_ps true 1 fun x => (ref02_Int_P x.1, [.d (.int .i64) (ref02_Int_r0 x.1), .o 5 (.int .u8) (ref02_Int_r1 x.1), .d (.int .i64) (ref02_Int_r2 x.1)])
@[reducible] def ref02_Int_l1_T  : Tpl := { cur := ⟨[(0, .var (.slc (.int .u8))), (4, .var (.int .i64)), (0, .var (.int .i64))], 58⟩, stk := [⟨[], 0⟩], heap := [] }
@[reducible] def ref02_Int_l2_T  : Tpl := { cur := ⟨[(0, .var (.slc (.int .u8))), (5, .var (.int .i64)), (0, .var (.int .i64)), (0, .var (.int .i64))], 56⟩, stk := [⟨[], 0⟩], heap := [] }
def ref02_Int_orcs  : List (FuncId × Orc) := [(37, ref02_Size_orc), (38, ref02_power_orc), (43, ref02_rest_orc)]
def ref02_Int_book0  : Book := { Γ := gam, orc := orcsOf ref02_Int_orcs, hint := hintsOf [(26, { keep := some [0, 5, 6, 7, 8], keeps := [(7, [0, 5, 6]), (13, [0, 6, 7, 8])], own := [], dat := [], stk := [] })] }
def ref02_Int_l1_G (F : Nat) (nx : ref02_Int_l1_T.T → ZO) (kq : ZK) (x : ref02_Int_l1_T.T) : ZO := ref02_Int_l1 F none (fun src first k => nx ((src, (first, (k, ()))), (((), ()), ()))) (fun y0 y1 y2 => kq (.exit 0) (ref02_Int_l1_T.inst ((y0, (y1, (y2, ()))), (((), ()), ())))) x.1.1 x.1.2.1 x.1.2.2.1
def ref02_Int_l1_R (F m : Nat) (x : ref02_Int_l1_T.T) (kq : ZK) : ZO := ref02_Int_l1F F none (fun y0 y1 y2 => kq (.exit 0) (ref02_Int_l1_T.inst ((y0, (y1, (y2, ()))), (((), ()), ())))) m x.1.1 x.1.2.1 x.1.2.2.1
def ref02_Int_l2_G (F : Nat) (nx : ref02_Int_l2_T.T → ZO) (kq : ZK) (x : ref02_Int_l2_T.T) : ZO := ref02_Int_l2 F none (fun src k n i => nx ((src, (k, (n, (i, ())))), (((), ()), ()))) (fun y0 y1 y2 y3 => kq (.exit 2) (ref02_Int_l2_T.inst ((y0, (y1, (y2, (y3, ())))), (((), ()), ())))) x.1.1 x.1.2.1 x.1.2.2.1 x.1.2.2.2.1
def ref02_Int_l2_R (F m : Nat) (x : ref02_Int_l2_T.T) (kq : ZK) : ZO := ref02_Int_l2F F none (fun y0 y1 y2 y3 => kq (.exit 2) (ref02_Int_l2_T.inst ((y0, (y1, (y2, (y3, ())))), (((), ()), ())))) m x.1.1 x.1.2.1 x.1.2.2.1 x.1.2.2.2.1
def ref02_Int_lo (F : Nat) : List (LoE Unit) := [⟨26, 7, LO.of ref02_Int_l1_T (ref02_Int_l1_R F F)⟩,
 ⟨26, 13, LO.of ref02_Int_l2_T (ref02_Int_l2_R F F)⟩]
def ref02_Int_book (F : Nat) : BookL Unit := { toBook := ref02_Int_book0, lo := losOf (ref02_Int_lo F), need := needsOf [] }
theorem ref02_Int_l1_step (F : Nat) : LStep prog (ref02_Int_book F) F 26 0 7 ref02_Int_l1_T (ref02_Int_l1_G F) := fun d x KQ => by kernel_rfl
theorem ref02_Int_l2_step (F : Nat) : LStep prog (ref02_Int_book F) F 26 1 13 ref02_Int_l2_T (ref02_Int_l2_G F) := fun d x KQ => by kernel_rfl
theorem ref02_Int_loOk (F : Nat) : LoOk prog (ref02_Int_book F) F := loOk_of (l := ref02_Int_lo F) rfl (fa (loOne_of 0 (by kernel_rfl) (by kernel_rfl) (lstep_run (ref02_Int_l1_step F) (fun _ _ => rfl) (fun _ _ _ _ => rfl))) (fa (loOne_of 1 (by kernel_rfl) (by kernel_rfl) (lstep_run (ref02_Int_l2_step F) (fun _ _ => rfl) (fun _ _ _ _ => rfl))) fz))
theorem ref02_Int_run (F : Nat) (x : ArgsT ref02_Int_ps) (kend : List BV → ZO) : runFnL prog (ref02_Int_book F) F 20 26 (argsInst ref02_Int_ps x) [.d (.int .i64), .o 5 (.int .u8), .d (.int .i64)] kend = ref02_Int F x.1 none (fun y0 y1 y2 => kend [BV.d (.int .i64) y0, BV.o 5 (.int .u8) y1, BV.d (.int .i64) y2]) := by kernel_rfl
theorem ref02_Int_contract  : Contract prog 26 ref02_Int_orc := con_of (B0 := ref02_Int_book0) zN zG mix_ok zT ref02_Int_run (orcsOf_ok (fa ref02_Size_contract (fa ref02_power_contract (fa ref02_rest_contract fz)))) (by kernel_rfl) (fun _ => rfl) ref02_Int_loOk (fun x h => (ref02_Int_plain x.1 h).elim fun F hF => ⟨F, fun kend => hF none _⟩)
end Go.AI
namespace Go.AI
open Go
open Go.Proofs.Try (prog)
set_option linter.unusedVariables false
@[reducible] def wire_PutBytes_ps  : List PM := [.d (.slc (.int .u8)), .d (.slc (.int .u8))]
def wire_PutBytes_orc  : Orc := Orc.of wire_PutBytes_ps true 1 fun x => (wire_PutBytes_P x.1 x.2.1, [.o 5 (.int .u8) (wire_PutBytes_r x.1 x.2.1)])
@[reducible] def wire_PutBytes_l1_T  : Tpl := { cur := ⟨[(1, .row 0), (1, .ptr 1 []), (10, .var (.slc (.int .u8))), (0, .var (.int .i64)), (0, .var (.int .i64))], 10⟩, stk := [⟨[], 9⟩, ⟨[], 0⟩], heap := [.row 5 (.int .u8) false, .box (.pr (.fn 34 (.un)) (.var .unit))] }
def wire_PutBytes_orcs  : List (FuncId × Orc) := [(32, wire_put_orc), (33, clone_byte_orc)]
def wire_PutBytes_book0  : Book := { Γ := gam, orc := orcsOf wire_PutBytes_orcs, hint := hintsOf [(35, { keep := some [1, 3, 14, 15, 16], keeps := [(3, [1, 3, 14, 15, 16])], own := [], dat := [], stk := [[]] })] }
def wire_PutBytes_l1_G (F : Nat) (nx : wire_PutBytes_l1_T.T → ZO) (kq : ZK) (x : wire_PutBytes_l1_T.T) : ZO := wire_PutBytes_l1 F none (fun s14 s15 s16 dst => nx (((), ((), (s14, (s15, (s16, ()))))), (((), ((), ())), (dst, (((), ()), ()))))) (fun y0 y1 y2 y3 => kq (.exit 0) (wire_PutBytes_l1_T.inst (((), ((), (y0, (y1, (y2, ()))))), (((), ((), ())), (y3, (((), ()), ())))))) x.1.2.2.1 x.1.2.2.2.1 x.1.2.2.2.2.1 x.2.2.1
def wire_PutBytes_l1_R (F m : Nat) (x : wire_PutBytes_l1_T.T) (kq : ZK) : ZO := wire_PutBytes_l1F F none (fun y0 y1 y2 y3 => kq (.exit 0) (wire_PutBytes_l1_T.inst (((), ((), (y0, (y1, (y2, ()))))), (((), ((), ())), (y3, (((), ()), ())))))) m x.1.2.2.1 x.1.2.2.2.1 x.1.2.2.2.2.1 x.2.2.1
def wire_PutBytes_lo (F : Nat) : List (LoE Unit) := [⟨35, 3, LO.of wire_PutBytes_l1_T (wire_PutBytes_l1_R F F)⟩]
def wire_PutBytes_book (F : Nat) : BookL Unit := { toBook := wire_PutBytes_book0, lo := losOf (wire_PutBytes_lo F), need := needsOf [(35, 1)] }
theorem wire_PutBytes_l1_step (F : Nat) : LStep prog (wire_PutBytes_book F) F 35 0 3 wire_PutBytes_l1_T (wire_PutBytes_l1_G F) := fun d x KQ => by kernel_rfl
theorem wire_PutBytes_loOk (F : Nat) : LoOk prog (wire_PutBytes_book F) F := loOk_of (l := wire_PutBytes_lo F) rfl (fa (loOne_of 0 (by kernel_rfl) (by kernel_rfl) (lstep_run (wire_PutBytes_l1_step F) (fun _ _ => rfl) (fun _ _ _ _ => rfl))) fz)
theorem wire_PutBytes_run (F : Nat) (x : ArgsT wire_PutBytes_ps) (kend : List BV → ZO) : runFnL prog (wire_PutBytes_book F) F 20 18 (argsInst wire_PutBytes_ps x) [.o 5 (.int .u8)] kend = wire_PutBytes F x.1 x.2.1 none (fun y0 => kend [BV.o 5 (.int .u8) y0]) := by kernel_rfl
theorem wire_PutBytes_contract  : Contract prog 18 wire_PutBytes_orc := con_of (B0 := wire_PutBytes_book0) zN zG mix_ok zT wire_PutBytes_run (orcsOf_ok (fa wire_put_contract (fa clone_byte_contract fz))) (by kernel_rfl) (fun _ => rfl) wire_PutBytes_loOk (fun x h => (wire_PutBytes_plain x.1 x.2.1 h).elim fun F hF => ⟨F, fun kend => hF none _⟩)
@[reducible] def wire_Bytes_ps  : List PM := [.d (.slc (.int .u8))]
def wire_Bytes_orc  : Orc := Orc.of wire_Bytes_ps false 0 fun x => (wire_Bytes_P x.1, [.d (.slc (.int .u8)) (wire_Bytes_r0 x.1), .d (.slc (.int .u8)) (wire_Bytes_r1 x.1), .d (.int .i64) (wire_Bytes_r2 x.1)])
def wire_Bytes_orcs  : List (FuncId × Orc) := [(22, wire_Int_orc), (33, clone_byte_orc)]
def wire_Bytes_book0  : Book := { Γ := gam, orc := orcsOf wire_Bytes_orcs, hint := hintsOf [] }
def wire_Bytes_lo (F : Nat) : List (LoE Unit) := []
def wire_Bytes_book (F : Nat) : BookL Unit := { toBook := wire_Bytes_book0, lo := losOf (wire_Bytes_lo F), need := needsOf [] }
theorem wire_Bytes_loOk (F : Nat) : LoOk prog (wire_Bytes_book F) F := loOk_of (l := wire_Bytes_lo F) rfl fz
theorem wire_Bytes_run (F : Nat) (x : ArgsT wire_Bytes_ps) (kend : List BV → ZO) : runFnL prog (wire_Bytes_book F) F 20 25 (argsInst wire_Bytes_ps x) [.d (.slc (.int .u8)), .d (.slc (.int .u8)), .d (.int .i64)] kend = wire_Bytes F x.1 none (fun y0 y1 y2 => kend [BV.d (.slc (.int .u8)) y0, BV.d (.slc (.int .u8)) y1, BV.d (.int .i64) y2]) := by kernel_rfl
theorem wire_Bytes_contract  : Contract prog 25 wire_Bytes_orc := con_of (B0 := wire_Bytes_book0) zN zG mix_ok zT wire_Bytes_run (orcsOf_ok (fa wire_Int_contract (fa clone_byte_contract fz))) (by kernel_rfl) (fun _ => rfl) wire_Bytes_loOk (fun x h => (wire_Bytes_plain x.1 h).elim fun F hF => ⟨F, fun kend => hF none _⟩)
@[reducible] def ref02_PutBytes_ps  : List PM := [.d (.slc (.int .u8)), .d (.slc (.int .u8))]
def ref02_PutBytes_orc  : Orc := Orc.of ref02_PutBytes_ps true 1 fun x => (ref02_PutBytes_P x.1 x.2.1, [.o 5 (.int .u8) (ref02_PutBytes_r x.1 x.2.1)])
def ref02_PutBytes_orcs  : List (FuncId × Orc) := [(19, ref02_PutInt_orc)]
def ref02_PutBytes_book0  : Book := { Γ := gam, orc := orcsOf ref02_PutBytes_orcs, hint := hintsOf [] }
def ref02_PutBytes_lo (F : Nat) : List (LoE Unit) := []
def ref02_PutBytes_book (F : Nat) : BookL Unit := { toBook := ref02_PutBytes_book0, lo := losOf (ref02_PutBytes_lo F), need := needsOf [] }
theorem ref02_PutBytes_loOk (F : Nat) : LoOk prog (ref02_PutBytes_book F) F := loOk_of (l := ref02_PutBytes_lo F) rfl fz
theorem ref02_PutBytes_run (F : Nat) (x : ArgsT ref02_PutBytes_ps) (kend : List BV → ZO) : runFnL prog (ref02_PutBytes_book F) F 20 20 (argsInst ref02_PutBytes_ps x) [.o 5 (.int .u8)] kend = ref02_PutBytes F x.1 x.2.1 none (fun y0 => kend [BV.o 5 (.int .u8) y0]) := by kernel_rfl
theorem ref02_PutBytes_contract  : Contract prog 20 ref02_PutBytes_orc := con_of (B0 := ref02_PutBytes_book0) zN zG mix_ok zT ref02_PutBytes_run (orcsOf_ok (fa ref02_PutInt_contract fz)) (by kernel_rfl) (fun _ => rfl) ref02_PutBytes_loOk (fun x h => (ref02_PutBytes_plain x.1 x.2.1 h).elim fun F hF => ⟨F, fun kend => hF none _⟩)
@[reducible] def ref02_length_ps  : List PM := [.d (.slc (.int .u8))]
def ref02_length_orc  : Orc := Orc.of ref02_length_ps true 1 fun x => (ref02_length_P x.1, [.d (.int .i64) (ref02_length_r0 x.1), .o 5 (.int .u8) (ref02_length_r1 x.1), .d (.int .i64) (ref02_length_r2 x.1)])
def ref02_length_orcs  : List (FuncId × Orc) := [(26, ref02_Int_orc)]
def ref02_length_book0  : Book := { Γ := gam, orc := orcsOf ref02_length_orcs, hint := hintsOf [] }
def ref02_length_lo (F : Nat) : List (LoE Unit) := []
def ref02_length_book (F : Nat) : BookL Unit := { toBook := ref02_length_book0, lo := losOf (ref02_length_lo F), need := needsOf [] }
theorem ref02_length_loOk (F : Nat) : LoOk prog (ref02_length_book F) F := loOk_of (l := ref02_length_lo F) rfl fz
theorem ref02_length_run (F : Nat) (x : ArgsT ref02_length_ps) (kend : List BV → ZO) : runFnL prog (ref02_length_book F) F 20 44 (argsInst ref02_length_ps x) [.d (.int .i64), .o 5 (.int .u8), .d (.int .i64)] kend = ref02_length F x.1 none (fun y0 y1 y2 => kend [BV.d (.int .i64) y0, BV.o 5 (.int .u8) y1, BV.d (.int .i64) y2]) := by kernel_rfl
theorem ref02_length_contract  : Contract prog 44 ref02_length_orc := con_of (B0 := ref02_length_book0) zN zG mix_ok zT ref02_length_run (orcsOf_ok (fa ref02_Int_contract fz)) (by kernel_rfl) (fun _ => rfl) ref02_length_loOk (fun x h => (ref02_length_plain x.1 h).elim fun F hF => ⟨F, fun kend => hF none _⟩)
@[reducible] def ref02_Bytes_ps  : List PM := [.d (.slc (.int .u8))]
def ref02_Bytes_orc  : Orc := Orc.of ref02_Bytes_ps true 2 fun x => (ref02_Bytes_P x.1, [.o 5 (.int .u8) (ref02_Bytes_r0 x.1), .o 5 (.int .u8) (ref02_Bytes_r1 x.1), .d (.int .i64) (ref02_Bytes_r2 x.1)])
def ref02_Bytes_orcs  : List (FuncId × Orc) := [(43, ref02_rest_orc), (44, ref02_length_orc)]
def ref02_Bytes_book0  : Book := { Γ := gam, orc := orcsOf ref02_Bytes_orcs, hint := hintsOf [] }
def ref02_Bytes_lo (F : Nat) : List (LoE Unit) := []
def ref02_Bytes_book (F : Nat) : BookL Unit := { toBook := ref02_Bytes_book0, lo := losOf (ref02_Bytes_lo F), need := needsOf [] }
theorem ref02_Bytes_loOk (F : Nat) : LoOk prog (ref02_Bytes_book F) F := loOk_of (l := ref02_Bytes_lo F) rfl fz
theorem ref02_Bytes_run (F : Nat) (x : ArgsT ref02_Bytes_ps) (kend : List BV → ZO) : runFnL prog (ref02_Bytes_book F) F 20 28 (argsInst ref02_Bytes_ps x) [.o 5 (.int .u8), .o 5 (.int .u8), .d (.int .i64)] kend = ref02_Bytes F x.1 none (fun y0 y1 y2 => kend [BV.o 5 (.int .u8) y0, BV.o 5 (.int .u8) y1, BV.d (.int .i64) y2]) := by kernel_rfl
theorem ref02_Bytes_contract  : Contract prog 28 ref02_Bytes_orc := con_of (B0 := ref02_Bytes_book0) zN zG mix_ok zT ref02_Bytes_run (orcsOf_ok (fa ref02_rest_contract (fa ref02_length_contract fz))) (by kernel_rfl) (fun _ => rfl) ref02_Bytes_loOk (fun x h => (ref02_Bytes_plain x.1 h).elim fun F hF => ⟨F, fun kend => hF none _⟩)
end Go.AI
namespace Go.AI
open Go
open Go.Proofs.Try (prog)
set_option linter.unusedVariables false
@[reducible] def rotr_ps  : List PM := [.d (.int .u32), .d (.int .i64)]
def rotr_orc  : Orc := Orc.of rotr_ps true 0 fun x => (rotr_P x.1 x.2.1, [.d (.int .u32) (rotr_r x.1 x.2.1)])
def rotr_orcs  : List (FuncId × Orc) := []
def rotr_book0  : Book := { Γ := gam, orc := orcsOf rotr_orcs, hint := hintsOf [] }
def rotr_lo (F : Nat) : List (LoE Unit) := []
def rotr_book (F : Nat) : BookL Unit := { toBook := rotr_book0, lo := losOf (rotr_lo F), need := needsOf [] }
theorem rotr_loOk (F : Nat) : LoOk prog (rotr_book F) F := loOk_of (l := rotr_lo F) rfl fz
theorem rotr_run (F : Nat) (x : ArgsT rotr_ps) (kend : List BV → ZO) : runFnL prog (rotr_book F) F 20 82 (argsInst rotr_ps x) [.d (.int .u32)] kend = rotr F x.1 x.2.1 none (fun y0 => kend [BV.d (.int .u32) y0]) := by kernel_rfl
theorem rotr_contract  : Contract prog 82 rotr_orc := con_of (B0 := rotr_book0) zN zG mix_ok zT rotr_run (orcsOf_ok fz) (by kernel_rfl) (fun _ => rfl) rotr_loOk (fun x h => (rotr_plain x.1 x.2.1 h).elim fun F hF => ⟨F, fun kend => hF none _⟩)
@[reducible] def shr_ps  : List PM := [.d (.int .u32), .d (.int .i64)]
def shr_orc  : Orc := Orc.of shr_ps true 0 fun x => (shr_P x.1 x.2.1, [.d (.int .u32) (shr_r x.1 x.2.1)])
def shr_orcs  : List (FuncId × Orc) := []
def shr_book0  : Book := { Γ := gam, orc := orcsOf shr_orcs, hint := hintsOf [] }
def shr_lo (F : Nat) : List (LoE Unit) := []
def shr_book (F : Nat) : BookL Unit := { toBook := shr_book0, lo := losOf (shr_lo F), need := needsOf [] }
theorem shr_loOk (F : Nat) : LoOk prog (shr_book F) F := loOk_of (l := shr_lo F) rfl fz
theorem shr_run (F : Nat) (x : ArgsT shr_ps) (kend : List BV → ZO) : runFnL prog (shr_book F) F 20 88 (argsInst shr_ps x) [.d (.int .u32)] kend = shr F x.1 x.2.1 none (fun y0 => kend [BV.d (.int .u32) y0]) := by kernel_rfl
theorem shr_contract  : Contract prog 88 shr_orc := con_of (B0 := shr_book0) zN zG mix_ok zT shr_run (orcsOf_ok fz) (by kernel_rfl) (fun _ => rfl) shr_loOk (fun x h => (shr_plain x.1 x.2.1 h).elim fun F hF => ⟨F, fun kend => hF none _⟩)
def three_0_orcs  : List (FuncId × Orc) := [(82, rotr_orc)]
def three_0_book0  : Book := { Γ := gam, orc := orcsOf three_0_orcs, hint := hintsOf [] }
def three_0_lo (F : Nat) : List (LoE Unit) := []
def three_0_book (F : Nat) : BookL Unit := { toBook := three_0_book0, lo := losOf (three_0_lo F), need := needsOf [] }
theorem three_0_loOk (F : Nat) : LoOk prog (three_0_book F) F := loOk_of (l := three_0_lo F) rfl fz
theorem three_0_run (F : Nat) (x_ : UInt32) (a b c : Int) (kend : List BV → ZO) : runFnL prog (three_0_book F) F 20 81 [.d (.int .u32) x_, .d (.int .i64) a, .d (.int .i64) b, .d (.int .i64) c, .f 82] [.d (.int .u32)] kend = three_0 F x_ a b c none (fun y0 => kend [BV.d (.int .u32) y0]) := by kernel_rfl
theorem three_0_contract  : Contract prog 81 (Orc.of [.d (.int .u32), .d (.int .i64), .d (.int .i64), .d (.int .i64), .f] true 0 fun x => ((Nat.beq x.2.2.2.2.1 82) && three_P x.1 x.2.1 x.2.2.1 x.2.2.2.1 x.2.2.2.2.1, [.d (.int .u32) (three_r x.1 x.2.1 x.2.2.1 x.2.2.2.1 x.2.2.2.2.1)])) := contract_of_runL (B0 := three_0_book0) zN zG mix_ok zT (orcsOf_ok (fa rotr_contract fz)) (by kernel_rfl) (fun x h => by
 obtain ⟨x0, x1, x2, x3, x4, _⟩ := x
 simp only [Bool.and_eq_true] at h
 obtain ⟨e, h⟩ := h
 have e := Nat.eq_of_beq_eq_true e
 subst e
 obtain ⟨F, hF⟩ := three_0_plain x0 x1 x2 x3 h
 exact ⟨F, 20, three_0_book F, rfl, three_0_loOk F, fun kend => (three_0_run F x0 x1 x2 x3 kend).trans (hF none (fun y0 => kend [BV.d (.int .u32) y0]))⟩)
def three_1_orcs  : List (FuncId × Orc) := [(82, rotr_orc), (88, shr_orc)]
def three_1_book0  : Book := { Γ := gam, orc := orcsOf three_1_orcs, hint := hintsOf [] }
def three_1_lo (F : Nat) : List (LoE Unit) := []
def three_1_book (F : Nat) : BookL Unit := { toBook := three_1_book0, lo := losOf (three_1_lo F), need := needsOf [] }
theorem three_1_loOk (F : Nat) : LoOk prog (three_1_book F) F := loOk_of (l := three_1_lo F) rfl fz
theorem three_1_run (F : Nat) (x_ : UInt32) (a b c : Int) (kend : List BV → ZO) : runFnL prog (three_1_book F) F 20 81 [.d (.int .u32) x_, .d (.int .i64) a, .d (.int .i64) b, .d (.int .i64) c, .f 88] [.d (.int .u32)] kend = three_1 F x_ a b c none (fun y0 => kend [BV.d (.int .u32) y0]) := by kernel_rfl
theorem three_1_contract  : Contract prog 81 (Orc.of [.d (.int .u32), .d (.int .i64), .d (.int .i64), .d (.int .i64), .f] true 0 fun x => ((Nat.beq x.2.2.2.2.1 88) && three_P x.1 x.2.1 x.2.2.1 x.2.2.2.1 x.2.2.2.2.1, [.d (.int .u32) (three_r x.1 x.2.1 x.2.2.1 x.2.2.2.1 x.2.2.2.2.1)])) := contract_of_runL (B0 := three_1_book0) zN zG mix_ok zT (orcsOf_ok (fa rotr_contract (fa shr_contract fz))) (by kernel_rfl) (fun x h => by
 obtain ⟨x0, x1, x2, x3, x4, _⟩ := x
 simp only [Bool.and_eq_true] at h
 obtain ⟨e, h⟩ := h
 have e := Nat.eq_of_beq_eq_true e
 subst e
 obtain ⟨F, hF⟩ := three_1_plain x0 x1 x2 x3 h
 exact ⟨F, 20, three_1_book F, rfl, three_1_loOk F, fun kend => (three_1_run F x0 x1 x2 x3 kend).trans (hF none (fun y0 => kend [BV.d (.int .u32) y0]))⟩)
def three_orc  : Orc := Orc.of [.d (.int .u32), .d (.int .i64), .d (.int .i64), .d (.int .i64), .f] true 0 fun x => ((Nat.beq x.2.2.2.2.1 82 || Nat.beq x.2.2.2.2.1 88) && three_P x.1 x.2.1 x.2.2.1 x.2.2.2.1 x.2.2.2.2.1, [.d (.int .u32) (three_r x.1 x.2.1 x.2.2.1 x.2.2.2.1 x.2.2.2.2.1)])
theorem three_contract  : Contract prog 81 three_orc := contract_cases three_0_contract.1 (fun x h => by
 obtain ⟨x0, x1, x2, x3, x4, _⟩ := x
 simp only [Bool.and_eq_true, Bool.or_eq_true] at h
 obtain ⟨e, _⟩ := h
 rcases e with e | e
 ·have e := Nat.eq_of_beq_eq_true e
  subst e
  exact ⟨_, three_0_contract, rfl⟩
 ·have e := Nat.eq_of_beq_eq_true e
  subst e
  exact ⟨_, three_1_contract, rfl⟩)
@[reducible] def consts_ps  : List PM := []
def consts_orc  : Orc := Orc.of consts_ps true 0 fun x => (consts_P, [.d (.arr 64 (.int .u32)) (consts_r)])
def consts_orcs  : List (FuncId × Orc) := []
def consts_book0  : Book := { Γ := gam, orc := orcsOf consts_orcs, hint := hintsOf [] }
def consts_lo (F : Nat) : List (LoE Unit) := []
def consts_book (F : Nat) : BookL Unit := { toBook := consts_book0, lo := losOf (consts_lo F), need := needsOf [] }
theorem consts_loOk (F : Nat) : LoOk prog (consts_book F) F := loOk_of (l := consts_lo F) rfl fz
theorem consts_run (F : Nat) (x : ArgsT consts_ps) (kend : List BV → ZO) : runFnL prog (consts_book F) F 20 87 (argsInst consts_ps x) [.d (.arr 64 (.int .u32))] kend = consts F  none (fun y0 => kend [BV.d (.arr 64 (.int .u32)) y0]) := by kernel_rfl
theorem consts_contract  : Contract prog 87 consts_orc := con_of (B0 := consts_book0) zN zG mix_ok zT consts_run (orcsOf_ok fz) (by kernel_rfl) (fun _ => rfl) consts_loOk (fun x h => (consts_plain  h).elim fun F hF => ⟨F, fun kend => hF none _⟩)
@[reducible] def absorb_ps  : List PM := [.d (.arr 8 (.int .u32)), .d (.slc (.int .u8))]
def absorb_orc  : Orc := Orc.of absorb_ps true 0 fun x => (absorb_P x.1 x.2.1, [.d (.arr 8 (.int .u32)) (absorb_r x.1 x.2.1)])
@[reducible] def absorb_l2_T  : Tpl := { cur := ⟨[(0, .hnd .yield 0), (0, .ptr 2 []), (1, .ptr 3 []), (0, .var (.int .i64)), (0, .var (.int .u32)), (4, .var (.arr 64 (.int .u32))), (0, .var (.int .i64)), (11, .var (.slc (.int .u8))), (0, .var (.int .i64)), (0, .var (.int .i64))], 50⟩, stk := [⟨[(0, .hnd .yield 0)], 0⟩, ⟨[(2, .ptr 4 []), (1, .ptr 5 []), (0, .ptr 1 [])], 78⟩, ⟨[], 0⟩], heap := [.lp 75 3 ⟨[(5, .ptr 1 [])], 78⟩ .ready, .box (.var (.arr 8 (.int .u32))), .box (.var (.slc (.int .u8))), .box (.var (.arr 16 (.int .u32))), .box (.var (.arr 8 (.int .u32))), .box (.var (.arr 8 (.int .u32)))] }
@[reducible] def absorb_l1_T  : Tpl := { cur := ⟨[(0, .hnd .yield 0), (0, .ptr 2 []), (1, .ptr 3 []), (6, .var (.arr 64 (.int .u32))), (0, .var (.int .i64))], 64⟩, stk := [⟨[(0, .hnd .yield 0)], 0⟩, ⟨[(2, .ptr 4 []), (1, .ptr 5 []), (0, .ptr 1 [])], 78⟩, ⟨[], 0⟩], heap := [.lp 75 3 ⟨[(5, .ptr 1 [])], 78⟩ .ready, .box (.var (.arr 8 (.int .u32))), .box (.var (.slc (.int .u8))), .box (.var (.arr 16 (.int .u32))), .box (.var (.arr 8 (.int .u32))), .box (.var (.arr 8 (.int .u32)))] }
@[reducible] def absorb_l3_T  : Tpl := { cur := ⟨[(2, .ptr 0 []), (1, .ptr 1 []), (0, .ptr 2 []), (65, .var (.int .i64))], 12⟩, stk := [⟨[], 0⟩], heap := [.box (.var (.arr 8 (.int .u32))), .box (.var (.arr 8 (.int .u32))), .box (.var (.arr 8 (.int .u32)))] }
def absorb_orcs  : List (FuncId × Orc) := [(81, three_orc), (87, consts_orc)]
def absorb_book0  : Book := { Γ := gam, orc := orcsOf absorb_orcs, hint := hintsOf [(75, { keep := some [2, 4, 5, 71], keeps := [(9, [2, 4, 5, 71])], own := [], dat := [], stk := [] }), (86, { keep := some [0, 1, 3, 4, 5, 10, 11, 23, 24, 25], keeps := [(2, [0, 1, 3, 10, 11]), (6, [0, 1, 3, 4, 5, 10, 11, 23, 24, 25])], own := [], dat := [], stk := [[0], [2, 4, 5, 6, 7, 8, 9, 10, 15, 21]] })] }
def absorb_l2_G (F : Nat) (nx : absorb_l2_T.T → ZO) (kq : ZK) (x : absorb_l2_T.T) : ZO := absorb_l2 F none (fun i k s10 s11 s23 s24 s25 x_ s1 w s s4 => nx (((), ((), ((), (i, (k, (s10, (s11, (s23, (s24, (s25, ())))))))))), ((((), ()), (((), ((), ((), ()))), ((), ()))), (((), ()), (x_, (s1, (w, (s, (s4, ()))))))))) (fun y0 y1 y2 y3 y4 y5 y6 y7 y8 y9 y10 y11 => kq (.exit 2) (absorb_l2_T.inst (((), ((), ((), (y0, (y1, (y2, (y3, (y4, (y5, (y6, ())))))))))), ((((), ()), (((), ((), ((), ()))), ((), ()))), (((), ()), (y7, (y8, (y9, (y10, (y11, ())))))))))) x.1.2.2.2.1 x.1.2.2.2.2.1 x.1.2.2.2.2.2.1 x.1.2.2.2.2.2.2.1 x.1.2.2.2.2.2.2.2.1 x.1.2.2.2.2.2.2.2.2.1 x.1.2.2.2.2.2.2.2.2.2.1 x.2.2.2.1 x.2.2.2.2.1 x.2.2.2.2.2.1 x.2.2.2.2.2.2.1 x.2.2.2.2.2.2.2.1
def absorb_l2_R (F m : Nat) (x : absorb_l2_T.T) (kq : ZK) : ZO := absorb_l2F F none (fun y0 y1 y2 y3 y4 y5 y6 y7 y8 y9 y10 y11 => kq (.exit 2) (absorb_l2_T.inst (((), ((), ((), (y0, (y1, (y2, (y3, (y4, (y5, (y6, ())))))))))), ((((), ()), (((), ((), ((), ()))), ((), ()))), (((), ()), (y7, (y8, (y9, (y10, (y11, ())))))))))) m x.1.2.2.2.1 x.1.2.2.2.2.1 x.1.2.2.2.2.2.1 x.1.2.2.2.2.2.2.1 x.1.2.2.2.2.2.2.2.1 x.1.2.2.2.2.2.2.2.2.1 x.1.2.2.2.2.2.2.2.2.2.1 x.2.2.2.1 x.2.2.2.2.1 x.2.2.2.2.2.1 x.2.2.2.2.2.2.1 x.2.2.2.2.2.2.2.1
def absorb_l1_G (F : Nat) (nx : absorb_l1_T.T → ZO) (kq : ZK) (x : absorb_l1_T.T) : ZO := absorb_l1 F none (fun s10 s11 x_ s1 w s s4 => nx (((), ((), ((), (s10, (s11, ()))))), ((((), ()), (((), ((), ((), ()))), ((), ()))), (((), ()), (x_, (s1, (w, (s, (s4, ()))))))))) (fun y0 y1 y2 y3 y4 y5 y6 => kq (.exit 0) (absorb_l1_T.inst (((), ((), ((), (y0, (y1, ()))))), ((((), ()), (((), ((), ((), ()))), ((), ()))), (((), ()), (y2, (y3, (y4, (y5, (y6, ())))))))))) x.1.2.2.2.1 x.1.2.2.2.2.1 x.2.2.2.1 x.2.2.2.2.1 x.2.2.2.2.2.1 x.2.2.2.2.2.2.1 x.2.2.2.2.2.2.2.1
def absorb_l1_R (F m : Nat) (x : absorb_l1_T.T) (kq : ZK) : ZO := absorb_l1F F none (fun y0 y1 y2 y3 y4 y5 y6 => kq (.exit 0) (absorb_l1_T.inst (((), ((), ((), (y0, (y1, ()))))), ((((), ()), (((), ((), ((), ()))), ((), ()))), (((), ()), (y2, (y3, (y4, (y5, (y6, ())))))))))) m x.1.2.2.2.1 x.1.2.2.2.2.1 x.2.2.2.1 x.2.2.2.2.1 x.2.2.2.2.2.1 x.2.2.2.2.2.2.1 x.2.2.2.2.2.2.2.1
def absorb_l3_G (F : Nat) (nx : absorb_l3_T.T → ZO) (kq : ZK) (x : absorb_l3_T.T) : ZO := absorb_l3 F none (fun s71 s s4 x_ => nx (((), ((), ((), (s71, ())))), (((), ()), (s, (s4, (x_, ())))))) (fun y0 y1 y2 y3 => kq (.exit 2) (absorb_l3_T.inst (((), ((), ((), (y0, ())))), (((), ()), (y1, (y2, (y3, ()))))))) x.1.2.2.2.1 x.2.2.1 x.2.2.2.1 x.2.2.2.2.1
def absorb_l3_R (F m : Nat) (x : absorb_l3_T.T) (kq : ZK) : ZO := absorb_l3F F none (fun y0 y1 y2 y3 => kq (.exit 2) (absorb_l3_T.inst (((), ((), ((), (y0, ())))), (((), ()), (y1, (y2, (y3, ()))))))) m x.1.2.2.2.1 x.2.2.1 x.2.2.2.1 x.2.2.2.2.1
def absorb_lo (F : Nat) : List (LoE Unit) := [⟨86, 6, LO.of absorb_l2_T (absorb_l2_R F F)⟩,
 ⟨86, 2, LO.of absorb_l1_T (absorb_l1_R F F)⟩,
 ⟨75, 9, LO.of absorb_l3_T (absorb_l3_R F F)⟩]
def absorb_book (F : Nat) : BookL Unit := { toBook := absorb_book0, lo := losOf (absorb_lo F), need := needsOf [(86, 1)] }
theorem absorb_l2_step (F : Nat) : LStep prog (absorb_book F) F 86 1 6 absorb_l2_T (absorb_l2_G F) := fun d x KQ => by kernel_rfl
theorem absorb_l1_step (F : Nat) : LStep prog (absorb_book F) F 86 0 2 absorb_l1_T (absorb_l1_G F) := fun d x KQ => by kernel_rfl
theorem absorb_l3_step (F : Nat) : LStep prog (absorb_book F) F 75 0 9 absorb_l3_T (absorb_l3_G F) := fun d x KQ => by kernel_rfl
theorem absorb_loOk (F : Nat) : LoOk prog (absorb_book F) F := loOk_of (l := absorb_lo F) rfl (fa (loOne_of 1 (by kernel_rfl) (by kernel_rfl) (lstep_run (absorb_l2_step F) (fun _ _ => rfl) (fun _ _ _ _ => rfl))) (fa (loOne_of 0 (by kernel_rfl) (by kernel_rfl) (lstep_run (absorb_l1_step F) (fun _ _ => rfl) (fun _ _ _ _ => rfl))) (fa (loOne_of 0 (by kernel_rfl) (by kernel_rfl) (lstep_run (absorb_l3_step F) (fun _ _ => rfl) (fun _ _ _ _ => rfl))) fz)))
theorem absorb_run (F : Nat) (x : ArgsT absorb_ps) (kend : List BV → ZO) : runFnL prog (absorb_book F) F 20 75 (argsInst absorb_ps x) [.d (.arr 8 (.int .u32))] kend = absorb F x.1 x.2.1 none (fun y0 => kend [BV.d (.arr 8 (.int .u32)) y0]) := by kernel_rfl
theorem absorb_contract  : Contract prog 75 absorb_orc := con_of (B0 := absorb_book0) zN zG mix_ok zT absorb_run (orcsOf_ok (fa three_contract (fa consts_contract fz))) (by kernel_rfl) (fun _ => rfl) absorb_loOk (fun x h => (absorb_plain x.1 x.2.1 h).elim fun F hF => ⟨F, fun kend => hF none _⟩)
@[reducible] def hNew_ps  : List PM := []
def hNew_orc  : Orc := Orc.of hNew_ps false 0 fun x => (hNew_P, [.d (.pair (.arr 8 (.int .u32)) (.pair (.slc (.int .u8)) (.pair (.int .i64) .unit))) (hNew_r)])
def hNew_orcs  : List (FuncId × Orc) := []
def hNew_book0  : Book := { Γ := gam, orc := orcsOf hNew_orcs, hint := hintsOf [] }
def hNew_lo (F : Nat) : List (LoE Unit) := []
def hNew_book (F : Nat) : BookL Unit := { toBook := hNew_book0, lo := losOf (hNew_lo F), need := needsOf [] }
theorem hNew_loOk (F : Nat) : LoOk prog (hNew_book F) F := loOk_of (l := hNew_lo F) rfl fz
theorem hNew_run (F : Nat) (x : ArgsT hNew_ps) (kend : List BV → ZO) : runFnL prog (hNew_book F) F 20 69 (argsInst hNew_ps x) [.d (.pair (.arr 8 (.int .u32)) (.pair (.slc (.int .u8)) (.pair (.int .i64) .unit)))] kend = hNew F  none (fun y0 => kend [BV.d (.pair (.arr 8 (.int .u32)) (.pair (.slc (.int .u8)) (.pair (.int .i64) .unit))) y0]) := by kernel_rfl
theorem hNew_contract  : Contract prog 69 hNew_orc := con_of (B0 := hNew_book0) zN zG mix_ok zT hNew_run (orcsOf_ok fz) (by kernel_rfl) (fun _ => rfl) hNew_loOk (fun x h => (hNew_plain  h).elim fun F hF => ⟨F, fun kend => hF none _⟩)
@[reducible] def hwrite_ps  : List PM := [.d (.pair (.arr 8 (.int .u32)) (.pair (.slc (.int .u8)) (.pair (.int .i64) .unit))), .d (.slc (.int .u8))]
def hwrite_orc  : Orc := Orc.of hwrite_ps false 0 fun x => (hwrite_P x.1 x.2.1, [.d (.pair (.arr 8 (.int .u32)) (.pair (.slc (.int .u8)) (.pair (.int .i64) .unit))) (hwrite_r x.1 x.2.1)])
@[reducible] def hwrite_l1_T  : Tpl := { cur := ⟨[(1, .var (.slc (.int .u8))), (0, .ptr 0 []), (1, .ptr 1 []), (0, .ptr 2 []), (7, .var (.arr 8 (.int .u32))), (0, .var (.int .i64))], 45⟩, stk := [⟨[], 0⟩], heap := [.box (.var (.pair (.arr 8 (.int .u32)) (.pair (.slc (.int .u8)) (.pair (.int .i64) .unit)))), .box (.var (.pair (.arr 8 (.int .u32)) (.pair (.slc (.int .u8)) (.pair (.int .i64) .unit)))), .box (.var (.arr 8 (.int .u32)))] }
@[reducible] def hwrite_l2_T  : Tpl := { cur := ⟨[(1, .var (.slc (.int .u8))), (0, .ptr 0 []), (1, .ptr 1 []), (0, .ptr 2 []), (2, .var (.slc (.int .u8)))], 51⟩, stk := [⟨[], 0⟩], heap := [.box (.var (.pair (.arr 8 (.int .u32)) (.pair (.slc (.int .u8)) (.pair (.int .i64) .unit)))), .box (.var (.pair (.arr 8 (.int .u32)) (.pair (.slc (.int .u8)) (.pair (.int .i64) .unit)))), .box (.var (.arr 8 (.int .u32)))] }
@[reducible] def hwrite_l3_T  : Tpl := { cur := ⟨[(4, .ptr 0 []), (4, .ptr 1 []), (39, .var (.arr 8 (.int .u32))), (0, .var (.int .i64))], 9⟩, stk := [⟨[], 0⟩], heap := [.box (.var (.pair (.arr 8 (.int .u32)) (.pair (.slc (.int .u8)) (.pair (.int .i64) .unit)))), .box (.pr (.var (.arr 8 (.int .u32))) (.pr (.row 2) (.var (.pair (.int .i64) .unit)))), .row 5 (.int .u8) false] }
def hwrite_orcs  : List (FuncId × Orc) := [(75, absorb_orc)]
def hwrite_book0  : Book := { Γ := gam, orc := orcsOf hwrite_orcs, hint := hintsOf [(68, { keep := some [1, 2, 4, 5, 8, 9, 13, 14, 49, 50], keeps := [(3, [1, 2, 4, 5, 13, 14]), (8, [1, 2, 4, 5, 8]), (13, [4, 9, 49, 50])], own := [], dat := [], stk := [] })] }
def hwrite_l1_G (F : Nat) (nx : hwrite_l1_T.T → ZO) (kq : ZK) (x : hwrite_l1_T.T) : ZO := hwrite_l1 F none (fun b s13 s14 h s4 s => nx ((b, ((), ((), ((), (s13, (s14, ())))))), (((), ()), (h, (s4, (s, ())))))) (fun y0 y1 y2 y3 y4 y5 => kq (.exit 0) (hwrite_l1_T.inst ((y0, ((), ((), ((), (y1, (y2, ())))))), (((), ()), (y3, (y4, (y5, ()))))))) x.1.1 x.1.2.2.2.2.1 x.1.2.2.2.2.2.1 x.2.2.1 x.2.2.2.1 x.2.2.2.2.1
def hwrite_l1_R (F m : Nat) (x : hwrite_l1_T.T) (kq : ZK) : ZO := hwrite_l1F F none (fun y0 y1 y2 y3 y4 y5 => kq (.exit 0) (hwrite_l1_T.inst ((y0, ((), ((), ((), (y1, (y2, ())))))), (((), ()), (y3, (y4, (y5, ()))))))) m x.1.1 x.1.2.2.2.2.1 x.1.2.2.2.2.2.1 x.2.2.1 x.2.2.2.1 x.2.2.2.2.1
def hwrite_l2_G (F : Nat) (nx : hwrite_l2_T.T → ZO) (kq : ZK) (x : hwrite_l2_T.T) : ZO := hwrite_l2 F none (fun b all h s4 s => nx ((b, ((), ((), ((), (all, ()))))), (((), ()), (h, (s4, (s, ())))))) (fun y0 y1 y2 y3 y4 => kq (.exit 2) (hwrite_l2_T.inst ((y0, ((), ((), ((), (y1, ()))))), (((), ()), (y2, (y3, (y4, ()))))))) x.1.1 x.1.2.2.2.2.1 x.2.2.1 x.2.2.2.1 x.2.2.2.2.1
def hwrite_l2_R (F m : Nat) (x : hwrite_l2_T.T) (kq : ZK) : ZO := hwrite_l2F F none (fun y0 y1 y2 y3 y4 => kq (.exit 2) (hwrite_l2_T.inst ((y0, ((), ((), ((), (y1, ()))))), (((), ()), (y2, (y3, (y4, ()))))))) m x.1.1 x.1.2.2.2.2.1 x.2.2.1 x.2.2.2.1 x.2.2.2.2.1
def hwrite_l3_G (F : Nat) (nx : hwrite_l3_T.T → ZO) (kq : ZK) (x : hwrite_l3_T.T) : ZO := hwrite_l3 F none (fun s49 s50 s4 out out1 h2 => nx (((), ((), (s49, (s50, ())))), (((), ()), (s4, ((out, ((), out1)), (h2, ())))))) (fun y0 y1 y2 y3 y4 y5 => kq (.exit 4) (hwrite_l3_T.inst (((), ((), (y0, (y1, ())))), (((), ()), (y2, ((y3, ((), y4)), (y5, ()))))))) x.1.2.2.1 x.1.2.2.2.1 x.2.2.1 x.2.2.2.1.1 x.2.2.2.1.2.2 x.2.2.2.2.1
def hwrite_l3_R (F m : Nat) (x : hwrite_l3_T.T) (kq : ZK) : ZO := hwrite_l3F F none (fun y0 y1 y2 y3 y4 y5 => kq (.exit 4) (hwrite_l3_T.inst (((), ((), (y0, (y1, ())))), (((), ()), (y2, ((y3, ((), y4)), (y5, ()))))))) m x.1.2.2.1 x.1.2.2.2.1 x.2.2.1 x.2.2.2.1.1 x.2.2.2.1.2.2 x.2.2.2.2.1
def hwrite_lo (F : Nat) : List (LoE Unit) := [⟨68, 3, LO.of hwrite_l1_T (hwrite_l1_R F F)⟩,
 ⟨68, 8, LO.of hwrite_l2_T (hwrite_l2_R F F)⟩,
 ⟨68, 13, LO.of hwrite_l3_T (hwrite_l3_R F F)⟩]
def hwrite_book (F : Nat) : BookL Unit := { toBook := hwrite_book0, lo := losOf (hwrite_lo F), need := needsOf [] }
theorem hwrite_l1_step (F : Nat) : LStep prog (hwrite_book F) F 68 0 3 hwrite_l1_T (hwrite_l1_G F) := fun d x KQ => by kernel_rfl
theorem hwrite_l2_step (F : Nat) : LStep prog (hwrite_book F) F 68 1 8 hwrite_l2_T (hwrite_l2_G F) := fun d x KQ => by kernel_rfl
theorem hwrite_l3_step (F : Nat) : LStep prog (hwrite_book F) F 68 2 13 hwrite_l3_T (hwrite_l3_G F) := fun d x KQ => by kernel_rfl
theorem hwrite_loOk (F : Nat) : LoOk prog (hwrite_book F) F := loOk_of (l := hwrite_lo F) rfl (fa (loOne_of 0 (by kernel_rfl) (by kernel_rfl) (lstep_run (hwrite_l1_step F) (fun _ _ => rfl) (fun _ _ _ _ => rfl))) (fa (loOne_of 1 (by kernel_rfl) (by kernel_rfl) (lstep_run (hwrite_l2_step F) (fun _ _ => rfl) (fun _ _ _ _ => rfl))) (fa (loOne_of 2 (by kernel_rfl) (by kernel_rfl) (lstep_run (hwrite_l3_step F) (fun _ _ => rfl) (fun _ _ _ _ => rfl))) fz)))
theorem hwrite_run (F : Nat) (x : ArgsT hwrite_ps) (kend : List BV → ZO) : runFnL prog (hwrite_book F) F 20 68 (argsInst hwrite_ps x) [.d (.pair (.arr 8 (.int .u32)) (.pair (.slc (.int .u8)) (.pair (.int .i64) .unit)))] kend = hwrite F x.1 x.2.1 none (fun y0 => kend [BV.d (.pair (.arr 8 (.int .u32)) (.pair (.slc (.int .u8)) (.pair (.int .i64) .unit))) y0]) := by kernel_rfl
theorem hwrite_contract  : Contract prog 68 hwrite_orc := con_of (B0 := hwrite_book0) zN zG mix_ok zT hwrite_run (orcsOf_ok (fa absorb_contract fz)) (by kernel_rfl) (fun _ => rfl) hwrite_loOk (fun x h => (hwrite_plain x.1 x.2.1 h).elim fun F hF => ⟨F, fun kend => hF none _⟩)
@[reducible] def hfinish_ps  : List PM := [.d (.pair (.arr 8 (.int .u32)) (.pair (.slc (.int .u8)) (.pair (.int .i64) .unit)))]
def hfinish_orc  : Orc := Orc.of hfinish_ps true 0 fun x => (hfinish_P x.1, [.d (.arr 32 (.int .u8)) (hfinish_r x.1)])
@[reducible] def hfinish_l1_T  : Tpl := { cur := ⟨[(1, .ptr 0 []), (0, .ptr 1 []), (0, .row 2), (0, .var (.int .i64))], 52⟩, stk := [⟨[], 0⟩], heap := [.box (.var (.pair (.arr 8 (.int .u32)) (.pair (.slc (.int .u8)) (.pair (.int .i64) .unit)))), .box (.var (.arr 32 (.int .u8))), .row 5 (.int .u8) false] }
@[reducible] def hfinish_l3_T  : Tpl := { cur := ⟨[(2, .ptr 0 []), (2, .ptr 1 []), (0, .var (.int .i64)), (0, .var (.int .u32)), (27, .var (.arr 8 (.int .u32))), (0, .var (.int .i64)), (3, .var (.int .i64))], 16⟩, stk := [⟨[], 0⟩], heap := [.box (.var (.arr 32 (.int .u8))), .box (.var (.arr 32 (.int .u8)))] }
@[reducible] def hfinish_l2_T  : Tpl := { cur := ⟨[(2, .ptr 0 []), (2, .ptr 1 []), (29, .var (.arr 8 (.int .u32))), (0, .var (.int .i64))], 20⟩, stk := [⟨[], 0⟩], heap := [.box (.var (.arr 32 (.int .u8))), .box (.var (.arr 32 (.int .u8)))] }
def hfinish_orcs  : List (FuncId × Orc) := [(68, hwrite_orc)]
def hfinish_book0  : Book := { Γ := gam, orc := orcsOf hfinish_orcs, hint := hintsOf [(67, { keep := some [1, 2, 3, 4, 5, 6, 7, 35, 36, 40], keeps := [(4, [1, 2, 3, 4]), (9, [2, 5, 35, 36]), (12, [2, 5, 6, 7, 35, 36, 40])], own := [], dat := [], stk := [] })] }
def hfinish_l1_G (F : Nat) (nx : hfinish_l1_T.T → ZO) (kq : ZK) (x : hfinish_l1_T.T) : ZO := hfinish_l1 F none (fun shift h s2 pad => nx (((), ((), ((), (shift, ())))), (((), ()), (h, (s2, (pad, ())))))) (fun y0 y1 y2 y3 => kq (.exit 0) (hfinish_l1_T.inst (((), ((), ((), (y0, ())))), (((), ()), (y1, (y2, (y3, ()))))))) x.1.2.2.2.1 x.2.2.1 x.2.2.2.1 x.2.2.2.2.1
def hfinish_l1_R (F m : Nat) (x : hfinish_l1_T.T) (kq : ZK) : ZO := hfinish_l1F F none (fun y0 y1 y2 y3 => kq (.exit 0) (hfinish_l1_T.inst (((), ((), ((), (y0, ())))), (((), ()), (y1, (y2, (y3, ()))))))) m x.1.2.2.2.1 x.2.2.1 x.2.2.2.1 x.2.2.2.2.1
def hfinish_l3_G (F : Nat) (nx : hfinish_l3_T.T → ZO) (kq : ZK) (x : hfinish_l3_T.T) : ZO := hfinish_l3 F none (fun i x_ s35 s36 s40 s2 out => nx (((), ((), (i, (x_, (s35, (s36, (s40, ()))))))), (((), ()), (s2, (out, ()))))) (fun y0 y1 y2 y3 y4 y5 y6 => kq (.exit 4) (hfinish_l3_T.inst (((), ((), (y0, (y1, (y2, (y3, (y4, ()))))))), (((), ()), (y5, (y6, ())))))) x.1.2.2.1 x.1.2.2.2.1 x.1.2.2.2.2.1 x.1.2.2.2.2.2.1 x.1.2.2.2.2.2.2.1 x.2.2.1 x.2.2.2.1
def hfinish_l3_R (F m : Nat) (x : hfinish_l3_T.T) (kq : ZK) : ZO := hfinish_l3F F none (fun y0 y1 y2 y3 y4 y5 y6 => kq (.exit 4) (hfinish_l3_T.inst (((), ((), (y0, (y1, (y2, (y3, (y4, ()))))))), (((), ()), (y5, (y6, ())))))) m x.1.2.2.1 x.1.2.2.2.1 x.1.2.2.2.2.1 x.1.2.2.2.2.2.1 x.1.2.2.2.2.2.2.1 x.2.2.1 x.2.2.2.1
def hfinish_l2_G (F : Nat) (nx : hfinish_l2_T.T → ZO) (kq : ZK) (x : hfinish_l2_T.T) : ZO := hfinish_l2 F none (fun s35 s36 s2 out => nx (((), ((), (s35, (s36, ())))), (((), ()), (s2, (out, ()))))) (fun y0 y1 y2 y3 => kq (.exit 2) (hfinish_l2_T.inst (((), ((), (y0, (y1, ())))), (((), ()), (y2, (y3, ())))))) x.1.2.2.1 x.1.2.2.2.1 x.2.2.1 x.2.2.2.1
def hfinish_l2_R (F m : Nat) (x : hfinish_l2_T.T) (kq : ZK) : ZO := hfinish_l2F F none (fun y0 y1 y2 y3 => kq (.exit 2) (hfinish_l2_T.inst (((), ((), (y0, (y1, ())))), (((), ()), (y2, (y3, ())))))) m x.1.2.2.1 x.1.2.2.2.1 x.2.2.1 x.2.2.2.1
def hfinish_lo (F : Nat) : List (LoE Unit) := [⟨67, 4, LO.of hfinish_l1_T (hfinish_l1_R F F)⟩,
 ⟨67, 12, LO.of hfinish_l3_T (hfinish_l3_R F F)⟩,
 ⟨67, 9, LO.of hfinish_l2_T (hfinish_l2_R F F)⟩]
def hfinish_book (F : Nat) : BookL Unit := { toBook := hfinish_book0, lo := losOf (hfinish_lo F), need := needsOf [] }
theorem hfinish_l1_step (F : Nat) : LStep prog (hfinish_book F) F 67 0 4 hfinish_l1_T (hfinish_l1_G F) := fun d x KQ => by kernel_rfl
theorem hfinish_l3_step (F : Nat) : LStep prog (hfinish_book F) F 67 2 12 hfinish_l3_T (hfinish_l3_G F) := fun d x KQ => by kernel_rfl
theorem hfinish_l2_step (F : Nat) : LStep prog (hfinish_book F) F 67 1 9 hfinish_l2_T (hfinish_l2_G F) := fun d x KQ => by kernel_rfl
theorem hfinish_loOk (F : Nat) : LoOk prog (hfinish_book F) F := loOk_of (l := hfinish_lo F) rfl (fa (loOne_of 0 (by kernel_rfl) (by kernel_rfl) (lstep_run (hfinish_l1_step F) (fun _ _ => rfl) (fun _ _ _ _ => rfl))) (fa (loOne_of 2 (by kernel_rfl) (by kernel_rfl) (lstep_run (hfinish_l3_step F) (fun _ _ => rfl) (fun _ _ _ _ => rfl))) (fa (loOne_of 1 (by kernel_rfl) (by kernel_rfl) (lstep_run (hfinish_l2_step F) (fun _ _ => rfl) (fun _ _ _ _ => rfl))) fz)))
theorem hfinish_run (F : Nat) (x : ArgsT hfinish_ps) (kend : List BV → ZO) : runFnL prog (hfinish_book F) F 20 67 (argsInst hfinish_ps x) [.d (.arr 32 (.int .u8))] kend = hfinish F x.1 none (fun y0 => kend [BV.d (.arr 32 (.int .u8)) y0]) := by kernel_rfl
theorem hfinish_contract  : Contract prog 67 hfinish_orc := con_of (B0 := hfinish_book0) zN zG mix_ok zT hfinish_run (orcsOf_ok (fa hwrite_contract fz)) (by kernel_rfl) (fun _ => rfl) hfinish_loOk (fun x h => (hfinish_plain x.1 h).elim fun F hF => ⟨F, fun kend => hF none _⟩)
@[reducible] def dSum_ps  : List PM := [.d (.slc (.int .u8))]
def dSum_orc  : Orc := Orc.of dSum_ps true 0 fun x => (dSum_P x.1, [.d (.arr 32 (.int .u8)) (dSum_r x.1)])
def dSum_orcs  : List (FuncId × Orc) := [(67, hfinish_orc), (68, hwrite_orc), (69, hNew_orc)]
def dSum_book0  : Book := { Γ := gam, orc := orcsOf dSum_orcs, hint := hintsOf [] }
def dSum_lo (F : Nat) : List (LoE Unit) := []
def dSum_book (F : Nat) : BookL Unit := { toBook := dSum_book0, lo := losOf (dSum_lo F), need := needsOf [] }
theorem dSum_loOk (F : Nat) : LoOk prog (dSum_book F) F := loOk_of (l := dSum_lo F) rfl fz
theorem dSum_run (F : Nat) (x : ArgsT dSum_ps) (kend : List BV → ZO) : runFnL prog (dSum_book F) F 20 76 (argsInst dSum_ps x) [.d (.arr 32 (.int .u8))] kend = dSum F x.1 none (fun y0 => kend [BV.d (.arr 32 (.int .u8)) y0]) := by kernel_rfl
theorem dSum_contract  : Contract prog 76 dSum_orc := con_of (B0 := dSum_book0) zN zG mix_ok zT dSum_run (orcsOf_ok (fa hfinish_contract (fa hwrite_contract (fa hNew_contract fz)))) (by kernel_rfl) (fun _ => rfl) dSum_loOk (fun x h => (dSum_plain x.1 h).elim fun F hF => ⟨F, fun kend => hF none _⟩)
end Go.AI
namespace Go.AI
open Go
open Go.Proofs.Try (prog)
set_option linter.unusedVariables false
@[reducible] def padded_ps  : List PM := [.d (.slc (.int .u8)), .d (.int .u8)]
def padded_orc  : Orc := Orc.of padded_ps true 1 fun x => (padded_P x.1 x.2.1, [.o 5 (.int .u8) (padded_r x.1 x.2.1)])
@[reducible] def padded_l1_T  : Tpl := { cur := ⟨[(1, .var (.int .u8)), (4, .row 0), (12, .var (.int .i64)), (0, .var (.int .i64))], 11⟩, stk := [⟨[], 0⟩], heap := [.row 5 (.int .u8) false] }
def padded_orcs  : List (FuncId × Orc) := [(76, dSum_orc)]
def padded_book0  : Book := { Γ := gam, orc := orcsOf padded_orcs, hint := hintsOf [(70, { keep := some [1, 6, 19, 20], keeps := [(7, [1, 6, 19, 20])], own := [], dat := [], stk := [] })] }
def padded_l1_G (F : Nat) (nx : padded_l1_T.T → ZO) (kq : ZK) (x : padded_l1_T.T) : ZO := padded_l1 F none (fun by_ s19 s20 out => nx ((by_, ((), (s19, (s20, ())))), (((), ()), (out, ())))) (fun y0 y1 y2 y3 => kq (.exit 0) (padded_l1_T.inst ((y0, ((), (y1, (y2, ())))), (((), ()), (y3, ()))))) x.1.1 x.1.2.2.1 x.1.2.2.2.1 x.2.2.1
def padded_l1_R (F m : Nat) (x : padded_l1_T.T) (kq : ZK) : ZO := padded_l1F F none (fun y0 y1 y2 y3 => kq (.exit 0) (padded_l1_T.inst ((y0, ((), (y1, (y2, ())))), (((), ()), (y3, ()))))) m x.1.1 x.1.2.2.1 x.1.2.2.2.1 x.2.2.1
def padded_lo (F : Nat) : List (LoE Unit) := [⟨70, 7, LO.of padded_l1_T (padded_l1_R F F)⟩]
def padded_book (F : Nat) : BookL Unit := { toBook := padded_book0, lo := losOf (padded_lo F), need := needsOf [] }
theorem padded_l1_step (F : Nat) : LStep prog (padded_book F) F 70 0 7 padded_l1_T (padded_l1_G F) := fun d x KQ => by kernel_rfl
theorem padded_loOk (F : Nat) : LoOk prog (padded_book F) F := loOk_of (l := padded_lo F) rfl (fa (loOne_of 0 (by kernel_rfl) (by kernel_rfl) (lstep_run (padded_l1_step F) (fun _ _ => rfl) (fun _ _ _ _ => rfl))) fz)
theorem padded_run (F : Nat) (x : ArgsT padded_ps) (kend : List BV → ZO) : runFnL prog (padded_book F) F 20 70 (argsInst padded_ps x) [.o 5 (.int .u8)] kend = padded F x.1 x.2.1 none (fun y0 => kend [BV.o 5 (.int .u8) y0]) := by kernel_rfl
theorem padded_contract  : Contract prog 70 padded_orc := con_of (B0 := padded_book0) zN zG mix_ok zT padded_run (orcsOf_ok (fa dSum_contract fz)) (by kernel_rfl) (fun _ => rfl) padded_loOk (fun x h => (padded_plain x.1 x.2.1 h).elim fun F hF => ⟨F, fun kend => hF none _⟩)
@[reducible] def dMac_ps  : List PM := [.d (.slc (.int .u8)), .d (.slc (.int .u8))]
def dMac_orc  : Orc := Orc.of dMac_ps true 0 fun x => (dMac_P x.1 x.2.1, [.d (.arr 32 (.int .u8)) (dMac_r x.1 x.2.1)])
def dMac_orcs  : List (FuncId × Orc) := [(67, hfinish_orc), (68, hwrite_orc), (69, hNew_orc), (70, padded_orc)]
def dMac_book0  : Book := { Γ := gam, orc := orcsOf dMac_orcs, hint := hintsOf [] }
def dMac_lo (F : Nat) : List (LoE Unit) := []
def dMac_book (F : Nat) : BookL Unit := { toBook := dMac_book0, lo := losOf (dMac_lo F), need := needsOf [] }
theorem dMac_loOk (F : Nat) : LoOk prog (dMac_book F) F := loOk_of (l := dMac_lo F) rfl fz
theorem dMac_run (F : Nat) (x : ArgsT dMac_ps) (kend : List BV → ZO) : runFnL prog (dMac_book F) F 20 57 (argsInst dMac_ps x) [.d (.arr 32 (.int .u8))] kend = dMac F x.1 x.2.1 none (fun y0 => kend [BV.d (.arr 32 (.int .u8)) y0]) := by kernel_rfl
theorem dMac_contract  : Contract prog 57 dMac_orc := con_of (B0 := dMac_book0) zN zG mix_ok zT dMac_run (orcsOf_ok (fa hfinish_contract (fa hwrite_contract (fa hNew_contract (fa padded_contract fz))))) (by kernel_rfl) (fun _ => rfl) dMac_loOk (fun x h => (dMac_plain x.1 x.2.1 h).elim fun F hF => ⟨F, fun kend => hF none _⟩)
end Go.AI
namespace Go.AI
open Go
open Go.Proofs.Try (prog)
set_option linter.unusedVariables false
@[reducible] def rol32_ps  : List PM := [.d (.int .u32), .d (.int .i64)]
def rol32_orc  : Orc := Orc.of rol32_ps true 0 fun x => (rol32_P x.1 x.2.1, [.d (.int .u32) (rol32_r x.1 x.2.1)])
def rol32_orcs  : List (FuncId × Orc) := []
def rol32_book0  : Book := { Γ := gam, orc := orcsOf rol32_orcs, hint := hintsOf [] }
def rol32_lo (F : Nat) : List (LoE Unit) := []
def rol32_book (F : Nat) : BookL Unit := { toBook := rol32_book0, lo := losOf (rol32_lo F), need := needsOf [] }
theorem rol32_loOk (F : Nat) : LoOk prog (rol32_book F) F := loOk_of (l := rol32_lo F) rfl fz
theorem rol32_run (F : Nat) (x : ArgsT rol32_ps) (kend : List BV → ZO) : runFnL prog (rol32_book F) F 20 83 (argsInst rol32_ps x) [.d (.int .u32)] kend = rol32 F x.1 x.2.1 none (fun y0 => kend [BV.d (.int .u32) y0]) := by kernel_rfl
theorem rol32_contract  : Contract prog 83 rol32_orc := con_of (B0 := rol32_book0) zN zG mix_ok zT rol32_run (orcsOf_ok fz) (by kernel_rfl) (fun _ => rfl) rol32_loOk (fun x h => (rol32_plain x.1 x.2.1 h).elim fun F hF => ⟨F, fun kend => hF none _⟩)
@[reducible] def cFirst_ps  : List PM := [.d (.arr 32 (.int .u8)), .d (.int .i64), .d (.int .i64)]
def cFirst_orc  : Orc := Orc.of cFirst_ps true 0 fun x => (cFirst_P x.1 x.2.1 x.2.2.1, [.d (.arr 16 (.int .u32)) (cFirst_r x.1 x.2.1 x.2.2.1)])
@[reducible] def cFirst_l2_T  : Tpl := { cur := ⟨[(1, .var (.int .i64)), (0, .var (.int .i64)), (0, .ptr 0 []), (2, .ptr 1 []), (0, .ptr 2 []), (0, .var (.int .i64)), (2, .var (.int .i64)), (2, .var (.int .i64))], 31⟩, stk := [⟨[], 0⟩], heap := [.box (.var (.arr 32 (.int .u8))), .box (.var (.arr 16 (.int .u32))), .box (.var (.arr 16 (.int .u32)))] }
@[reducible] def cFirst_l1_T  : Tpl := { cur := ⟨[(1, .var (.int .i64)), (0, .var (.int .i64)), (0, .ptr 0 []), (2, .ptr 1 []), (0, .ptr 2 []), (3, .var (.int .i64))], 34⟩, stk := [⟨[], 0⟩], heap := [.box (.var (.arr 32 (.int .u8))), .box (.var (.arr 16 (.int .u32))), .box (.var (.arr 16 (.int .u32)))] }
def cFirst_orcs  : List (FuncId × Orc) := []
def cFirst_book0  : Book := { Γ := gam, orc := orcsOf cFirst_orcs, hint := hintsOf [(72, { keep := some [1, 2, 3, 6, 7, 8, 11, 14], keeps := [(3, [1, 2, 3, 6, 7, 11]), (6, [1, 2, 3, 6, 7, 8, 11, 14])], own := [], dat := [], stk := [] })] }
def cFirst_l2_G (F : Nat) (nx : cFirst_l2_T.T → ZO) (kq : ZK) (x : cFirst_l2_T.T) : ZO := cFirst_l2 F none (fun nonce counter i s11 s14 key s6 w => nx ((nonce, (counter, ((), ((), ((), (i, (s11, (s14, ())))))))), (((), ()), (key, (s6, (w, ())))))) (fun y0 y1 y2 y3 y4 y5 y6 y7 => kq (.exit 2) (cFirst_l2_T.inst ((y0, (y1, ((), ((), ((), (y2, (y3, (y4, ())))))))), (((), ()), (y5, (y6, (y7, ()))))))) x.1.1 x.1.2.1 x.1.2.2.2.2.2.1 x.1.2.2.2.2.2.2.1 x.1.2.2.2.2.2.2.2.1 x.2.2.1 x.2.2.2.1 x.2.2.2.2.1
def cFirst_l2_R (F m : Nat) (x : cFirst_l2_T.T) (kq : ZK) : ZO := cFirst_l2F F none (fun y0 y1 y2 y3 y4 y5 y6 y7 => kq (.exit 2) (cFirst_l2_T.inst ((y0, (y1, ((), ((), ((), (y2, (y3, (y4, ())))))))), (((), ()), (y5, (y6, (y7, ()))))))) m x.1.1 x.1.2.1 x.1.2.2.2.2.2.1 x.1.2.2.2.2.2.2.1 x.1.2.2.2.2.2.2.2.1 x.2.2.1 x.2.2.2.1 x.2.2.2.2.1
def cFirst_l1_G (F : Nat) (nx : cFirst_l1_T.T → ZO) (kq : ZK) (x : cFirst_l1_T.T) : ZO := cFirst_l1 F none (fun nonce counter s11 key s6 w => nx ((nonce, (counter, ((), ((), ((), (s11, ())))))), (((), ()), (key, (s6, (w, ())))))) (fun y0 y1 y2 y3 y4 y5 => kq (.exit 0) (cFirst_l1_T.inst ((y0, (y1, ((), ((), ((), (y2, ())))))), (((), ()), (y3, (y4, (y5, ()))))))) x.1.1 x.1.2.1 x.1.2.2.2.2.2.1 x.2.2.1 x.2.2.2.1 x.2.2.2.2.1
def cFirst_l1_R (F m : Nat) (x : cFirst_l1_T.T) (kq : ZK) : ZO := cFirst_l1F F none (fun y0 y1 y2 y3 y4 y5 => kq (.exit 0) (cFirst_l1_T.inst ((y0, (y1, ((), ((), ((), (y2, ())))))), (((), ()), (y3, (y4, (y5, ()))))))) m x.1.1 x.1.2.1 x.1.2.2.2.2.2.1 x.2.2.1 x.2.2.2.1 x.2.2.2.2.1
def cFirst_lo (F : Nat) : List (LoE Unit) := [⟨72, 6, LO.of cFirst_l2_T (cFirst_l2_R F F)⟩,
 ⟨72, 3, LO.of cFirst_l1_T (cFirst_l1_R F F)⟩]
def cFirst_book (F : Nat) : BookL Unit := { toBook := cFirst_book0, lo := losOf (cFirst_lo F), need := needsOf [] }
theorem cFirst_l2_step (F : Nat) : LStep prog (cFirst_book F) F 72 1 6 cFirst_l2_T (cFirst_l2_G F) := fun d x KQ => by kernel_rfl
theorem cFirst_l1_step (F : Nat) : LStep prog (cFirst_book F) F 72 0 3 cFirst_l1_T (cFirst_l1_G F) := fun d x KQ => by kernel_rfl
theorem cFirst_loOk (F : Nat) : LoOk prog (cFirst_book F) F := loOk_of (l := cFirst_lo F) rfl (fa (loOne_of 1 (by kernel_rfl) (by kernel_rfl) (lstep_run (cFirst_l2_step F) (fun _ _ => rfl) (fun _ _ _ _ => rfl))) (fa (loOne_of 0 (by kernel_rfl) (by kernel_rfl) (lstep_run (cFirst_l1_step F) (fun _ _ => rfl) (fun _ _ _ _ => rfl))) fz))
theorem cFirst_run (F : Nat) (x : ArgsT cFirst_ps) (kend : List BV → ZO) : runFnL prog (cFirst_book F) F 20 72 (argsInst cFirst_ps x) [.d (.arr 16 (.int .u32))] kend = cFirst F x.1 x.2.1 x.2.2.1 none (fun y0 => kend [BV.d (.arr 16 (.int .u32)) y0]) := by kernel_rfl
theorem cFirst_contract  : Contract prog 72 cFirst_orc := con_of (B0 := cFirst_book0) zN zG mix_ok zT cFirst_run (orcsOf_ok fz) (by kernel_rfl) (fun _ => rfl) cFirst_loOk (fun x h => (cFirst_plain x.1 x.2.1 x.2.2.1 h).elim fun F hF => ⟨F, fun kend => hF none _⟩)
@[reducible] def cBlk_ps  : List PM := [.d (.arr 32 (.int .u8)), .d (.int .i64), .d (.int .i64)]
def cBlk_orc  : Orc := Orc.of cBlk_ps true 1 fun x => (cBlk_P x.1 x.2.1 x.2.2.1, [.o 5 (.int .u8) (cBlk_r x.1 x.2.1 x.2.2.1)])
@[reducible] def cBlk_l3_T  : Tpl := { cur := ⟨[(0, .ptr 0 []), (29, .var (.arr 4 (.pair (.int .i64) (.pair (.int .i64) (.pair (.int .i64) (.pair (.int .i64) .unit)))))), (0, .var (.int .i64))], 39⟩, stk := [⟨[(2, .mv 77 (.pr (.ptr 0 []) (.un))), (4, .var (.int .i64)), (1, .var (.int .i64))], 32⟩, ⟨[(7, .ptr 1 []), (0, .ptr 0 [])], 35⟩, ⟨[], 0⟩], heap := [.box (.var (.arr 16 (.int .u32))), .box (.var (.arr 16 (.int .u32)))] }
@[reducible] def cBlk_l2_T  : Tpl := { cur := ⟨[(2, .mv 77 (.pr (.ptr 0 []) (.un))), (4, .var (.int .i64)), (1, .var (.int .i64))], 32⟩, stk := [⟨[(7, .ptr 1 []), (0, .ptr 0 [])], 35⟩, ⟨[], 0⟩], heap := [.box (.var (.arr 16 (.int .u32))), .box (.var (.arr 16 (.int .u32)))] }
@[reducible] def cBlk_l5_T  : Tpl := { cur := ⟨[(0, .ptr 0 []), (29, .var (.arr 4 (.pair (.int .i64) (.pair (.int .i64) (.pair (.int .i64) (.pair (.int .i64) .unit)))))), (0, .var (.int .i64))], 39⟩, stk := [⟨[(2, .mv 77 (.pr (.ptr 0 []) (.un))), (4, .var (.int .i64)), (14, .var (.int .i64))], 19⟩, ⟨[(7, .ptr 1 []), (0, .ptr 0 [])], 35⟩, ⟨[], 0⟩], heap := [.box (.var (.arr 16 (.int .u32))), .box (.var (.arr 16 (.int .u32)))] }
@[reducible] def cBlk_l4_T  : Tpl := { cur := ⟨[(2, .mv 77 (.pr (.ptr 0 []) (.un))), (4, .var (.int .i64)), (14, .var (.int .i64))], 19⟩, stk := [⟨[(7, .ptr 1 []), (0, .ptr 0 [])], 35⟩, ⟨[], 0⟩], heap := [.box (.var (.arr 16 (.int .u32))), .box (.var (.arr 16 (.int .u32)))] }
@[reducible] def cBlk_l1_T  : Tpl := { cur := ⟨[(2, .mv 77 (.pr (.ptr 0 []) (.un))), (4, .var (.int .i64))], 34⟩, stk := [⟨[(7, .ptr 1 []), (0, .ptr 0 [])], 35⟩, ⟨[], 0⟩], heap := [.box (.var (.arr 16 (.int .u32))), .box (.var (.arr 16 (.int .u32)))] }
@[reducible] def cBlk_l6_T  : Tpl := { cur := ⟨[(7, .ptr 0 []), (1, .row 1), (8, .var (.arr 16 (.int .u32))), (0, .var (.int .i64))], 24⟩, stk := [⟨[], 0⟩], heap := [.box (.var (.arr 16 (.int .u32))), .row 5 (.int .u8) false] }
def cBlk_orcs  : List (FuncId × Orc) := [(72, cFirst_orc), (83, rol32_orc)]
def cBlk_book0  : Book := { Γ := gam, orc := orcsOf cBlk_orcs, hint := hintsOf [(60, { keep := some [7, 9, 18, 19], keeps := [(6, [7, 9, 18, 19])], own := [(9, 23)], dat := [], stk := [] }), (73, { keep := some [2, 7, 9, 22], keeps := [(2, [2, 7]), (4, [2, 7, 9]), (9, [2, 7, 22])], own := [], dat := [], stk := [[7, 8]] }), (77, { keep := some [0, 30, 31], keeps := [(2, [0, 30, 31])], own := [], dat := [], stk := [[2, 7, 9, 22], [7, 8]] })] }
def cBlk_l3_G (F : Nat) (nx : cBlk_l3_T.T → ZO) (kq : ZK) (x : cBlk_l3_T.T) : ZO := cBlk_l3 F none (fun s30 s31 s7 s9 w w1 => nx (((), (s30, (s31, ()))), (((((), ()), (s7, (s9, ()))), (((), ((), ())), ((), ()))), (w, (w1, ()))))) (fun y0 y1 y2 y3 y4 y5 => kq (.exit 0) (cBlk_l3_T.inst (((), (y0, (y1, ()))), (((((), ()), (y2, (y3, ()))), (((), ((), ())), ((), ()))), (y4, (y5, ())))))) x.1.2.1 x.1.2.2.1 x.2.1.1.2.1 x.2.1.1.2.2.1 x.2.2.1 x.2.2.2.1
def cBlk_l3_R (F m : Nat) (x : cBlk_l3_T.T) (kq : ZK) : ZO := cBlk_l3F F none (fun y0 y1 y2 y3 y4 y5 => kq (.exit 0) (cBlk_l3_T.inst (((), (y0, (y1, ()))), (((((), ()), (y2, (y3, ()))), (((), ((), ())), ((), ()))), (y4, (y5, ())))))) m x.1.2.1 x.1.2.2.1 x.2.1.1.2.1 x.2.1.1.2.2.1 x.2.2.1 x.2.2.2.1
def cBlk_l2_G (F : Nat) (nx : cBlk_l2_T.T → ZO) (kq : ZK) (x : cBlk_l2_T.T) : ZO := cBlk_l2 F none (fun s7 s9 change w => nx ((((), ()), (s7, (s9, ()))), ((((), ((), ())), ((), ())), (change, (w, ()))))) (fun y0 y1 y2 y3 => kq (.exit 2) (cBlk_l2_T.inst ((((), ()), (y0, (y1, ()))), ((((), ((), ())), ((), ())), (y2, (y3, ())))))) x.1.2.1 x.1.2.2.1 x.2.2.1 x.2.2.2.1
def cBlk_l2_R (F m : Nat) (x : cBlk_l2_T.T) (kq : ZK) : ZO := cBlk_l2F F none (fun y0 y1 y2 y3 => kq (.exit 2) (cBlk_l2_T.inst ((((), ()), (y0, (y1, ()))), ((((), ((), ())), ((), ())), (y2, (y3, ())))))) m x.1.2.1 x.1.2.2.1 x.2.2.1 x.2.2.2.1
def cBlk_l5_G (F : Nat) (nx : cBlk_l5_T.T → ZO) (kq : ZK) (x : cBlk_l5_T.T) : ZO := cBlk_l5 F none (fun s30 s31 s7 s22 w w1 => nx (((), (s30, (s31, ()))), (((((), ()), (s7, (s22, ()))), (((), ((), ())), ((), ()))), (w, (w1, ()))))) (fun y0 y1 y2 y3 y4 y5 => kq (.exit 0) (cBlk_l5_T.inst (((), (y0, (y1, ()))), (((((), ()), (y2, (y3, ()))), (((), ((), ())), ((), ()))), (y4, (y5, ())))))) x.1.2.1 x.1.2.2.1 x.2.1.1.2.1 x.2.1.1.2.2.1 x.2.2.1 x.2.2.2.1
def cBlk_l5_R (F m : Nat) (x : cBlk_l5_T.T) (kq : ZK) : ZO := cBlk_l5F F none (fun y0 y1 y2 y3 y4 y5 => kq (.exit 0) (cBlk_l5_T.inst (((), (y0, (y1, ()))), (((((), ()), (y2, (y3, ()))), (((), ((), ())), ((), ()))), (y4, (y5, ())))))) m x.1.2.1 x.1.2.2.1 x.2.1.1.2.1 x.2.1.1.2.2.1 x.2.2.1 x.2.2.2.1
def cBlk_l4_G (F : Nat) (nx : cBlk_l4_T.T → ZO) (kq : ZK) (x : cBlk_l4_T.T) : ZO := cBlk_l4 F none (fun s7 s22 change w => nx ((((), ()), (s7, (s22, ()))), ((((), ((), ())), ((), ())), (change, (w, ()))))) (fun y0 y1 y2 y3 => kq (.exit 4) (cBlk_l4_T.inst ((((), ()), (y0, (y1, ()))), ((((), ((), ())), ((), ())), (y2, (y3, ())))))) x.1.2.1 x.1.2.2.1 x.2.2.1 x.2.2.2.1
def cBlk_l4_R (F m : Nat) (x : cBlk_l4_T.T) (kq : ZK) : ZO := cBlk_l4F F none (fun y0 y1 y2 y3 => kq (.exit 4) (cBlk_l4_T.inst ((((), ()), (y0, (y1, ()))), ((((), ((), ())), ((), ())), (y2, (y3, ())))))) m x.1.2.1 x.1.2.2.1 x.2.2.1 x.2.2.2.1
def cBlk_l1_G (F : Nat) (nx : cBlk_l1_T.T → ZO) (kq : ZK) (x : cBlk_l1_T.T) : ZO := cBlk_l1 F none (fun s7 change w => nx ((((), ()), (s7, ())), ((((), ((), ())), ((), ())), (change, (w, ()))))) (fun y0 y1 y2 => kq (.exit 0) (cBlk_l1_T.inst ((((), ()), (y0, ())), ((((), ((), ())), ((), ())), (y1, (y2, ())))))) x.1.2.1 x.2.2.1 x.2.2.2.1
def cBlk_l1_R (F m : Nat) (x : cBlk_l1_T.T) (kq : ZK) : ZO := cBlk_l1F F none (fun y0 y1 y2 => kq (.exit 0) (cBlk_l1_T.inst ((((), ()), (y0, ())), ((((), ((), ())), ((), ())), (y1, (y2, ())))))) m x.1.2.1 x.2.2.1 x.2.2.2.1
def cBlk_l6_G (F : Nat) (nx : cBlk_l6_T.T → ZO) (kq : ZK) (x : cBlk_l6_T.T) : ZO := cBlk_l6 F none (fun s18 s19 w out => nx (((), ((), (s18, (s19, ())))), (((), ()), (w, (out, ()))))) (fun y0 y1 y2 y3 => kq (.exit 0) (cBlk_l6_T.inst (((), ((), (y0, (y1, ())))), (((), ()), (y2, (y3, ())))))) x.1.2.2.1 x.1.2.2.2.1 x.2.2.1 x.2.2.2.1
def cBlk_l6_R (F m : Nat) (x : cBlk_l6_T.T) (kq : ZK) : ZO := cBlk_l6F F none (fun y0 y1 y2 y3 => kq (.exit 0) (cBlk_l6_T.inst (((), ((), (y0, (y1, ())))), (((), ()), (y2, (y3, ())))))) m x.1.2.2.1 x.1.2.2.2.1 x.2.2.1 x.2.2.2.1
def cBlk_lo (F : Nat) : List (LoE Unit) := [⟨77, 2, LO.orT cBlk_l3_T (cBlk_l3_R F F) (LO.of cBlk_l5_T (cBlk_l5_R F F))⟩,
 ⟨73, 4, LO.of cBlk_l2_T (cBlk_l2_R F F)⟩,
 ⟨73, 9, LO.of cBlk_l4_T (cBlk_l4_R F F)⟩,
 ⟨73, 2, LO.of cBlk_l1_T (cBlk_l1_R F F)⟩,
 ⟨60, 6, LO.of cBlk_l6_T (cBlk_l6_R F F)⟩]
def cBlk_book (F : Nat) : BookL Unit := { toBook := cBlk_book0, lo := losOf (cBlk_lo F), need := needsOf [(73, 1)] }
theorem cBlk_l3_step (F : Nat) : LStep prog (cBlk_book F) F 77 0 2 cBlk_l3_T (cBlk_l3_G F) := fun d x KQ => by kernel_rfl
theorem cBlk_l2_step (F : Nat) : LStep prog (cBlk_book F) F 73 1 4 cBlk_l2_T (cBlk_l2_G F) := fun d x KQ => by kernel_rfl
theorem cBlk_l5_step (F : Nat) : LStep prog (cBlk_book F) F 77 0 2 cBlk_l5_T (cBlk_l5_G F) := fun d x KQ => by kernel_rfl
theorem cBlk_l4_step (F : Nat) : LStep prog (cBlk_book F) F 73 2 9 cBlk_l4_T (cBlk_l4_G F) := fun d x KQ => by kernel_rfl
theorem cBlk_l1_step (F : Nat) : LStep prog (cBlk_book F) F 73 0 2 cBlk_l1_T (cBlk_l1_G F) := fun d x KQ => by kernel_rfl
theorem cBlk_l6_step (F : Nat) : LStep prog (cBlk_book F) F 60 0 6 cBlk_l6_T (cBlk_l6_G F) := fun d x KQ => by kernel_rfl
theorem cBlk_loOk (F : Nat) : LoOk prog (cBlk_book F) F := loOk_of (l := cBlk_lo F) rfl (fa (loOne_of 0 (by kernel_rfl) (by kernel_rfl) (loIs_orT (lstep_run (cBlk_l3_step F) (fun _ _ => rfl) (fun _ _ _ _ => rfl)) (lstep_run (cBlk_l5_step F) (fun _ _ => rfl) (fun _ _ _ _ => rfl)))) (fa (loOne_of 1 (by kernel_rfl) (by kernel_rfl) (lstep_run (cBlk_l2_step F) (fun _ _ => rfl) (fun _ _ _ _ => rfl))) (fa (loOne_of 2 (by kernel_rfl) (by kernel_rfl) (lstep_run (cBlk_l4_step F) (fun _ _ => rfl) (fun _ _ _ _ => rfl))) (fa (loOne_of 0 (by kernel_rfl) (by kernel_rfl) (lstep_run (cBlk_l1_step F) (fun _ _ => rfl) (fun _ _ _ _ => rfl))) (fa (loOne_of 0 (by kernel_rfl) (by kernel_rfl) (lstep_run (cBlk_l6_step F) (fun _ _ => rfl) (fun _ _ _ _ => rfl))) fz)))))
theorem cBlk_run (F : Nat) (x : ArgsT cBlk_ps) (kend : List BV → ZO) : runFnL prog (cBlk_book F) F 20 60 (argsInst cBlk_ps x) [.o 5 (.int .u8)] kend = cBlk F x.1 x.2.1 x.2.2.1 none (fun y0 => kend [BV.o 5 (.int .u8) y0]) := by kernel_rfl
theorem cBlk_contract  : Contract prog 60 cBlk_orc := con_of (B0 := cBlk_book0) zN zG mix_ok zT cBlk_run (orcsOf_ok (fa cFirst_contract (fa rol32_contract fz))) (by kernel_rfl) (fun _ => rfl) cBlk_loOk (fun x h => (cBlk_plain x.1 x.2.1 x.2.2.1 h).elim fun F hF => ⟨F, fun kend => hF none _⟩)
@[reducible] def cRange_ps  : List PM := [.d (.int .i64)]
def cRange_orc  : Orc := Orc.of cRange_ps true 0 fun x => (true, [.d .bool (cRange_r x.1)])
def cRange_orcs  : List (FuncId × Orc) := []
def cRange_book0  : Book := { Γ := gam, orc := orcsOf cRange_orcs, hint := hintsOf [] }
def cRange_lo (F : Nat) : List (LoE Unit) := []
def cRange_book (F : Nat) : BookL Unit := { toBook := cRange_book0, lo := losOf (cRange_lo F), need := needsOf [] }
theorem cRange_loOk (F : Nat) : LoOk prog (cRange_book F) F := loOk_of (l := cRange_lo F) rfl fz
theorem cRange_run (F : Nat) (x : ArgsT cRange_ps) (kend : List BV → ZO) : runFnL prog (cRange_book F) F 20 58 (argsInst cRange_ps x) [.d .bool] kend = cRange F x.1 none (fun y0 => kend [BV.d .bool y0]) := by kernel_rfl
theorem cRange_contract  : Contract prog 58 cRange_orc := con_of (B0 := cRange_book0) zN zG mix_ok zT cRange_run (orcsOf_ok fz) (by kernel_rfl) (fun _ => rfl) cRange_loOk (fun x _ => (cRange_plain x.1).elim fun F hF => ⟨F, fun kend => hF none _⟩)
end Go.AI
namespace Go.AI
open Go
open Go.Proofs.Try (prog)
set_option linter.unusedVariables false
@[reducible] def cStream_ps  : List PM := [.d (.arr 32 (.int .u8)), .d (.int .i64), .d (.slc (.int .u8))]
def cStream_orc  : Orc := Orc.of cStream_ps true 1 fun x => (cStream_P x.1 x.2.1 x.2.2.1, [.o 5 (.int .u8) (cStream_r0 x.1 x.2.1 x.2.2.1), .d (.int .i64) (cStream_r1 x.1 x.2.1 x.2.2.1)])
@[reducible] def cStream_l2_T  : Tpl := { cur := ⟨[(9, .ptr 0 []), (0, .sl 1), (0, .row 2), (19, .var (.int .i64)), (0, .var (.int .i64))], 16⟩, stk := [⟨[(0, .hnd .yield 3)], 0⟩, ⟨[(0, .hnd .yield 3), (0, .ptr 6 []), (0, .ptr 7 []), (1, .var (.int .i64))], 26⟩, ⟨[(0, .hnd .yield 3)], 0⟩, ⟨[(2, .var (.slc (.int .u8))), (0, .ptr 4 []), (0, .ptr 5 []), (1, .nils), (0, .var (.int .i64)), (0, .row 1), (0, .ptr 0 [])], 39⟩, ⟨[], 0⟩], heap := [.box (.var (.int .i64)), .row 5 (.int .u8) false, .row 5 (.int .u8) false, .lp 47 8 ⟨[(3, .ptr 4 []), (0, .ptr 5 []), (4, .ptr 0 [])], 39⟩ .busy, .box (.var (.arr 32 (.int .u8))), .box (.var (.int .i64)), .box (.row 1), .box (.var (.int .i64))] }
@[reducible] def cStream_l1_T  : Tpl := { cur := ⟨[(0, .hnd .yield 0), (0, .ptr 4 []), (0, .ptr 6 []), (1, .var (.int .i64))], 26⟩, stk := [⟨[(0, .hnd .yield 0)], 0⟩, ⟨[(2, .var (.slc (.int .u8))), (0, .ptr 1 []), (0, .ptr 2 []), (1, .nils), (0, .var (.int .i64)), (0, .row 5), (0, .ptr 3 [])], 39⟩, ⟨[], 0⟩], heap := [.lp 47 8 ⟨[(3, .ptr 1 []), (0, .ptr 2 []), (4, .ptr 3 [])], 39⟩ .ready, .box (.var (.arr 32 (.int .u8))), .box (.var (.int .i64)), .box (.var (.int .i64)), .box (.row 5), .row 5 (.int .u8) false, .box (.var (.int .i64))] }
def cStream_orcs  : List (FuncId × Orc) := [(33, clone_byte_orc), (58, cRange_orc), (60, cBlk_orc)]
def cStream_book0  : Book := { Γ := gam, orc := orcsOf cStream_orcs, hint := hintsOf [(47, { keep := some [9, 10, 11, 31, 32], keeps := [(11, [9, 10, 11, 31, 32])], own := [], dat := [], stk := [[0], [0, 1, 2, 4], [0], [2, 3, 4, 6, 7, 8, 9, 10, 11, 12, 25, 31, 32, 33]] }), (71, { keep := some [0, 1, 2, 4], keeps := [(1, [0, 1, 2, 4])], own := [], dat := [], stk := [[0], [2, 3, 4, 6, 7, 8, 9, 10, 11, 12, 25, 31, 32, 33]] })] }
def cStream_l2_G (F : Nat) (nx : cStream_l2_T.T → ZO) (kq : ZK) (x : cStream_l2_T.T) : ZO := cStream_l2 F none (fun part_i part_n s31 s32 i b s7 counter part s key nonce s2 => nx (((), ((part_i, part_n), ((), (s31, (s32, ()))))), ((((), ()), (((), ((), ((), (i, ())))), (((), ()), ((b, ((), ((), ((), (s7, ((), ((), ()))))))), ((), ()))))), (counter, (part, (s, (((), ((), ((), ()))), (key, (nonce, ((), (s2, ()))))))))))) (fun y0 y1 y2 y3 y4 y5 y6 y7 y8 y9 y10 y11 y12 => kq (.exit 3) (cStream_l2_T.inst (((), ((y0, y1), ((), (y2, (y3, ()))))), ((((), ()), (((), ((), ((), (y4, ())))), (((), ()), ((y5, ((), ((), ((), (y6, ((), ((), ()))))))), ((), ()))))), (y7, (y8, (y9, (((), ((), ((), ()))), (y10, (y11, ((), (y12, ())))))))))))) x.1.2.1.1 x.1.2.1.2 x.1.2.2.2.1 x.1.2.2.2.2.1 x.2.1.2.1.2.2.2.1 x.2.1.2.2.2.1.1 x.2.1.2.2.2.1.2.2.2.2.1 x.2.2.1 x.2.2.2.1 x.2.2.2.2.1 x.2.2.2.2.2.2.1 x.2.2.2.2.2.2.2.1 x.2.2.2.2.2.2.2.2.2.1
def cStream_l2_R (F m : Nat) (x : cStream_l2_T.T) (kq : ZK) : ZO := cStream_l2F F none (fun y0 y1 y2 y3 y4 y5 y6 y7 y8 y9 y10 y11 y12 => kq (.exit 3) (cStream_l2_T.inst (((), ((y0, y1), ((), (y2, (y3, ()))))), ((((), ()), (((), ((), ((), (y4, ())))), (((), ()), ((y5, ((), ((), ((), (y6, ((), ((), ()))))))), ((), ()))))), (y7, (y8, (y9, (((), ((), ((), ()))), (y10, (y11, ((), (y12, ())))))))))))) m x.1.2.1.1 x.1.2.1.2 x.1.2.2.2.1 x.1.2.2.2.2.1 x.2.1.2.1.2.2.2.1 x.2.1.2.2.2.1.1 x.2.1.2.2.2.1.2.2.2.2.1 x.2.2.1 x.2.2.2.1 x.2.2.2.2.1 x.2.2.2.2.2.2.1 x.2.2.2.2.2.2.2.1 x.2.2.2.2.2.2.2.2.2.1
def cStream_l1_G (F : Nat) (nx : cStream_l1_T.T → ZO) (kq : ZK) (x : cStream_l1_T.T) : ZO := cStream_l1 F none (fun i b s7 key nonce counter out s2 => nx (((), ((), ((), (i, ())))), ((((), ()), ((b, ((), ((), ((), (s7, ((), ((), ()))))))), ((), ()))), (((), ((), ((), ()))), (key, (nonce, (counter, ((), (out, (s2, ())))))))))) (fun y0 y1 y2 y3 y4 y5 y6 y7 => kq (.exit 0) (cStream_l1_T.inst (((), ((), ((), (y0, ())))), ((((), ()), ((y1, ((), ((), ((), (y2, ((), ((), ()))))))), ((), ()))), (((), ((), ((), ()))), (y3, (y4, (y5, ((), (y6, (y7, ()))))))))))) x.1.2.2.2.1 x.2.1.2.1.1 x.2.1.2.1.2.2.2.2.1 x.2.2.2.1 x.2.2.2.2.1 x.2.2.2.2.2.1 x.2.2.2.2.2.2.2.1 x.2.2.2.2.2.2.2.2.1
def cStream_l1_R (F m : Nat) (x : cStream_l1_T.T) (kq : ZK) : ZO := cStream_l1F F none (fun y0 y1 y2 y3 y4 y5 y6 y7 => kq (.exit 0) (cStream_l1_T.inst (((), ((), ((), (y0, ())))), ((((), ()), ((y1, ((), ((), ((), (y2, ((), ((), ()))))))), ((), ()))), (((), ((), ((), ()))), (y3, (y4, (y5, ((), (y6, (y7, ()))))))))))) m x.1.2.2.2.1 x.2.1.2.1.1 x.2.1.2.1.2.2.2.2.1 x.2.2.2.1 x.2.2.2.2.1 x.2.2.2.2.2.1 x.2.2.2.2.2.2.2.1 x.2.2.2.2.2.2.2.2.1
def cStream_lo (F : Nat) : List (LoE Unit) := [⟨47, 11, LO.of cStream_l2_T (cStream_l2_R F F)⟩,
 ⟨71, 1, LO.of cStream_l1_T (cStream_l1_R F F)⟩]
def cStream_book (F : Nat) : BookL Unit := { toBook := cStream_book0, lo := losOf (cStream_lo F), need := needsOf [(71, 1)] }
theorem cStream_l2_step (F : Nat) : LStep prog (cStream_book F) F 47 0 11 cStream_l2_T (cStream_l2_G F) := fun d x KQ => by kernel_rfl
theorem cStream_l1_step (F : Nat) : LStep prog (cStream_book F) F 71 0 1 cStream_l1_T (cStream_l1_G F) := fun d x KQ => by kernel_rfl
theorem cStream_loOk (F : Nat) : LoOk prog (cStream_book F) F := loOk_of (l := cStream_lo F) rfl (fa (loOne_of 0 (by kernel_rfl) (by kernel_rfl) (lstep_run (cStream_l2_step F) (fun _ _ => rfl) (fun _ _ _ _ => rfl))) (fa (loOne_of 0 (by kernel_rfl) (by kernel_rfl) (lstep_run (cStream_l1_step F) (fun _ _ => rfl) (fun _ _ _ _ => rfl))) fz))
theorem cStream_run (F : Nat) (x : ArgsT cStream_ps) (kend : List BV → ZO) : runFnL prog (cStream_book F) F 20 47 (argsInst cStream_ps x) [.o 5 (.int .u8), .d (.int .i64)] kend = cStream F x.1 x.2.1 x.2.2.1 none (fun y0 y1 => kend [BV.o 5 (.int .u8) y0, BV.d (.int .i64) y1]) := by kernel_rfl
theorem cStream_contract  : Contract prog 47 cStream_orc := con_of (B0 := cStream_book0) zN zG mix_ok zT cStream_run (orcsOf_ok (fa clone_byte_contract (fa cRange_contract (fa cBlk_contract fz)))) (by kernel_rfl) (fun _ => rfl) cStream_loOk (fun x h => (cStream_plain x.1 x.2.1 x.2.2.1 h).elim fun F hF => ⟨F, fun kend => hF none _⟩)
@[reducible] def cKeys_ps  : List PM := [.d (.slc (.int .u8))]
def cKeys_orc  : Orc := Orc.of cKeys_ps true 0 fun x => (cKeys_P x.1, [.d (.arr 32 (.int .u8)) (cKeys_r0 x.1), .d (.arr 32 (.int .u8)) (cKeys_r1 x.1)])
def cKeys_orcs  : List (FuncId × Orc) := [(57, dMac_orc)]
def cKeys_book0  : Book := { Γ := gam, orc := orcsOf cKeys_orcs, hint := hintsOf [] }
def cKeys_lo (F : Nat) : List (LoE Unit) := []
def cKeys_book (F : Nat) : BookL Unit := { toBook := cKeys_book0, lo := losOf (cKeys_lo F), need := needsOf [] }
theorem cKeys_loOk (F : Nat) : LoOk prog (cKeys_book F) F := loOk_of (l := cKeys_lo F) rfl fz
theorem cKeys_run (F : Nat) (x : ArgsT cKeys_ps) (kend : List BV → ZO) : runFnL prog (cKeys_book F) F 20 46 (argsInst cKeys_ps x) [.d (.arr 32 (.int .u8)), .d (.arr 32 (.int .u8))] kend = cKeys F x.1 none (fun y0 y1 => kend [BV.d (.arr 32 (.int .u8)) y0, BV.d (.arr 32 (.int .u8)) y1]) := by kernel_rfl
theorem cKeys_contract  : Contract prog 46 cKeys_orc := con_of (B0 := cKeys_book0) zN zG mix_ok zT cKeys_run (orcsOf_ok (fa dMac_contract fz)) (by kernel_rfl) (fun _ => rfl) cKeys_loOk (fun x h => (cKeys_plain x.1 h).elim fun F hF => ⟨F, fun kend => hF none _⟩)
@[reducible] def cUsable_ps  : List PM := [.d (.slc (.int .u8))]
def cUsable_orc  : Orc := Orc.of cUsable_ps true 0 fun x => (true, [.d .bool (cUsable_r x.1)])
def cUsable_orcs  : List (FuncId × Orc) := []
def cUsable_book0  : Book := { Γ := gam, orc := orcsOf cUsable_orcs, hint := hintsOf [] }
def cUsable_lo (F : Nat) : List (LoE Unit) := []
def cUsable_book (F : Nat) : BookL Unit := { toBook := cUsable_book0, lo := losOf (cUsable_lo F), need := needsOf [] }
theorem cUsable_loOk (F : Nat) : LoOk prog (cUsable_book F) F := loOk_of (l := cUsable_lo F) rfl fz
theorem cUsable_run (F : Nat) (x : ArgsT cUsable_ps) (kend : List BV → ZO) : runFnL prog (cUsable_book F) F 20 45 (argsInst cUsable_ps x) [.d .bool] kend = cUsable F x.1 none (fun y0 => kend [BV.d .bool y0]) := by kernel_rfl
theorem cUsable_contract  : Contract prog 45 cUsable_orc := con_of (B0 := cUsable_book0) zN zG mix_ok zT cUsable_run (orcsOf_ok fz) (by kernel_rfl) (fun _ => rfl) cUsable_loOk (fun x _ => (cUsable_plain x.1).elim fun F hF => ⟨F, fun kend => hF none _⟩)
@[reducible] def cSeal_ps  : List PM := [.d (.slc (.int .u8)), .d (.int .i64), .d (.slc (.int .u8))]
def cSeal_orc  : Orc := Orc.of cSeal_ps true 1 fun x => (cSeal_P x.1 x.2.1 x.2.2.1, [.o 5 (.int .u8) (cSeal_r0 x.1 x.2.1 x.2.2.1), .d (.int .i64) (cSeal_r1 x.1 x.2.1 x.2.2.1)])
@[reducible] def cSeal_l1_T  : Tpl := { cur := ⟨[(1, .var (.int .i64)), (0, .row 0), (0, .ptr 1 []), (3, .row 2), (2, .var (.int .i64))], 17⟩, stk := [⟨[(0, .var (.slc (.int .u8))), (0, .var (.int .i64)), (0, .var (.slc (.int .u8))), (6, .ptr 3 []), (25, .row 0)], 5⟩, ⟨[], 0⟩], heap := [.row 5 (.int .u8) false, .box (.var (.arr 32 (.int .u8))), .row 5 (.int .u8) false, .box (.var (.arr 32 (.int .u8)))] }
def cSeal_orcs  : List (FuncId × Orc) := [(45, cUsable_orc), (46, cKeys_orc), (47, cStream_orc), (57, dMac_orc)]
def cSeal_book0  : Book := { Γ := gam, orc := orcsOf cSeal_orcs, hint := hintsOf [(48, { keep := some [1, 2, 3, 7, 10], keeps := [(3, [1, 2, 3, 7, 10])], own := [(7, 23)], dat := [], stk := [[0, 1, 2, 9, 35]] })] }
def cSeal_l1_G (F : Nat) (nx : cSeal_l1_T.T → ZO) (kq : ZK) (x : cSeal_l1_T.T) : ZO := cSeal_l1 F none (fun nonce s10 key nonce1 b b1 key1 l authenticate => nx ((nonce, ((), ((), ((), (s10, ()))))), (((key, (nonce1, (b, ((), ((), ()))))), ((), ())), (b1, (key1, (l, (authenticate, ()))))))) (fun y0 y1 y2 y3 y4 y5 y6 y7 y8 => kq (.exit 0) (cSeal_l1_T.inst ((y0, ((), ((), ((), (y1, ()))))), (((y2, (y3, (y4, ((), ((), ()))))), ((), ())), (y5, (y6, (y7, (y8, ())))))))) x.1.1 x.1.2.2.2.2.1 x.2.1.1.1 x.2.1.1.2.1 x.2.1.1.2.2.1 x.2.2.1 x.2.2.2.1 x.2.2.2.2.1 x.2.2.2.2.2.1
def cSeal_l1_R (F m : Nat) (x : cSeal_l1_T.T) (kq : ZK) : ZO := cSeal_l1F F none (fun y0 y1 y2 y3 y4 y5 y6 y7 y8 => kq (.exit 0) (cSeal_l1_T.inst ((y0, ((), ((), ((), (y1, ()))))), (((y2, (y3, (y4, ((), ((), ()))))), ((), ())), (y5, (y6, (y7, (y8, ())))))))) m x.1.1 x.1.2.2.2.2.1 x.2.1.1.1 x.2.1.1.2.1 x.2.1.1.2.2.1 x.2.2.1 x.2.2.2.1 x.2.2.2.2.1 x.2.2.2.2.2.1
def cSeal_lo (F : Nat) : List (LoE Unit) := [⟨48, 3, LO.of cSeal_l1_T (cSeal_l1_R F F)⟩]
def cSeal_book (F : Nat) : BookL Unit := { toBook := cSeal_book0, lo := losOf (cSeal_lo F), need := needsOf [] }
theorem cSeal_l1_step (F : Nat) : LStep prog (cSeal_book F) F 48 0 3 cSeal_l1_T (cSeal_l1_G F) := fun d x KQ => by kernel_rfl
theorem cSeal_loOk (F : Nat) : LoOk prog (cSeal_book F) F := loOk_of (l := cSeal_lo F) rfl (fa (loOne_of 0 (by kernel_rfl) (by kernel_rfl) (lstep_run (cSeal_l1_step F) (fun _ _ => rfl) (fun _ _ _ _ => rfl))) fz)
theorem cSeal_run (F : Nat) (x : ArgsT cSeal_ps) (kend : List BV → ZO) : runFnL prog (cSeal_book F) F 20 30 (argsInst cSeal_ps x) [.o 5 (.int .u8), .d (.int .i64)] kend = cSeal F x.1 x.2.1 x.2.2.1 none (fun y0 y1 => kend [BV.o 5 (.int .u8) y0, BV.d (.int .i64) y1]) := by kernel_rfl
theorem cSeal_contract  : Contract prog 30 cSeal_orc := con_of (B0 := cSeal_book0) zN zG mix_ok zT cSeal_run (orcsOf_ok (fa cUsable_contract (fa cKeys_contract (fa cStream_contract (fa dMac_contract fz))))) (by kernel_rfl) (fun _ => rfl) cSeal_loOk (fun x h => (cSeal_plain x.1 x.2.1 x.2.2.1 h).elim fun F hF => ⟨F, fun kend => hF none _⟩)
end Go.AI

namespace Go.AI
open Go
open Go.Proofs.Try (prog)
set_option linter.unusedVariables false
@[reducible] def shifted_ps  : List PM := [.d (.int .u32)]
def shifted_orc  : Orc := Orc.of shifted_ps true 0 fun x => (shifted_P x.1, [.d (.int .u32) (shifted_r x.1)])
@[reducible] def shifted_l1_T  : Tpl := { cur := ⟨[(0, .var (.int .u32)), (3, .var (.int .i64))], 11⟩, stk := [⟨[], 0⟩], heap := [] }
def shifted_orcs  : List (FuncId × Orc) := []
def shifted_book0  : Book := { Γ := gam, orc := orcsOf shifted_orcs, hint := hintsOf [(89, { keep := some [0, 4], keeps := [(2, [0, 4])], own := [], dat := [], stk := [] })] }
def shifted_l1_G (F : Nat) (nx : shifted_l1_T.T → ZO) (kq : ZK) (x : shifted_l1_T.T) : ZO := shifted_l1 F none (fun register s4 => nx ((register, (s4, ())), (((), ()), ()))) (fun y0 y1 => kq (.exit 0) (shifted_l1_T.inst ((y0, (y1, ())), (((), ()), ())))) x.1.1 x.1.2.1
def shifted_l1_R (F m : Nat) (x : shifted_l1_T.T) (kq : ZK) : ZO := shifted_l1F F none (fun y0 y1 => kq (.exit 0) (shifted_l1_T.inst ((y0, (y1, ())), (((), ()), ())))) m x.1.1 x.1.2.1
def shifted_lo (F : Nat) : List (LoE Unit) := [⟨89, 2, LO.of shifted_l1_T (shifted_l1_R F F)⟩]
def shifted_book (F : Nat) : BookL Unit := { toBook := shifted_book0, lo := losOf (shifted_lo F), need := needsOf [] }
theorem shifted_l1_step (F : Nat) : LStep prog (shifted_book F) F 89 0 2 shifted_l1_T (shifted_l1_G F) := fun d x KQ => by kernel_rfl
theorem shifted_loOk (F : Nat) : LoOk prog (shifted_book F) F := loOk_of (l := shifted_lo F) rfl (fa (loOne_of 0 (by kernel_rfl) (by kernel_rfl) (lstep_run (shifted_l1_step F) (fun _ _ => rfl) (fun _ _ _ _ => rfl))) fz)
theorem shifted_run (F : Nat) (x : ArgsT shifted_ps) (kend : List BV → ZO) : runFnL prog (shifted_book F) F 20 89 (argsInst shifted_ps x) [.d (.int .u32)] kend = shifted F x.1 none (fun y0 => kend [BV.d (.int .u32) y0]) := by kernel_rfl
theorem shifted_contract  : Contract prog 89 shifted_orc := con_of (B0 := shifted_book0) zN zG mix_ok zT shifted_run (orcsOf_ok fz) (by kernel_rfl) (fun _ => rfl) shifted_loOk (fun x h => (shifted_plain x.1 h).elim fun F hF => ⟨F, fun kend => hF none _⟩)
@[reducible] def ctable_ps  : List PM := []
def ctable_orc  : Orc := Orc.of ctable_ps true 0 fun x => (ctable_P, [.d (.arr 256 (.int .u32)) (ctable_r)])
@[reducible] def ctable_l1_T  : Tpl := { cur := ⟨[(0, .ptr 0 []), (0, .ptr 1 []), (1, .var (.int .i64))], 9⟩, stk := [⟨[], 0⟩], heap := [.box (.var (.arr 256 (.int .u32))), .box (.var (.arr 256 (.int .u32)))] }
def ctable_orcs  : List (FuncId × Orc) := [(89, shifted_orc)]
def ctable_book0  : Book := { Γ := gam, orc := orcsOf ctable_orcs, hint := hintsOf [(84, { keep := some [0, 1, 3], keeps := [(3, [0, 1, 3])], own := [], dat := [], stk := [] })] }
def ctable_l1_G (F : Nat) (nx : ctable_l1_T.T → ZO) (kq : ZK) (x : ctable_l1_T.T) : ZO := ctable_l1 F none (fun s3 s0 out => nx (((), ((), (s3, ()))), (((), ()), (s0, (out, ()))))) (fun y0 y1 y2 => kq (.exit 0) (ctable_l1_T.inst (((), ((), (y0, ()))), (((), ()), (y1, (y2, ())))))) x.1.2.2.1 x.2.2.1 x.2.2.2.1
def ctable_l1_R (F m : Nat) (x : ctable_l1_T.T) (kq : ZK) : ZO := ctable_l1F F none (fun y0 y1 y2 => kq (.exit 0) (ctable_l1_T.inst (((), ((), (y0, ()))), (((), ()), (y1, (y2, ())))))) m x.1.2.2.1 x.2.2.1 x.2.2.2.1
def ctable_lo (F : Nat) : List (LoE Unit) := [⟨84, 3, LO.of ctable_l1_T (ctable_l1_R F F)⟩]
def ctable_book (F : Nat) : BookL Unit := { toBook := ctable_book0, lo := losOf (ctable_lo F), need := needsOf [] }
theorem ctable_l1_step (F : Nat) : LStep prog (ctable_book F) F 84 0 3 ctable_l1_T (ctable_l1_G F) := fun d x KQ => by kernel_rfl
theorem ctable_loOk (F : Nat) : LoOk prog (ctable_book F) F := loOk_of (l := ctable_lo F) rfl (fa (loOne_of 0 (by kernel_rfl) (by kernel_rfl) (lstep_run (ctable_l1_step F) (fun _ _ => rfl) (fun _ _ _ _ => rfl))) fz)
theorem ctable_run (F : Nat) (x : ArgsT ctable_ps) (kend : List BV → ZO) : runFnL prog (ctable_book F) F 20 84 (argsInst ctable_ps x) [.d (.arr 256 (.int .u32))] kend = ctable F  none (fun y0 => kend [BV.d (.arr 256 (.int .u32)) y0]) := by kernel_rfl
theorem ctable_contract  : Contract prog 84 ctable_orc := con_of (B0 := ctable_book0) zN zG mix_ok zT ctable_run (orcsOf_ok (fa shifted_contract fz)) (by kernel_rfl) (fun _ => rfl) ctable_loOk (fun x h => (ctable_plain  h).elim fun F hF => ⟨F, fun kend => hF none _⟩)
@[reducible] def cUpd_ps  : List PM := [.d (.int .u32), .d (.slc (.int .u8))]
def cUpd_orc  : Orc := Orc.of cUpd_ps true 0 fun x => (cUpd_P x.1 x.2.1, [.d (.int .u32) (cUpd_r x.1 x.2.1)])
@[reducible] def cUpd_l1_T  : Tpl := { cur := ⟨[(0, .hnd .yield 0), (4, .var (.slc (.int .u8))), (0, .var (.int .i64)), (0, .var (.int .i64))], 8⟩, stk := [⟨[(0, .hnd .yield 0)], 0⟩, ⟨[(1, .fn 85 (.pr (.ptr 3 []) (.un))), (0, .ptr 1 []), (1, .var (.int .u32))], 15⟩, ⟨[(6, .var (.int .u32))], 4⟩, ⟨[], 0⟩], heap := [.lp 78 3 ⟨[(2, .ptr 1 []), (2, .ptr 2 [])], 14⟩ .ready, .box (.var (.int .u32)), .box (.var (.arr 256 (.int .u32))), .box (.var (.slc (.int .u8)))] }
def cUpd_orcs  : List (FuncId × Orc) := [(84, ctable_orc)]
def cUpd_book0  : Book := { Γ := gam, orc := orcsOf cUpd_orcs, hint := hintsOf [(85, { keep := some [0, 5, 6, 7], keeps := [(1, [0, 5, 6, 7])], own := [], dat := [], stk := [[0], [1, 2, 4, 6, 9], [6]] })] }
def cUpd_l1_G (F : Nat) (nx : cUpd_l1_T.T → ZO) (kq : ZK) (x : cUpd_l1_T.T) : ZO := cUpd_l1 F none (fun s5 s6 s7 s4 s61 register t bytes => nx (((), (s5, (s6, (s7, ())))), ((((), ()), ((((), ()), ((), (s4, ()))), ((s61, ()), ((), ())))), (((), ((), ())), (register, (t, (bytes, ()))))))) (fun y0 y1 y2 y3 y4 y5 y6 y7 => kq (.exit 0) (cUpd_l1_T.inst (((), (y0, (y1, (y2, ())))), ((((), ()), ((((), ()), ((), (y3, ()))), ((y4, ()), ((), ())))), (((), ((), ())), (y5, (y6, (y7, ())))))))) x.1.2.1 x.1.2.2.1 x.1.2.2.2.1 x.2.1.2.1.2.2.1 x.2.1.2.2.1.1 x.2.2.2.1 x.2.2.2.2.1 x.2.2.2.2.2.1
def cUpd_l1_R (F m : Nat) (x : cUpd_l1_T.T) (kq : ZK) : ZO := cUpd_l1F F none (fun y0 y1 y2 y3 y4 y5 y6 y7 => kq (.exit 0) (cUpd_l1_T.inst (((), (y0, (y1, (y2, ())))), ((((), ()), ((((), ()), ((), (y3, ()))), ((y4, ()), ((), ())))), (((), ((), ())), (y5, (y6, (y7, ())))))))) m x.1.2.1 x.1.2.2.1 x.1.2.2.2.1 x.2.1.2.1.2.2.1 x.2.1.2.2.1.1 x.2.2.2.1 x.2.2.2.2.1 x.2.2.2.2.2.1
def cUpd_lo (F : Nat) : List (LoE Unit) := [⟨85, 1, LO.of cUpd_l1_T (cUpd_l1_R F F)⟩]
def cUpd_book (F : Nat) : BookL Unit := { toBook := cUpd_book0, lo := losOf (cUpd_lo F), need := needsOf [(85, 1)] }
theorem cUpd_l1_step (F : Nat) : LStep prog (cUpd_book F) F 85 0 1 cUpd_l1_T (cUpd_l1_G F) := fun d x KQ => by kernel_rfl
theorem cUpd_loOk (F : Nat) : LoOk prog (cUpd_book F) F := loOk_of (l := cUpd_lo F) rfl (fa (loOne_of 0 (by kernel_rfl) (by kernel_rfl) (lstep_run (cUpd_l1_step F) (fun _ _ => rfl) (fun _ _ _ _ => rfl))) fz)
theorem cUpd_run (F : Nat) (x : ArgsT cUpd_ps) (kend : List BV → ZO) : runFnL prog (cUpd_book F) F 20 74 (argsInst cUpd_ps x) [.d (.int .u32)] kend = cUpd F x.1 x.2.1 none (fun y0 => kend [BV.d (.int .u32) y0]) := by kernel_rfl
theorem cUpd_contract  : Contract prog 74 cUpd_orc := con_of (B0 := cUpd_book0) zN zG mix_ok zT cUpd_run (orcsOf_ok (fa ctable_contract fz)) (by kernel_rfl) (fun _ => rfl) cUpd_loOk (fun x h => (cUpd_plain x.1 x.2.1 h).elim fun F hF => ⟨F, fun kend => hF none _⟩)
@[reducible] def cSum_ps  : List PM := [.d (.slc (.int .u8))]
def cSum_orc  : Orc := Orc.of cSum_ps true 0 fun x => (cSum_P x.1, [.d (.int .u32) (cSum_r x.1)])
def cSum_orcs  : List (FuncId × Orc) := [(74, cUpd_orc)]
def cSum_book0  : Book := { Γ := gam, orc := orcsOf cSum_orcs, hint := hintsOf [] }
def cSum_lo (F : Nat) : List (LoE Unit) := []
def cSum_book (F : Nat) : BookL Unit := { toBook := cSum_book0, lo := losOf (cSum_lo F), need := needsOf [] }
theorem cSum_loOk (F : Nat) : LoOk prog (cSum_book F) F := loOk_of (l := cSum_lo F) rfl fz
theorem cSum_run (F : Nat) (x : ArgsT cSum_ps) (kend : List BV → ZO) : runFnL prog (cSum_book F) F 20 64 (argsInst cSum_ps x) [.d (.int .u32)] kend = cSum F x.1 none (fun y0 => kend [BV.d (.int .u32) y0]) := by kernel_rfl
theorem cSum_contract  : Contract prog 64 cSum_orc := con_of (B0 := cSum_book0) zN zG mix_ok zT cSum_run (orcsOf_ok (fa cUpd_contract fz)) (by kernel_rfl) (fun _ => rfl) cSum_loOk (fun x h => (cSum_plain x.1 h).elim fun F hF => ⟨F, fun kend => hF none _⟩)
@[reducible] def needed_ps  : List PM := [.d (.int .i64)]
def needed_orc  : Orc := Orc.of needed_ps true 0 fun x => (needed_P x.1, [.d (.int .i64) (needed_r x.1)])
def needed_orcs  : List (FuncId × Orc) := []
def needed_book0  : Book := { Γ := gam, orc := orcsOf needed_orcs, hint := hintsOf [] }
def needed_lo (F : Nat) : List (LoE Unit) := []
def needed_book (F : Nat) : BookL Unit := { toBook := needed_book0, lo := losOf (needed_lo F), need := needsOf [] }
theorem needed_loOk (F : Nat) : LoOk prog (needed_book F) F := loOk_of (l := needed_lo F) rfl fz
theorem needed_run (F : Nat) (x : ArgsT needed_ps) (kend : List BV → ZO) : runFnL prog (needed_book F) F 20 61 (argsInst needed_ps x) [.d (.int .i64)] kend = needed F x.1 none (fun y0 => kend [BV.d (.int .i64) y0]) := by kernel_rfl
theorem needed_contract  : Contract prog 61 needed_orc := con_of (B0 := needed_book0) zN zG mix_ok zT needed_run (orcsOf_ok fz) (by kernel_rfl) (fun _ => rfl) needed_loOk (fun x h => (needed_plain x.1 h).elim fun F hF => ⟨F, fun kend => hF none _⟩)
@[reducible] def lPages_ps  : List PM := [.d (.int .i64)]
def lPages_orc  : Orc := Orc.of lPages_ps true 0 fun x => (lPages_P x.1, [.d (.int .i64) (lPages_r x.1)])
def lPages_orcs  : List (FuncId × Orc) := [(61, needed_orc)]
def lPages_book0  : Book := { Γ := gam, orc := orcsOf lPages_orcs, hint := hintsOf [] }
def lPages_lo (F : Nat) : List (LoE Unit) := []
def lPages_book (F : Nat) : BookL Unit := { toBook := lPages_book0, lo := losOf (lPages_lo F), need := needsOf [] }
theorem lPages_loOk (F : Nat) : LoOk prog (lPages_book F) F := loOk_of (l := lPages_lo F) rfl fz
theorem lPages_run (F : Nat) (x : ArgsT lPages_ps) (kend : List BV → ZO) : runFnL prog (lPages_book F) F 20 49 (argsInst lPages_ps x) [.d (.int .i64)] kend = lPages F x.1 none (fun y0 => kend [BV.d (.int .i64) y0]) := by kernel_rfl
theorem lPages_contract  : Contract prog 49 lPages_orc := con_of (B0 := lPages_book0) zN zG mix_ok zT lPages_run (orcsOf_ok (fa needed_contract fz)) (by kernel_rfl) (fun _ => rfl) lPages_loOk (fun x h => (lPages_plain x.1 h).elim fun F hF => ⟨F, fun kend => hF none _⟩)
@[reducible] def lCheck_ps  : List PM := [.d (.pair (.int .i64) (.pair (.int .i64) (.pair (.int .i64) .unit)))]
def lCheck_orc  : Orc := Orc.of lCheck_ps true 0 fun x => (true, [.d (.int .i64) (lCheck_r x.1)])
def lCheck_orcs  : List (FuncId × Orc) := []
def lCheck_book0  : Book := { Γ := gam, orc := orcsOf lCheck_orcs, hint := hintsOf [] }
def lCheck_lo (F : Nat) : List (LoE Unit) := []
def lCheck_book (F : Nat) : BookL Unit := { toBook := lCheck_book0, lo := losOf (lCheck_lo F), need := needsOf [] }
theorem lCheck_loOk (F : Nat) : LoOk prog (lCheck_book F) F := loOk_of (l := lCheck_lo F) rfl fz
theorem lCheck_run (F : Nat) (x : ArgsT lCheck_ps) (kend : List BV → ZO) : runFnL prog (lCheck_book F) F 20 29 (argsInst lCheck_ps x) [.d (.int .i64)] kend = lCheck F x.1 none (fun y0 => kend [BV.d (.int .i64) y0]) := by kernel_rfl
theorem lCheck_contract  : Contract prog 29 lCheck_orc := con_of (B0 := lCheck_book0) zN zG mix_ok zT lCheck_run (orcsOf_ok fz) (by kernel_rfl) (fun _ => rfl) lCheck_loOk (fun x _ => (lCheck_plain x.1).elim fun F hF => ⟨F, fun kend => hF none _⟩)
@[reducible] def lEnd_ps  : List PM := [.d (.slc (.int .u8)), .d (.int .i64)]
def lEnd_orc  : Orc := Orc.of lEnd_ps true 0 fun x => (lEnd_P x.1 x.2.1, [.d (.arr 16 (.int .u8)) (lEnd_r x.1 x.2.1)])
@[reducible] def lEnd_l1_T  : Tpl := { cur := ⟨[(0, .sl 0), (0, .var (.int .i64)), (4, .var (.int .i64)), (0, .var (.int .i64))], 15⟩, stk := [⟨[(0, .var (.slc (.int .u8))), (3, .ptr 1 []), (0, .ptr 0 [])], 19⟩, ⟨[], 0⟩], heap := [.box (.var (.arr 16 (.int .u8))), .box (.var (.arr 16 (.int .u8)))] }
@[reducible] def lEnd_l2_T  : Tpl := { cur := ⟨[(0, .sl 0), (0, .var (.int .i64)), (4, .var (.int .i64)), (0, .var (.int .i64))], 15⟩, stk := [⟨[(0, .var (.slc (.int .u8))), (3, .ptr 1 []), (0, .ptr 0 []), (4, .sl 0)], 14⟩, ⟨[], 0⟩], heap := [.box (.var (.arr 16 (.int .u8))), .box (.var (.arr 16 (.int .u8)))] }
@[reducible] def lEnd_l3_T  : Tpl := { cur := ⟨[(0, .sl 0), (0, .var (.int .i64)), (4, .var (.int .i64)), (0, .var (.int .i64))], 15⟩, stk := [⟨[(0, .var (.slc (.int .u8))), (3, .ptr 1 []), (0, .ptr 0 []), (4, .sl 0), (8, .sl 0)], 5⟩, ⟨[], 0⟩], heap := [.box (.var (.arr 16 (.int .u8))), .box (.var (.arr 16 (.int .u8)))] }
def lEnd_orcs  : List (FuncId × Orc) := [(61, needed_orc), (64, cSum_orc)]
def lEnd_book0  : Book := { Γ := gam, orc := orcsOf lEnd_orcs, hint := hintsOf [(63, { keep := some [0, 1, 6, 7], keeps := [(1, [0, 1, 6, 7])], own := [], dat := [], stk := [[0, 4, 5, 10, 19]] })] }
def lEnd_l1_G (F : Nat) (nx : lEnd_l1_T.T → ZO) (kq : ZK) (x : lEnd_l1_T.T) : ZO := lEnd_l1 F none (fun to_i to_n n s6 s7 payload to s4 => nx (((to_i, to_n), (n, (s6, (s7, ())))), (((payload, ((), ((), ()))), ((), ())), (to, (s4, ()))))) (fun y0 y1 y2 y3 y4 y5 y6 y7 => kq (.exit 0) (lEnd_l1_T.inst (((y0, y1), (y2, (y3, (y4, ())))), (((y5, ((), ((), ()))), ((), ())), (y6, (y7, ())))))) x.1.1.1 x.1.1.2 x.1.2.1 x.1.2.2.1 x.1.2.2.2.1 x.2.1.1.1 x.2.2.1 x.2.2.2.1
def lEnd_l1_R (F m : Nat) (x : lEnd_l1_T.T) (kq : ZK) : ZO := lEnd_l1F F none (fun y0 y1 y2 y3 y4 y5 y6 y7 => kq (.exit 0) (lEnd_l1_T.inst (((y0, y1), (y2, (y3, (y4, ())))), (((y5, ((), ((), ()))), ((), ())), (y6, (y7, ())))))) m x.1.1.1 x.1.1.2 x.1.2.1 x.1.2.2.1 x.1.2.2.2.1 x.2.1.1.1 x.2.2.1 x.2.2.2.1
def lEnd_l2_G (F : Nat) (nx : lEnd_l2_T.T → ZO) (kq : ZK) (x : lEnd_l2_T.T) : ZO := lEnd_l2 F none (fun to_i to_n n s6 s7 payload s10_i s10_n to s4 => nx (((to_i, to_n), (n, (s6, (s7, ())))), (((payload, ((), ((), ((s10_i, s10_n), ())))), ((), ())), (to, (s4, ()))))) (fun y0 y1 y2 y3 y4 y5 y6 y7 y8 y9 => kq (.exit 0) (lEnd_l2_T.inst (((y0, y1), (y2, (y3, (y4, ())))), (((y5, ((), ((), ((y6, y7), ())))), ((), ())), (y8, (y9, ())))))) x.1.1.1 x.1.1.2 x.1.2.1 x.1.2.2.1 x.1.2.2.2.1 x.2.1.1.1 x.2.1.1.2.2.2.1.1 x.2.1.1.2.2.2.1.2 x.2.2.1 x.2.2.2.1
def lEnd_l2_R (F m : Nat) (x : lEnd_l2_T.T) (kq : ZK) : ZO := lEnd_l2F F none (fun y0 y1 y2 y3 y4 y5 y6 y7 y8 y9 => kq (.exit 0) (lEnd_l2_T.inst (((y0, y1), (y2, (y3, (y4, ())))), (((y5, ((), ((), ((y6, y7), ())))), ((), ())), (y8, (y9, ())))))) m x.1.1.1 x.1.1.2 x.1.2.1 x.1.2.2.1 x.1.2.2.2.1 x.2.1.1.1 x.2.1.1.2.2.2.1.1 x.2.1.1.2.2.2.1.2 x.2.2.1 x.2.2.2.1
def lEnd_l3_G (F : Nat) (nx : lEnd_l3_T.T → ZO) (kq : ZK) (x : lEnd_l3_T.T) : ZO := lEnd_l3 F none (fun to_i to_n n s6 s7 payload s10_i s10_n s19_i s19_n to s4 => nx (((to_i, to_n), (n, (s6, (s7, ())))), (((payload, ((), ((), ((s10_i, s10_n), ((s19_i, s19_n), ()))))), ((), ())), (to, (s4, ()))))) (fun y0 y1 y2 y3 y4 y5 y6 y7 y8 y9 y10 y11 => kq (.exit 0) (lEnd_l3_T.inst (((y0, y1), (y2, (y3, (y4, ())))), (((y5, ((), ((), ((y6, y7), ((y8, y9), ()))))), ((), ())), (y10, (y11, ())))))) x.1.1.1 x.1.1.2 x.1.2.1 x.1.2.2.1 x.1.2.2.2.1 x.2.1.1.1 x.2.1.1.2.2.2.1.1 x.2.1.1.2.2.2.1.2 x.2.1.1.2.2.2.2.1.1 x.2.1.1.2.2.2.2.1.2 x.2.2.1 x.2.2.2.1
def lEnd_l3_R (F m : Nat) (x : lEnd_l3_T.T) (kq : ZK) : ZO := lEnd_l3F F none (fun y0 y1 y2 y3 y4 y5 y6 y7 y8 y9 y10 y11 => kq (.exit 0) (lEnd_l3_T.inst (((y0, y1), (y2, (y3, (y4, ())))), (((y5, ((), ((), ((y6, y7), ((y8, y9), ()))))), ((), ())), (y10, (y11, ())))))) m x.1.1.1 x.1.1.2 x.1.2.1 x.1.2.2.1 x.1.2.2.2.1 x.2.1.1.1 x.2.1.1.2.2.2.1.1 x.2.1.1.2.2.2.1.2 x.2.1.1.2.2.2.2.1.1 x.2.1.1.2.2.2.2.1.2 x.2.2.1 x.2.2.2.1
def lEnd_lo (F : Nat) : List (LoE Unit) := [⟨63, 1, LO.orT lEnd_l1_T (lEnd_l1_R F F) (LO.orT lEnd_l2_T (lEnd_l2_R F F) (LO.of lEnd_l3_T (lEnd_l3_R F F)))⟩]
def lEnd_book (F : Nat) : BookL Unit := { toBook := lEnd_book0, lo := losOf (lEnd_lo F), need := needsOf [] }
theorem lEnd_l1_step (F : Nat) : LStep prog (lEnd_book F) F 63 0 1 lEnd_l1_T (lEnd_l1_G F) := fun d x KQ => by kernel_rfl
theorem lEnd_l2_step (F : Nat) : LStep prog (lEnd_book F) F 63 0 1 lEnd_l2_T (lEnd_l2_G F) := fun d x KQ => by kernel_rfl
theorem lEnd_l3_step (F : Nat) : LStep prog (lEnd_book F) F 63 0 1 lEnd_l3_T (lEnd_l3_G F) := fun d x KQ => by kernel_rfl
theorem lEnd_loOk (F : Nat) : LoOk prog (lEnd_book F) F := loOk_of (l := lEnd_lo F) rfl (fa (loOne_of 0 (by kernel_rfl) (by kernel_rfl) (loIs_orT (lstep_run (lEnd_l1_step F) (fun _ _ => rfl) (fun _ _ _ _ => rfl)) (loIs_orT (lstep_run (lEnd_l2_step F) (fun _ _ => rfl) (fun _ _ _ _ => rfl)) (lstep_run (lEnd_l3_step F) (fun _ _ => rfl) (fun _ _ _ _ => rfl))))) fz)
theorem lEnd_run (F : Nat) (x : ArgsT lEnd_ps) (kend : List BV → ZO) : runFnL prog (lEnd_book F) F 20 53 (argsInst lEnd_ps x) [.d (.arr 16 (.int .u8))] kend = lEnd F x.1 x.2.1 none (fun y0 => kend [BV.d (.arr 16 (.int .u8)) y0]) := by kernel_rfl
theorem lEnd_contract  : Contract prog 53 lEnd_orc := con_of (B0 := lEnd_book0) zN zG mix_ok zT lEnd_run (orcsOf_ok (fa needed_contract (fa cSum_contract fz))) (by kernel_rfl) (fun _ => rfl) lEnd_loOk (fun x h => (lEnd_plain x.1 x.2.1 h).elim fun F hF => ⟨F, fun kend => hF none _⟩)
@[reducible] def lWrite_ps  : List PM := [.d (.int .i64), .d (.slc (.arr 16 (.int .u8)))]
def lWrite_orc  : Orc := Orc.of lWrite_ps false 0 fun x => (lWrite_P x.1 x.2.1, [.d (.pair (.int .i64) (.pair (.int .i64) (.pair (.slc (.arr 16 (.int .u8))) .unit))) (lWrite_r x.1 x.2.1)])
def lWrite_orcs  : List (FuncId × Orc) := []
def lWrite_book0  : Book := { Γ := gam, orc := orcsOf lWrite_orcs, hint := hintsOf [] }
def lWrite_lo (F : Nat) : List (LoE Unit) := []
def lWrite_book (F : Nat) : BookL Unit := { toBook := lWrite_book0, lo := losOf (lWrite_lo F), need := needsOf [] }
theorem lWrite_loOk (F : Nat) : LoOk prog (lWrite_book F) F := loOk_of (l := lWrite_lo F) rfl fz
theorem lWrite_run (F : Nat) (x : ArgsT lWrite_ps) (kend : List BV → ZO) : runFnL prog (lWrite_book F) F 20 51 (argsInst lWrite_ps x) [.d (.pair (.int .i64) (.pair (.int .i64) (.pair (.slc (.arr 16 (.int .u8))) .unit)))] kend = lWrite F x.1 x.2.1 none (fun y0 => kend [BV.d (.pair (.int .i64) (.pair (.int .i64) (.pair (.slc (.arr 16 (.int .u8))) .unit))) y0]) := by kernel_rfl
theorem lWrite_contract  : Contract prog 51 lWrite_orc := con_of (B0 := lWrite_book0) zN zG mix_ok zT lWrite_run (orcsOf_ok fz) (by kernel_rfl) (fun _ => rfl) lWrite_loOk (fun x h => (lWrite_plain x.1 x.2.1 h).elim fun F hF => ⟨F, fun kend => hF none _⟩)
@[reducible] def lSync_ps  : List PM := []
def lSync_orc  : Orc := Orc.of lSync_ps false 0 fun x => (lSync_P, [.d (.pair (.int .i64) (.pair (.int .i64) (.pair (.slc (.arr 16 (.int .u8))) .unit))) (lSync_r)])
def lSync_orcs  : List (FuncId × Orc) := []
def lSync_book0  : Book := { Γ := gam, orc := orcsOf lSync_orcs, hint := hintsOf [] }
def lSync_lo (F : Nat) : List (LoE Unit) := []
def lSync_book (F : Nat) : BookL Unit := { toBook := lSync_book0, lo := losOf (lSync_lo F), need := needsOf [] }
theorem lSync_loOk (F : Nat) : LoOk prog (lSync_book F) F := loOk_of (l := lSync_lo F) rfl fz
theorem lSync_run (F : Nat) (x : ArgsT lSync_ps) (kend : List BV → ZO) : runFnL prog (lSync_book F) F 20 52 (argsInst lSync_ps x) [.d (.pair (.int .i64) (.pair (.int .i64) (.pair (.slc (.arr 16 (.int .u8))) .unit)))] kend = lSync F  none (fun y0 => kend [BV.d (.pair (.int .i64) (.pair (.int .i64) (.pair (.slc (.arr 16 (.int .u8))) .unit))) y0]) := by kernel_rfl
theorem lSync_contract  : Contract prog 52 lSync_orc := con_of (B0 := lSync_book0) zN zG mix_ok zT lSync_run (orcsOf_ok fz) (by kernel_rfl) (fun _ => rfl) lSync_loOk (fun x h => (lSync_plain  h).elim fun F hF => ⟨F, fun kend => hF none _⟩)
@[reducible] def lAppend_ps  : List PM := [.d (.pair (.int .i64) (.pair (.int .i64) (.pair (.int .i64) .unit))), .d (.slc (.int .u8))]
def lAppend_orc  : Orc := Orc.of lAppend_ps false 0 fun x => (lAppend_P x.1 x.2.1, [.d (.pair (.int .i64) (.pair (.int .i64) (.pair (.int .i64) .unit))) (lAppend_r0 x.1 x.2.1), .d (.slc (.pair (.int .i64) (.pair (.int .i64) (.pair (.slc (.arr 16 (.int .u8))) .unit)))) (lAppend_r1 x.1 x.2.1), .d (.int .i64) (lAppend_r2 x.1 x.2.1)])
@[reducible] def lAppend_l1_T  : Tpl := { cur := ⟨[(0, .hnd .yield 0), (0, .ptr 5 []), (0, .ptr 6 []), (1, .var (.int .i64))], 26⟩, stk := [⟨[(0, .hnd .yield 0)], 0⟩, ⟨[(2, .ptr 1 [])], 13⟩, ⟨[(0, .hnd .yield 2)], 0⟩, ⟨[(1, .var (.slc (.int .u8))), (0, .ptr 7 []), (1, .ptr 8 []), (0, .nils), (0, .var (.int .i64)), (1, .var (.int .i64)), (0, .nils), (0, .ptr 3 [])], 66⟩, ⟨[], 0⟩], heap := [.lp 62 2 ⟨[(2, .ptr 1 [])], 13⟩ .ready, .box (.hnd .yield 2), .lp 31 13 ⟨[(10, .ptr 3 [])], 66⟩ .ready, .box (.row 4), .row 89 (.arr 16 (.int .u8)) false, .box (.var (.slc (.int .u8))), .box (.var (.int .i64)), .box (.var (.pair (.int .i64) (.pair (.int .i64) (.pair (.int .i64) .unit)))), .box (.var (.pair (.int .i64) (.pair (.int .i64) (.pair (.int .i64) .unit))))] }
def lAppend_orcs  : List (FuncId × Orc) := [(29, lCheck_orc), (49, lPages_orc), (51, lWrite_orc), (52, lSync_orc), (53, lEnd_orc)]
def lAppend_book0  : Book := { Γ := gam, orc := orcsOf lAppend_orcs, hint := hintsOf [(31, { keep := some [], keeps := [], own := [], dat := [], stk := [], rgb := [(5012, [(10, 0, 46)])] }), (71, { keep := some [0, 1, 2, 4], keeps := [(1, [0, 1, 2, 4])], own := [], dat := [], stk := [[0], [2, 3, 4, 7, 15], [0], [1, 2, 4, 5, 6, 8, 9, 10, 11, 40, 45, 49, 63, 64, 67, 73]] })] }
def lAppend_l1_G (F : Nat) (nx : lAppend_l1_T.T → ZO) (kq : ZK) (x : lAppend_l1_T.T) : ZO := lAppend_l1 F none (fun i payload s6 n parts s1 s2 l s4 => nx (((), ((), ((), (i, ())))), ((((), ()), (((), ()), (((), ()), ((payload, ((), ((), ((), (s6, (n, ((), ((), ())))))))), ((), ()))))), (((), ()), ((), (((), ()), ((), (parts, (s1, (s2, (l, (s4, ())))))))))))) (fun y0 y1 y2 y3 y4 y5 y6 y7 y8 => kq (.exit 0) (lAppend_l1_T.inst (((), ((), ((), (y0, ())))), ((((), ()), (((), ()), (((), ()), ((y1, ((), ((), ((), (y2, (y3, ((), ((), ())))))))), ((), ()))))), (((), ()), ((), (((), ()), ((), (y4, (y5, (y6, (y7, (y8, ()))))))))))))) x.1.2.2.2.1 x.2.1.2.2.2.1.1 x.2.1.2.2.2.1.2.2.2.2.1 x.2.1.2.2.2.1.2.2.2.2.2.1 x.2.2.2.2.2.2.1 x.2.2.2.2.2.2.2.1 x.2.2.2.2.2.2.2.2.1 x.2.2.2.2.2.2.2.2.2.1 x.2.2.2.2.2.2.2.2.2.2.1
def lAppend_l1_R (F m : Nat) (x : lAppend_l1_T.T) (kq : ZK) : ZO := lAppend_l1F F none (fun y0 y1 y2 y3 y4 y5 y6 y7 y8 => kq (.exit 0) (lAppend_l1_T.inst (((), ((), ((), (y0, ())))), ((((), ()), (((), ()), (((), ()), ((y1, ((), ((), ((), (y2, (y3, ((), ((), ())))))))), ((), ()))))), (((), ()), ((), (((), ()), ((), (y4, (y5, (y6, (y7, (y8, ()))))))))))))) m x.1.2.2.2.1 x.2.1.2.2.2.1.1 x.2.1.2.2.2.1.2.2.2.2.1 x.2.1.2.2.2.1.2.2.2.2.2.1 x.2.2.2.2.2.2.1 x.2.2.2.2.2.2.2.1 x.2.2.2.2.2.2.2.2.1 x.2.2.2.2.2.2.2.2.2.1 x.2.2.2.2.2.2.2.2.2.2.1
def lAppend_lo (F : Nat) : List (LoE Unit) := [⟨71, 1, LO.of lAppend_l1_T (lAppend_l1_R F F)⟩]
def lAppend_book (F : Nat) : BookL Unit := { toBook := lAppend_book0, lo := losOf (lAppend_lo F), need := needsOf [(71, 2)] }
theorem lAppend_l1_step (F : Nat) : LStep prog (lAppend_book F) F 71 0 1 lAppend_l1_T (lAppend_l1_G F) := fun d x KQ => by kernel_rfl
theorem lAppend_loOk (F : Nat) : LoOk prog (lAppend_book F) F := loOk_of (l := lAppend_lo F) rfl (fa (loOne_of 0 (by kernel_rfl) (by kernel_rfl) (lstep_run (lAppend_l1_step F) (fun _ _ => rfl) (fun _ _ _ _ => rfl))) fz)
theorem lAppend_run (F : Nat) (x : ArgsT lAppend_ps) (kend : List BV → ZO) : runFnL prog (lAppend_book F) F 20 31 (argsInst lAppend_ps x) [.d (.pair (.int .i64) (.pair (.int .i64) (.pair (.int .i64) .unit))), .d (.slc (.pair (.int .i64) (.pair (.int .i64) (.pair (.slc (.arr 16 (.int .u8))) .unit)))), .d (.int .i64)] kend = lAppend F x.1 x.2.1 none (fun y0 y1 y2 => kend [BV.d (.pair (.int .i64) (.pair (.int .i64) (.pair (.int .i64) .unit))) y0, BV.d (.slc (.pair (.int .i64) (.pair (.int .i64) (.pair (.slc (.arr 16 (.int .u8))) .unit)))) y1, BV.d (.int .i64) y2]) := by kernel_rfl
theorem lAppend_contract  : Contract prog 31 lAppend_orc := con_of (B0 := lAppend_book0) zN zG mix_ok zT lAppend_run (orcsOf_ok (fa lCheck_contract (fa lPages_contract (fa lWrite_contract (fa lSync_contract (fa lEnd_contract fz)))))) (by kernel_rfl) (fun _ => rfl) lAppend_loOk (fun x h => (lAppend_plain x.1 x.2.1 h).elim fun F hF => ⟨F, fun kend => hF none _⟩)
end Go.AI
namespace Go.AI
open Go
open Go.Proofs.Try (prog)
set_option linter.unusedVariables false
@[reducible] def tCheck_ps  : List PM := [.d (.slc (.pair (.int .i64) (.pair (.slc (.int .u8)) .unit)))]
def tCheck_orc  : Orc := Orc.of tCheck_ps true 0 fun x => (tCheck_P x.1, [.d (.int .i64) (tCheck_r x.1)])
@[reducible] def tCheck_l1_T  : Tpl := { cur := ⟨[(2, .var (.int .i64)), (5, .var (.slc (.pair (.int .i64) (.pair (.slc (.int .u8)) .unit)))), (0, .var (.int .i64)), (0, .var (.int .i64))], 14⟩, stk := [⟨[], 0⟩], heap := [] }
def tCheck_orcs  : List (FuncId × Orc) := []
def tCheck_book0  : Book := { Γ := gam, orc := orcsOf tCheck_orcs, hint := hintsOf [(11, { keep := some [2, 8, 9, 10], keeps := [(4, [2, 8, 9, 10])], own := [], dat := [], stk := [] })] }
def tCheck_l1_G (F : Nat) (nx : tCheck_l1_T.T → ZO) (kq : ZK) (x : tCheck_l1_T.T) : ZO := tCheck_l1 F none (fun s2 s8 s9 s10 => nx ((s2, (s8, (s9, (s10, ())))), (((), ()), ()))) (fun y0 y1 y2 y3 => kq .ret (tCheck_l1_T.inst ((y0, (y1, (y2, (y3, ())))), (((), ()), ())))) (fun y0 y1 y2 y3 => kq (.exit 0) (tCheck_l1_T.inst ((y0, (y1, (y2, (y3, ())))), (((), ()), ())))) x.1.1 x.1.2.1 x.1.2.2.1 x.1.2.2.2.1
def tCheck_l1_R (F m : Nat) (x : tCheck_l1_T.T) (kq : ZK) : ZO := tCheck_l1F F none (fun y0 y1 y2 y3 => kq .ret (tCheck_l1_T.inst ((y0, (y1, (y2, (y3, ())))), (((), ()), ())))) (fun y0 y1 y2 y3 => kq (.exit 0) (tCheck_l1_T.inst ((y0, (y1, (y2, (y3, ())))), (((), ()), ())))) m x.1.1 x.1.2.1 x.1.2.2.1 x.1.2.2.2.1
def tCheck_lo (F : Nat) : List (LoE Unit) := [⟨11, 4, LO.of tCheck_l1_T (tCheck_l1_R F F)⟩]
def tCheck_book (F : Nat) : BookL Unit := { toBook := tCheck_book0, lo := losOf (tCheck_lo F), need := needsOf [(11, 1)] }
theorem tCheck_l1_step (F : Nat) : LStep prog (tCheck_book F) F 11 0 4 tCheck_l1_T (tCheck_l1_G F) := fun d x KQ => by kernel_rfl
theorem tCheck_loOk (F : Nat) : LoOk prog (tCheck_book F) F := loOk_of (l := tCheck_lo F) rfl (fa (loOne_of 0 (by kernel_rfl) (by kernel_rfl) (lstep_run (tCheck_l1_step F) (fun _ _ => rfl) (fun _ _ _ _ => rfl))) fz)
theorem tCheck_run (F : Nat) (x : ArgsT tCheck_ps) (kend : List BV → ZO) : runFnL prog (tCheck_book F) F 20 11 (argsInst tCheck_ps x) [.d (.int .i64)] kend = tCheck F x.1 none (fun y0 => kend [BV.d (.int .i64) y0]) := by kernel_rfl
theorem tCheck_contract  : Contract prog 11 tCheck_orc := con_of (B0 := tCheck_book0) zN zG mix_ok zT tCheck_run (orcsOf_ok fz) (by kernel_rfl) (fun _ => rfl) tCheck_loOk (fun x h => (tCheck_plain x.1 h).elim fun F hF => ⟨F, fun kend => hF none _⟩)
def tputI_0_orcs  : List (FuncId × Orc) := [(16, wire_PutInt_orc)]
def tputI_0_book0  : Book := { Γ := gam, orc := orcsOf tputI_0_orcs, hint := hintsOf [] }
def tputI_0_lo (F : Nat) : List (LoE Unit) := []
def tputI_0_book (F : Nat) : BookL Unit := { toBook := tputI_0_book0, lo := losOf (tputI_0_lo F), need := needsOf [] }
theorem tputI_0_loOk (F : Nat) : LoOk prog (tputI_0_book F) F := loOk_of (l := tputI_0_lo F) rfl fz
theorem tputI_0_run (F : Nat) (b : ZB) (x_ : Int) (kend : List BV → ZO) : runFnL prog (tputI_0_book F) F 20 15 [.d (.slc (.int .u8)) b, .f 16, .d (.int .i64) x_] [.o 5 (.int .u8)] kend = tputI_0 F b x_ none (fun y0 => kend [BV.o 5 (.int .u8) y0]) := by kernel_rfl
theorem tputI_0_contract  : Contract prog 15 (Orc.of [.d (.slc (.int .u8)), .f, .d (.int .i64)] true 1 fun x => ((Nat.beq x.2.1 16) && tputI_P x.1 x.2.1 x.2.2.1, [.o 5 (.int .u8) (tputI_r x.1 x.2.1 x.2.2.1)])) := contract_of_runL (B0 := tputI_0_book0) zN zG mix_ok zT (orcsOf_ok (fa wire_PutInt_contract fz)) (by kernel_rfl) (fun x h => by
 obtain ⟨x0, x1, x2, _⟩ := x
 simp only [Bool.and_eq_true] at h
 obtain ⟨e, h⟩ := h
 have e := Nat.eq_of_beq_eq_true e
 subst e
 obtain ⟨F, hF⟩ := tputI_0_plain x0 x2 h
 exact ⟨F, 20, tputI_0_book F, rfl, tputI_0_loOk F, fun kend => (tputI_0_run F x0 x2 kend).trans (hF none (fun y0 => kend [BV.o 5 (.int .u8) y0]))⟩)
def tputI_orc  : Orc := Orc.of [.d (.slc (.int .u8)), .f, .d (.int .i64)] true 1 fun x => ((Nat.beq x.2.1 16) && tputI_P x.1 x.2.1 x.2.2.1, [.o 5 (.int .u8) (tputI_r x.1 x.2.1 x.2.2.1)])
theorem tputI_contract  : Contract prog 15 tputI_orc := contract_cases tputI_0_contract.1 (fun x h => by
 obtain ⟨x0, x1, x2, _⟩ := x
 simp only [Bool.and_eq_true] at h
 obtain ⟨e, _⟩ := h
 rcases e with e
 ·have e := Nat.eq_of_beq_eq_true e
  subst e
  exact ⟨_, tputI_0_contract, rfl⟩)
def tputB_0_orcs  : List (FuncId × Orc) := [(18, wire_PutBytes_orc)]
def tputB_0_book0  : Book := { Γ := gam, orc := orcsOf tputB_0_orcs, hint := hintsOf [] }
def tputB_0_lo (F : Nat) : List (LoE Unit) := []
def tputB_0_book (F : Nat) : BookL Unit := { toBook := tputB_0_book0, lo := losOf (tputB_0_lo F), need := needsOf [] }
theorem tputB_0_loOk (F : Nat) : LoOk prog (tputB_0_book F) F := loOk_of (l := tputB_0_lo F) rfl fz
theorem tputB_0_run (F : Nat) (b x_ : ZB) (kend : List BV → ZO) : runFnL prog (tputB_0_book F) F 20 17 [.d (.slc (.int .u8)) b, .f 18, .d (.slc (.int .u8)) x_] [.o 5 (.int .u8)] kend = tputB_0 F b x_ none (fun y0 => kend [BV.o 5 (.int .u8) y0]) := by kernel_rfl
theorem tputB_0_contract  : Contract prog 17 (Orc.of [.d (.slc (.int .u8)), .f, .d (.slc (.int .u8))] true 1 fun x => ((Nat.beq x.2.1 18) && tputB_P x.1 x.2.1 x.2.2.1, [.o 5 (.int .u8) (tputB_r x.1 x.2.1 x.2.2.1)])) := contract_of_runL (B0 := tputB_0_book0) zN zG mix_ok zT (orcsOf_ok (fa wire_PutBytes_contract fz)) (by kernel_rfl) (fun x h => by
 obtain ⟨x0, x1, x2, _⟩ := x
 simp only [Bool.and_eq_true] at h
 obtain ⟨e, h⟩ := h
 have e := Nat.eq_of_beq_eq_true e
 subst e
 obtain ⟨F, hF⟩ := tputB_0_plain x0 x2 h
 exact ⟨F, 20, tputB_0_book F, rfl, tputB_0_loOk F, fun kend => (tputB_0_run F x0 x2 kend).trans (hF none (fun y0 => kend [BV.o 5 (.int .u8) y0]))⟩)
def tputB_orc  : Orc := Orc.of [.d (.slc (.int .u8)), .f, .d (.slc (.int .u8))] true 1 fun x => ((Nat.beq x.2.1 18) && tputB_P x.1 x.2.1 x.2.2.1, [.o 5 (.int .u8) (tputB_r x.1 x.2.1 x.2.2.1)])
theorem tputB_contract  : Contract prog 17 tputB_orc := contract_cases tputB_0_contract.1 (fun x h => by
 obtain ⟨x0, x1, x2, _⟩ := x
 simp only [Bool.and_eq_true] at h
 obtain ⟨e, _⟩ := h
 rcases e with e
 ·have e := Nat.eq_of_beq_eq_true e
  subst e
  exact ⟨_, tputB_0_contract, rfl⟩)
@[reducible] def tEncode_ps  : List PM := [.d (.slc (.pair (.int .i64) (.pair (.slc (.int .u8)) .unit)))]
def tEncode_orc  : Orc := Orc.of tEncode_ps true 1 fun x => (tEncode_P x.1, [.o 5 (.int .u8) (tEncode_r0 x.1), .d (.int .i64) (tEncode_r1 x.1)])
@[reducible] def tEncode_l1_T  : Tpl := { cur := ⟨[(5, .row 0), (10, .var (.slc (.pair (.int .i64) (.pair (.slc (.int .u8)) .unit)))), (0, .var (.int .i64)), (0, .var (.int .i64))], 15⟩, stk := [⟨[], 0⟩], heap := [.row 5 (.int .u8) false] }
def tEncode_orcs  : List (FuncId × Orc) := [(11, tCheck_orc), (15, tputI_orc), (17, tputB_orc)]
def tEncode_book0  : Book := { Γ := gam, orc := orcsOf tEncode_orcs, hint := hintsOf [(7, { keep := some [5, 16, 17, 18], keeps := [(6, [5, 16, 17, 18])], own := [], dat := [], stk := [] })] }
def tEncode_l1_G (F : Nat) (nx : tEncode_l1_T.T → ZO) (kq : ZK) (x : tEncode_l1_T.T) : ZO := tEncode_l1 F none (fun s16 s17 s18 b => nx (((), (s16, (s17, (s18, ())))), (((), ()), (b, ())))) (fun y0 y1 y2 y3 => kq (.exit 0) (tEncode_l1_T.inst (((), (y0, (y1, (y2, ())))), (((), ()), (y3, ()))))) x.1.2.1 x.1.2.2.1 x.1.2.2.2.1 x.2.2.1
def tEncode_l1_R (F m : Nat) (x : tEncode_l1_T.T) (kq : ZK) : ZO := tEncode_l1F F none (fun y0 y1 y2 y3 => kq (.exit 0) (tEncode_l1_T.inst (((), (y0, (y1, (y2, ())))), (((), ()), (y3, ()))))) m x.1.2.1 x.1.2.2.1 x.1.2.2.2.1 x.2.2.1
def tEncode_lo (F : Nat) : List (LoE Unit) := [⟨7, 6, LO.of tEncode_l1_T (tEncode_l1_R F F)⟩]
def tEncode_book (F : Nat) : BookL Unit := { toBook := tEncode_book0, lo := losOf (tEncode_lo F), need := needsOf [] }
def tEncode_l1_z (tCheck_Pz : (List ZR) → Bool) (tCheck_rz : (List ZR) → Int) (tputI_Pz : ZB → Nat → Int → Bool) (tputI_rz : ZB → Nat → Int → ZB) (tputB_Pz : ZB → Nat → ZB → Bool) (tputB_rz : ZB → Nat → ZB → ZB) {X : Type} (F : Nat) (fail : X) (next ex0 : List ZR → Int → Int → ZB → X) (s16 : List ZR) (s17 s18 : Int) (b : ZB) : X :=
 bif (decide (s18 < s17)) then
  bif ((decide ((0 : Int) ≤ s18)) && (decide (s18 < ((s16.length : Nat) : Int)))) then
  bif (tputI_Pz b (16 : Nat) (List.getD s16 (s18).toNat ((0 : Int), (([] : ZB), ()))).1) then
  bif (tputB_Pz (tputI_rz b (16 : Nat) (List.getD s16 (s18).toNat ((0 : Int), (([] : ZB), ()))).1) (18 : Nat) (List.getD s16 (s18).toNat ((0 : Int), (([] : ZB), ()))).2.1) then
  next s16 s17 (addI s18 (1 : Int)) (tputB_rz (tputI_rz b (16 : Nat) (List.getD s16 (s18).toNat ((0 : Int), (([] : ZB), ()))).1) (18 : Nat) (List.getD s16 (s18).toNat ((0 : Int), (([] : ZB), ()))).2.1)
  else fail
  else fail
  else fail
 else
 ex0 s16 s17 s18 b
def tEncode_z (tCheck_Pz : (List ZR) → Bool) (tCheck_rz : (List ZR) → Int) (tputI_Pz : ZB → Nat → Int → Bool) (tputI_rz : ZB → Nat → Int → ZB) (tputB_Pz : ZB → Nat → ZB → Bool) (tputB_rz : ZB → Nat → ZB → ZB) {X : Type} (F : Nat) (l : List ZR) (fail : X) (ret : ZB → Int → X) : X :=
 bif (tCheck_Pz l) then
 bif ((tCheck_rz l) != (0 : Int)) then
  ret ([] : ZB) (tCheck_rz l)
 else
 bif (tputI_Pz ([] : ZB) (16 : Nat) ((l.length : Nat) : Int)) then
 tEncode_l1F F fail
  (fun (s16 : List ZR) (s17 : Int) (s18 : Int) (b : ZB) =>
   bif (decide (((b.length : Nat) : Int) > (65536 : Int))) then
    ret ([] : ZB) (5 : Int)
   else
   ret b (0 : Int))
  F l ((l.length : Nat) : Int) (0 : Int) (tputI_rz ([] : ZB) (16 : Nat) ((l.length : Nat) : Int))
 else fail
 else fail
def tEncode_orcs_z (tCheck_Pz : (List ZR) → Bool) (tCheck_rz : (List ZR) → Int) (tputI_Pz : ZB → Nat → Int → Bool) (tputI_rz : ZB → Nat → Int → ZB) (tputB_Pz : ZB → Nat → ZB → Bool) (tputB_rz : ZB → Nat → ZB → ZB) : List (FuncId × Orc) := [(11, Orc.of tCheck_ps true 0 fun x => (tCheck_Pz x.1, [.d (.int .i64) (tCheck_rz x.1)])), (15, Orc.of [.d (.slc (.int .u8)), .f, .d (.int .i64)] true 1 fun x => ((Nat.beq x.2.1 16) && tputI_Pz x.1 x.2.1 x.2.2.1, [.o 5 (.int .u8) (tputI_rz x.1 x.2.1 x.2.2.1)])), (17, Orc.of [.d (.slc (.int .u8)), .f, .d (.slc (.int .u8))] true 1 fun x => ((Nat.beq x.2.1 18) && tputB_Pz x.1 x.2.1 x.2.2.1, [.o 5 (.int .u8) (tputB_rz x.1 x.2.1 x.2.2.1)]))]
def tEncode_book0_z (tCheck_Pz : (List ZR) → Bool) (tCheck_rz : (List ZR) → Int) (tputI_Pz : ZB → Nat → Int → Bool) (tputI_rz : ZB → Nat → Int → ZB) (tputB_Pz : ZB → Nat → ZB → Bool) (tputB_rz : ZB → Nat → ZB → ZB) : Book := { Γ := gam, orc := orcsOf (tEncode_orcs_z tCheck_Pz tCheck_rz tputI_Pz tputI_rz tputB_Pz tputB_rz), hint := hintsOf [(7, { keep := some [5, 16, 17, 18], keeps := [(6, [5, 16, 17, 18])], own := [], dat := [], stk := [] })] }
def tEncode_book_z (tCheck_Pz : (List ZR) → Bool) (tCheck_rz : (List ZR) → Int) (tputI_Pz : ZB → Nat → Int → Bool) (tputI_rz : ZB → Nat → Int → ZB) (tputB_Pz : ZB → Nat → ZB → Bool) (tputB_rz : ZB → Nat → ZB → ZB) (F : Nat) : BookL Unit := { toBook := tEncode_book0_z tCheck_Pz tCheck_rz tputI_Pz tputI_rz tputB_Pz tputB_rz, lo := losOf (tEncode_lo F), need := needsOf [] }
def tEncode_l1_G_z (tCheck_Pz : (List ZR) → Bool) (tCheck_rz : (List ZR) → Int) (tputI_Pz : ZB → Nat → Int → Bool) (tputI_rz : ZB → Nat → Int → ZB) (tputB_Pz : ZB → Nat → ZB → Bool) (tputB_rz : ZB → Nat → ZB → ZB) (F : Nat) (nx : tEncode_l1_T.T → ZO) (kq : ZK) (x : tEncode_l1_T.T) : ZO := tEncode_l1_z tCheck_Pz tCheck_rz tputI_Pz tputI_rz tputB_Pz tputB_rz F none (fun s16 s17 s18 b => nx (((), (s16, (s17, (s18, ())))), (((), ()), (b, ())))) (fun y0 y1 y2 y3 => kq (.exit 0) (tEncode_l1_T.inst (((), (y0, (y1, (y2, ())))), (((), ()), (y3, ()))))) x.1.2.1 x.1.2.2.1 x.1.2.2.2.1 x.2.2.1
theorem tEncode_l1_step_z (tCheck_Pz : (List ZR) → Bool) (tCheck_rz : (List ZR) → Int) (tputI_Pz : ZB → Nat → Int → Bool) (tputI_rz : ZB → Nat → Int → ZB) (tputB_Pz : ZB → Nat → ZB → Bool) (tputB_rz : ZB → Nat → ZB → ZB) (F : Nat) : LStep prog (tEncode_book_z tCheck_Pz tCheck_rz tputI_Pz tputI_rz tputB_Pz tputB_rz F) F 7 0 6 tEncode_l1_T (tEncode_l1_G_z tCheck_Pz tCheck_rz tputI_Pz tputI_rz tputB_Pz tputB_rz F) := fun d x KQ => by kernel_rfl
theorem tEncode_run_z (tCheck_Pz : (List ZR) → Bool) (tCheck_rz : (List ZR) → Int) (tputI_Pz : ZB → Nat → Int → Bool) (tputI_rz : ZB → Nat → Int → ZB) (tputB_Pz : ZB → Nat → ZB → Bool) (tputB_rz : ZB → Nat → ZB → ZB) (F : Nat) (x : ArgsT tEncode_ps) (kend : List BV → ZO) : runFnL prog (tEncode_book_z tCheck_Pz tCheck_rz tputI_Pz tputI_rz tputB_Pz tputB_rz F) F 20 7 (argsInst tEncode_ps x) [.o 5 (.int .u8), .d (.int .i64)] kend = tEncode_z tCheck_Pz tCheck_rz tputI_Pz tputI_rz tputB_Pz tputB_rz F x.1 none (fun y0 y1 => kend [BV.o 5 (.int .u8) y0, BV.d (.int .i64) y1]) := by kernel_rfl
theorem tEncode_l1_step (F : Nat) : LStep prog (tEncode_book F) F 7 0 6 tEncode_l1_T (tEncode_l1_G F) := tEncode_l1_step_z tCheck_P tCheck_r tputI_P tputI_r tputB_P tputB_r F
theorem tEncode_loOk (F : Nat) : LoOk prog (tEncode_book F) F := loOk_of (l := tEncode_lo F) rfl (fa (loOne_of 0 (by kernel_rfl) (by kernel_rfl) (lstep_run (tEncode_l1_step F) (fun _ _ => rfl) (fun _ _ _ _ => rfl))) fz)
theorem tEncode_run (F : Nat) (x : ArgsT tEncode_ps) (kend : List BV → ZO) : runFnL prog (tEncode_book F) F 20 7 (argsInst tEncode_ps x) [.o 5 (.int .u8), .d (.int .i64)] kend = tEncode F x.1 none (fun y0 y1 => kend [BV.o 5 (.int .u8) y0, BV.d (.int .i64) y1]) := tEncode_run_z tCheck_P tCheck_r tputI_P tputI_r tputB_P tputB_r F x kend
theorem tEncode_contract  : Contract prog 7 tEncode_orc := con_of (B0 := tEncode_book0) zN zG mix_ok zT tEncode_run (orcsOf_ok (fa tCheck_contract (fa tputI_contract (fa tputB_contract fz)))) (by kernel_rfl) (fun _ => rfl) tEncode_loOk (fun x h => (tEncode_plain x.1 h).elim fun F hF => ⟨F, fun kend => hF none _⟩)
@[reducible] def tDecode_ps  : List PM := [.d (.slc (.int .u8))]
def tDecode_orc  : Orc := Orc.of tDecode_ps false 0 fun x => (tDecode_P x.1, [.d (.slc (.pair (.int .i64) (.pair (.slc (.int .u8)) .unit))) (tDecode_r0 x.1), .d (.int .i64) (tDecode_r1 x.1)])
@[reducible] def tDecode_l1_T  : Tpl := { cur := ⟨[(1, .ptr 0 []), (0, .nils), (0, .var (.int .i64)), (2, .row 1), (12, .var (.int .i64)), (0, .var (.int .i64))], 24⟩, stk := [⟨[], 0⟩], heap := [.box (.var (.slc (.int .u8))), .row 40 (.pair (.int .i64) (.pair (.slc (.int .u8)) .unit)) false] }
def tDecode_orcs  : List (FuncId × Orc) := [(22, wire_Int_orc), (25, wire_Bytes_orc)]
def tDecode_book0  : Book := { Γ := gam, orc := orcsOf tDecode_orcs, hint := hintsOf [(9, { keep := some [1, 2, 3, 6, 19, 20], keeps := [(11, [1, 2, 3, 6, 19, 20])], own := [(6, 22)], dat := [], stk := [] })] }
def tDecode_l1_G (F : Nat) (nx : tDecode_l1_T.T → ZO) (kq : ZK) (x : tDecode_l1_T.T) : ZO := tDecode_l1 F none (fun s3 s19 s20 b out => nx (((), ((), (s3, ((), (s19, (s20, ())))))), (((), ()), (b, (out, ()))))) (fun y0 y1 y2 y3 y4 => kq .ret (tDecode_l1_T.inst (((), ((), (y0, ((), (y1, (y2, ())))))), (((), ()), (y3, (y4, ())))))) (fun y0 y1 y2 y3 y4 => kq (.exit 0) (tDecode_l1_T.inst (((), ((), (y0, ((), (y1, (y2, ())))))), (((), ()), (y3, (y4, ())))))) x.1.2.2.1 x.1.2.2.2.2.1 x.1.2.2.2.2.2.1 x.2.2.1 x.2.2.2.1
def tDecode_l1_R (F m : Nat) (x : tDecode_l1_T.T) (kq : ZK) : ZO := tDecode_l1F F none (fun y0 y1 y2 y3 y4 => kq .ret (tDecode_l1_T.inst (((), ((), (y0, ((), (y1, (y2, ())))))), (((), ()), (y3, (y4, ())))))) (fun y0 y1 y2 y3 y4 => kq (.exit 0) (tDecode_l1_T.inst (((), ((), (y0, ((), (y1, (y2, ())))))), (((), ()), (y3, (y4, ())))))) m x.1.2.2.1 x.1.2.2.2.2.1 x.1.2.2.2.2.2.1 x.2.2.1 x.2.2.2.1
def tDecode_lo (F : Nat) : List (LoE Unit) := [⟨9, 11, LO.of tDecode_l1_T (tDecode_l1_R F F)⟩]
def tDecode_book (F : Nat) : BookL Unit := { toBook := tDecode_book0, lo := losOf (tDecode_lo F), need := needsOf [(9, 1)] }
def tDecode_l1_z (wire_Int_Pz : ZB → Bool) (wire_Int_r0z : ZB → Int) (wire_Int_r1z : ZB → ZB) (wire_Int_r2z : ZB → Int) (wire_Bytes_Pz : ZB → Bool) (wire_Bytes_r0z wire_Bytes_r1z : ZB → ZB) (wire_Bytes_r2z : ZB → Int) {X : Type} (F : Nat) (fail : X) (next ex0 ex1 : Int → Int → Int → ZB → List ZR → X) (s3 s19 s20 : Int) (b : ZB) (out : List ZR) : X :=
 bif (decide (s20 < s19)) then
  bif (wire_Int_Pz b) then
  bif ((wire_Int_r2z b) == (0 : Int)) then
   bif ((wire_Int_r2z b) != (0 : Int)) then
    ex0 (wire_Int_r2z b) s19 s20 (wire_Int_r1z b) out
   else
   bif (decide ((wire_Int_r0z b) ≥ (1 : Int))) then
    bif (!(decide ((wire_Int_r0z b) ≤ (4 : Int)))) then
     ex0 (1 : Int) s19 s20 (wire_Int_r1z b) out
    else
    bif (wire_Bytes_Pz (wire_Int_r1z b)) then
    bif ((wire_Bytes_r2z (wire_Int_r1z b)) == (0 : Int)) then
     bif ((wire_Bytes_r2z (wire_Int_r1z b)) != (0 : Int)) then
      ex0 (wire_Bytes_r2z (wire_Int_r1z b)) s19 s20 (wire_Bytes_r1z (wire_Int_r1z b)) out
     else
     bif (decide ((out ++ ([((wire_Int_r0z b), ((wire_Bytes_r0z (wire_Int_r1z b)), ()))] : List ZR)).length ≤ big)) then
     next s3 s19 (addI s20 (1 : Int)) (wire_Bytes_r1z (wire_Int_r1z b)) (out ++ ([((wire_Int_r0z b), ((wire_Bytes_r0z (wire_Int_r1z b)), ()))] : List ZR))
     else fail
    else
    bif ((wire_Bytes_r2z (wire_Int_r1z b)) != (0 : Int)) then
     ex0 (wire_Bytes_r2z (wire_Int_r1z b)) s19 s20 (wire_Int_r1z b) out
    else
    bif (decide ((out ++ ([((wire_Int_r0z b), (([] : ZB), ()))] : List ZR)).length ≤ big)) then
    next s3 s19 (addI s20 (1 : Int)) (wire_Int_r1z b) (out ++ ([((wire_Int_r0z b), (([] : ZB), ()))] : List ZR))
    else fail
    else fail
   else
   ex0 (1 : Int) s19 s20 (wire_Int_r1z b) out
  else
  bif ((wire_Int_r2z b) != (0 : Int)) then
   ex0 (wire_Int_r2z b) s19 s20 b out
  else
  ex0 (1 : Int) s19 s20 b out
  else fail
 else
 ex1 s3 s19 s20 b out
def tDecode_z (wire_Int_Pz : ZB → Bool) (wire_Int_r0z : ZB → Int) (wire_Int_r1z : ZB → ZB) (wire_Int_r2z : ZB → Int) (wire_Bytes_Pz : ZB → Bool) (wire_Bytes_r0z wire_Bytes_r1z : ZB → ZB) (wire_Bytes_r2z : ZB → Int) {X : Type} (F : Nat) (b : ZB) (fail : X) (ret : List ZR → Int → X) : X :=
 bif (decide (((b.length : Nat) : Int) > (65536 : Int))) then
  ret ([] : List ZR) (5 : Int)
 else
 bif (wire_Int_Pz b) then
 bif ((wire_Int_r2z b) == (0 : Int)) then
  bif ((wire_Int_r2z b) != (0 : Int)) then
   ret ([] : List ZR) (wire_Int_r2z b)
  else
  bif (decide ((wire_Int_r0z b) > (1024 : Int))) then
   ret ([] : List ZR) (6 : Int)
  else
  tDecode_l1F F fail
   (fun (s3 : Int) (s19 : Int) (s20 : Int) (b1 : ZB) (out : List ZR) =>
    ret ([] : List ZR) s3)
   (fun (s31 : Int) (s191 : Int) (s201 : Int) (b2 : ZB) (out1 : List ZR) =>
    bif (decide (((b2.length : Nat) : Int) > (0 : Int))) then
     ret ([] : List ZR) (3 : Int)
    else
    ret out1 (0 : Int))
   F (0 : Int) (wire_Int_r0z b) (0 : Int) (wire_Int_r1z b) ([] : List ZR)
 else
 bif ((wire_Int_r2z b) != (0 : Int)) then
  ret ([] : List ZR) (wire_Int_r2z b)
 else
 tDecode_l1F F fail
  (fun (s32 : Int) (s192 : Int) (s202 : Int) (b3 : ZB) (out2 : List ZR) =>
   ret ([] : List ZR) s32)
  (fun (s33 : Int) (s193 : Int) (s203 : Int) (b4 : ZB) (out3 : List ZR) =>
   bif (decide (((b4.length : Nat) : Int) > (0 : Int))) then
    ret ([] : List ZR) (3 : Int)
   else
   ret out3 (0 : Int))
  F (0 : Int) (0 : Int) (0 : Int) b ([] : List ZR)
 else fail
def tDecode_orcs_z (wire_Int_Pz : ZB → Bool) (wire_Int_r0z : ZB → Int) (wire_Int_r1z : ZB → ZB) (wire_Int_r2z : ZB → Int) (wire_Bytes_Pz : ZB → Bool) (wire_Bytes_r0z wire_Bytes_r1z : ZB → ZB) (wire_Bytes_r2z : ZB → Int) : List (FuncId × Orc) := [(22, Orc.of wire_Int_ps false 0 fun x => (wire_Int_Pz x.1, [.d (.int .i64) (wire_Int_r0z x.1), .d (.slc (.int .u8)) (wire_Int_r1z x.1), .d (.int .i64) (wire_Int_r2z x.1)])), (25, Orc.of wire_Bytes_ps false 0 fun x => (wire_Bytes_Pz x.1, [.d (.slc (.int .u8)) (wire_Bytes_r0z x.1), .d (.slc (.int .u8)) (wire_Bytes_r1z x.1), .d (.int .i64) (wire_Bytes_r2z x.1)]))]
def tDecode_book0_z (wire_Int_Pz : ZB → Bool) (wire_Int_r0z : ZB → Int) (wire_Int_r1z : ZB → ZB) (wire_Int_r2z : ZB → Int) (wire_Bytes_Pz : ZB → Bool) (wire_Bytes_r0z wire_Bytes_r1z : ZB → ZB) (wire_Bytes_r2z : ZB → Int) : Book := { Γ := gam, orc := orcsOf (tDecode_orcs_z wire_Int_Pz wire_Int_r0z wire_Int_r1z wire_Int_r2z wire_Bytes_Pz wire_Bytes_r0z wire_Bytes_r1z wire_Bytes_r2z), hint := hintsOf [(9, { keep := some [1, 2, 3, 6, 19, 20], keeps := [(11, [1, 2, 3, 6, 19, 20])], own := [(6, 22)], dat := [], stk := [] })] }
def tDecode_book_z (wire_Int_Pz : ZB → Bool) (wire_Int_r0z : ZB → Int) (wire_Int_r1z : ZB → ZB) (wire_Int_r2z : ZB → Int) (wire_Bytes_Pz : ZB → Bool) (wire_Bytes_r0z wire_Bytes_r1z : ZB → ZB) (wire_Bytes_r2z : ZB → Int) (F : Nat) : BookL Unit := { toBook := tDecode_book0_z wire_Int_Pz wire_Int_r0z wire_Int_r1z wire_Int_r2z wire_Bytes_Pz wire_Bytes_r0z wire_Bytes_r1z wire_Bytes_r2z, lo := losOf (tDecode_lo F), need := needsOf [(9, 1)] }
def tDecode_l1_G_z (wire_Int_Pz : ZB → Bool) (wire_Int_r0z : ZB → Int) (wire_Int_r1z : ZB → ZB) (wire_Int_r2z : ZB → Int) (wire_Bytes_Pz : ZB → Bool) (wire_Bytes_r0z wire_Bytes_r1z : ZB → ZB) (wire_Bytes_r2z : ZB → Int) (F : Nat) (nx : tDecode_l1_T.T → ZO) (kq : ZK) (x : tDecode_l1_T.T) : ZO := tDecode_l1_z wire_Int_Pz wire_Int_r0z wire_Int_r1z wire_Int_r2z wire_Bytes_Pz wire_Bytes_r0z wire_Bytes_r1z wire_Bytes_r2z F none (fun s3 s19 s20 b out => nx (((), ((), (s3, ((), (s19, (s20, ())))))), (((), ()), (b, (out, ()))))) (fun y0 y1 y2 y3 y4 => kq .ret (tDecode_l1_T.inst (((), ((), (y0, ((), (y1, (y2, ())))))), (((), ()), (y3, (y4, ())))))) (fun y0 y1 y2 y3 y4 => kq (.exit 0) (tDecode_l1_T.inst (((), ((), (y0, ((), (y1, (y2, ())))))), (((), ()), (y3, (y4, ())))))) x.1.2.2.1 x.1.2.2.2.2.1 x.1.2.2.2.2.2.1 x.2.2.1 x.2.2.2.1
theorem tDecode_l1_step_z (wire_Int_Pz : ZB → Bool) (wire_Int_r0z : ZB → Int) (wire_Int_r1z : ZB → ZB) (wire_Int_r2z : ZB → Int) (wire_Bytes_Pz : ZB → Bool) (wire_Bytes_r0z wire_Bytes_r1z : ZB → ZB) (wire_Bytes_r2z : ZB → Int) (F : Nat) : LStep prog (tDecode_book_z wire_Int_Pz wire_Int_r0z wire_Int_r1z wire_Int_r2z wire_Bytes_Pz wire_Bytes_r0z wire_Bytes_r1z wire_Bytes_r2z F) F 9 0 11 tDecode_l1_T (tDecode_l1_G_z wire_Int_Pz wire_Int_r0z wire_Int_r1z wire_Int_r2z wire_Bytes_Pz wire_Bytes_r0z wire_Bytes_r1z wire_Bytes_r2z F) := fun d x KQ => by kernel_rfl
theorem tDecode_run_z (wire_Int_Pz : ZB → Bool) (wire_Int_r0z : ZB → Int) (wire_Int_r1z : ZB → ZB) (wire_Int_r2z : ZB → Int) (wire_Bytes_Pz : ZB → Bool) (wire_Bytes_r0z wire_Bytes_r1z : ZB → ZB) (wire_Bytes_r2z : ZB → Int) (F : Nat) (x : ArgsT tDecode_ps) (kend : List BV → ZO) : runFnL prog (tDecode_book_z wire_Int_Pz wire_Int_r0z wire_Int_r1z wire_Int_r2z wire_Bytes_Pz wire_Bytes_r0z wire_Bytes_r1z wire_Bytes_r2z F) F 20 9 (argsInst tDecode_ps x) [.d (.slc (.pair (.int .i64) (.pair (.slc (.int .u8)) .unit))), .d (.int .i64)] kend = tDecode_z wire_Int_Pz wire_Int_r0z wire_Int_r1z wire_Int_r2z wire_Bytes_Pz wire_Bytes_r0z wire_Bytes_r1z wire_Bytes_r2z F x.1 none (fun y0 y1 => kend [BV.d (.slc (.pair (.int .i64) (.pair (.slc (.int .u8)) .unit))) y0, BV.d (.int .i64) y1]) := by kernel_rfl
theorem tDecode_l1_step (F : Nat) : LStep prog (tDecode_book F) F 9 0 11 tDecode_l1_T (tDecode_l1_G F) := tDecode_l1_step_z wire_Int_P wire_Int_r0 wire_Int_r1 wire_Int_r2 wire_Bytes_P wire_Bytes_r0 wire_Bytes_r1 wire_Bytes_r2 F
theorem tDecode_loOk (F : Nat) : LoOk prog (tDecode_book F) F := loOk_of (l := tDecode_lo F) rfl (fa (loOne_of 0 (by kernel_rfl) (by kernel_rfl) (lstep_run (tDecode_l1_step F) (fun _ _ => rfl) (fun _ _ _ _ => rfl))) fz)
theorem tDecode_run (F : Nat) (x : ArgsT tDecode_ps) (kend : List BV → ZO) : runFnL prog (tDecode_book F) F 20 9 (argsInst tDecode_ps x) [.d (.slc (.pair (.int .i64) (.pair (.slc (.int .u8)) .unit))), .d (.int .i64)] kend = tDecode F x.1 none (fun y0 y1 => kend [BV.d (.slc (.pair (.int .i64) (.pair (.slc (.int .u8)) .unit))) y0, BV.d (.int .i64) y1]) := tDecode_run_z wire_Int_P wire_Int_r0 wire_Int_r1 wire_Int_r2 wire_Bytes_P wire_Bytes_r0 wire_Bytes_r1 wire_Bytes_r2 F x kend
theorem tDecode_contract  : Contract prog 9 tDecode_orc := con_of (B0 := tDecode_book0) zN zG mix_ok zT tDecode_run (orcsOf_ok (fa wire_Int_contract (fa wire_Bytes_contract fz))) (by kernel_rfl) (fun _ => rfl) tDecode_loOk (fun x h => (tDecode_plain x.1 h).elim fun F hF => ⟨F, fun kend => hF none _⟩)
end Go.AI
namespace Go.AI
open Go
open Go.Proofs.Try (prog)
set_option linter.unusedVariables false
@[reducible] def tCommit_ps  : List PM := [.d (.pair (.int .i64) (.pair (.int .i64) (.pair (.int .i64) .unit))), .d (.slc (.int .u8)), .d (.slc (.pair (.int .i64) (.pair (.slc (.int .u8)) .unit)))]
def tCommit_orc  : Orc := Orc.of tCommit_ps false 0 fun x => (tCommit_P x.1 x.2.1 x.2.2.1, [.d (.pair (.int .i64) (.pair (.int .i64) (.pair (.int .i64) .unit))) (tCommit_r0 x.1 x.2.1 x.2.2.1), .d (.slc (.pair (.int .i64) (.pair (.int .i64) (.pair (.slc (.arr 16 (.int .u8))) .unit)))) (tCommit_r1 x.1 x.2.1 x.2.2.1), .d (.int .i64) (tCommit_r2 x.1 x.2.1 x.2.2.1)])
def tCommit_orcs  : List (FuncId × Orc) := [(7, tEncode_orc), (29, lCheck_orc), (30, cSeal_orc), (31, lAppend_orc)]
def tCommit_book0  : Book := { Γ := gam, orc := orcsOf tCommit_orcs, hint := hintsOf [] }
def tCommit_lo (F : Nat) : List (LoE Unit) := []
def tCommit_book (F : Nat) : BookL Unit := { toBook := tCommit_book0, lo := losOf (tCommit_lo F), need := needsOf [] }
theorem tCommit_loOk (F : Nat) : LoOk prog (tCommit_book F) F := loOk_of (l := tCommit_lo F) rfl fz
theorem tCommit_run (F : Nat) (x : ArgsT tCommit_ps) (kend : List BV → ZO) : runFnL prog (tCommit_book F) F 20 14 (argsInst tCommit_ps x) [.d (.pair (.int .i64) (.pair (.int .i64) (.pair (.int .i64) .unit))), .d (.slc (.pair (.int .i64) (.pair (.int .i64) (.pair (.slc (.arr 16 (.int .u8))) .unit)))), .d (.int .i64)] kend = tCommit F x.1 x.2.1 x.2.2.1 none (fun y0 y1 y2 => kend [BV.d (.pair (.int .i64) (.pair (.int .i64) (.pair (.int .i64) .unit))) y0, BV.d (.slc (.pair (.int .i64) (.pair (.int .i64) (.pair (.slc (.arr 16 (.int .u8))) .unit)))) y1, BV.d (.int .i64) y2]) := by kernel_rfl
theorem tCommit_contract  : Contract prog 14 tCommit_orc := con_of (B0 := tCommit_book0) zN zG mix_ok zT tCommit_run (orcsOf_ok (fa tEncode_contract (fa lCheck_contract (fa cSeal_contract (fa lAppend_contract fz))))) (by kernel_rfl) (fun _ => rfl) tCommit_loOk (fun x h => (tCommit_plain x.1 x.2.1 x.2.2.1 h).elim fun F hF => ⟨F, fun kend => hF none _⟩)
@[reducible] def law50_awake_ps  : List PM := []
def law50_awake_orc  : Orc := Orc.of law50_awake_ps true 0 fun x => (true, [.d .bool (law50_awake_r)])
def law50_awake_orcs  : List (FuncId × Orc) := [(7, tEncode_orc), (14, tCommit_orc)]
def law50_awake_book0  : Book := { Γ := gam, orc := orcsOf law50_awake_orcs, hint := hintsOf [] }
def law50_awake_lo (F : Nat) : List (LoE Unit) := []
def law50_awake_book (F : Nat) : BookL Unit := { toBook := law50_awake_book0, lo := losOf (law50_awake_lo F), need := needsOf [] }
theorem law50_awake_loOk (F : Nat) : LoOk prog (law50_awake_book F) F := loOk_of (l := law50_awake_lo F) rfl fz
theorem law50_awake_run (F : Nat) (x : ArgsT law50_awake_ps) (kend : List BV → ZO) : runFnL prog (law50_awake_book F) F 20 6 (argsInst law50_awake_ps x) [.d .bool] kend = law50_awake F  none (fun y0 => kend [BV.d .bool y0]) := by kernel_rfl
theorem law50_awake_contract  : Contract prog 6 law50_awake_orc := con_of (B0 := law50_awake_book0) zN zG mix_ok zT law50_awake_run (orcsOf_ok (fa tEncode_contract (fa tCommit_contract fz))) (by kernel_rfl) (fun _ => rfl) law50_awake_loOk (fun x _ => (law50_awake_plain ).elim fun F hF => ⟨F, fun kend => hF none _⟩)
end Go.AI
namespace Go.AI
open Go
open Go.Proofs.Try (prog)
set_option linter.unusedVariables false
@[reducible] def uFew_ps  : List PM := [.d (.slc (.pair (.int .i64) (.pair (.slc (.int .u8)) .unit)))]
def uFew_orc  : Orc := Orc.of uFew_ps true 0 fun x => (uFew_P x.1, [.d .bool (uFew_r x.1)])
@[reducible] def uFew_l1_T  : Tpl := { cur := ⟨[(0, .var (.slc (.pair (.int .i64) (.pair (.slc (.int .u8)) .unit)))), (1, .var .bool), (0, .var (.int .i64))], 20⟩, stk := [⟨[], 0⟩], heap := [] }
def uFew_orcs  : List (FuncId × Orc) := []
def uFew_book0  : Book := { Γ := gam, orc := orcsOf uFew_orcs, hint := hintsOf [(5, { keep := some [0, 2, 3], keeps := [(2, [0, 2, 3])], own := [], dat := [], stk := [] })] }
def uFew_l1_G (F : Nat) (nx : uFew_l1_T.T → ZO) (kq : ZK) (x : uFew_l1_T.T) : ZO := uFew_l1 F none (fun l s2 i => nx ((l, (s2, (i, ()))), (((), ()), ()))) (fun y0 y1 y2 => kq .ret (uFew_l1_T.inst ((y0, (y1, (y2, ()))), (((), ()), ())))) (fun y0 y1 y2 => kq (.exit 0) (uFew_l1_T.inst ((y0, (y1, (y2, ()))), (((), ()), ())))) x.1.1 x.1.2.1 x.1.2.2.1
def uFew_l1_R (F m : Nat) (x : uFew_l1_T.T) (kq : ZK) : ZO := uFew_l1F F none (fun y0 y1 y2 => kq .ret (uFew_l1_T.inst ((y0, (y1, (y2, ()))), (((), ()), ())))) (fun y0 y1 y2 => kq (.exit 0) (uFew_l1_T.inst ((y0, (y1, (y2, ()))), (((), ()), ())))) m x.1.1 x.1.2.1 x.1.2.2.1
def uFew_lo (F : Nat) : List (LoE Unit) := [⟨5, 2, LO.of uFew_l1_T (uFew_l1_R F F)⟩]
def uFew_book (F : Nat) : BookL Unit := { toBook := uFew_book0, lo := losOf (uFew_lo F), need := needsOf [] }
theorem uFew_l1_step (F : Nat) : LStep prog (uFew_book F) F 5 0 2 uFew_l1_T (uFew_l1_G F) := fun d x KQ => by kernel_rfl
theorem uFew_loOk (F : Nat) : LoOk prog (uFew_book F) F := loOk_of (l := uFew_lo F) rfl (fa (loOne_of 0 (by kernel_rfl) (by kernel_rfl) (lstep_run (uFew_l1_step F) (fun _ _ => rfl) (fun _ _ _ _ => rfl))) fz)
theorem uFew_run (F : Nat) (x : ArgsT uFew_ps) (kend : List BV → ZO) : runFnL prog (uFew_book F) F 20 5 (argsInst uFew_ps x) [.d .bool] kend = uFew F x.1 none (fun y0 => kend [BV.d .bool y0]) := by kernel_rfl
theorem uFew_contract  : Contract prog 5 uFew_orc := con_of (B0 := uFew_book0) zN zG mix_ok zT uFew_run (orcsOf_ok fz) (by kernel_rfl) (fun _ => rfl) uFew_loOk (fun x h => (uFew_plain x.1 h).elim fun F hF => ⟨F, fun kend => hF none _⟩)
@[reducible] def uSame_ps  : List PM := [.d (.slc (.pair (.int .i64) (.pair (.slc (.int .u8)) .unit))), .d (.slc (.pair (.int .i64) (.pair (.slc (.int .u8)) .unit)))]
def uSame_orc  : Orc := Orc.of uSame_ps true 0 fun x => (uSame_P x.1 x.2.1, [.d .bool (uSame_r x.1 x.2.1)])
@[reducible] def uSame_l1_T  : Tpl := { cur := ⟨[(0, .var (.slc (.pair (.int .i64) (.pair (.slc (.int .u8)) .unit)))), (0, .var (.slc (.pair (.int .i64) (.pair (.slc (.int .u8)) .unit)))), (2, .var .bool), (0, .var (.int .i64))], 37⟩, stk := [⟨[], 0⟩], heap := [] }
def uSame_orcs  : List (FuncId × Orc) := []
def uSame_book0  : Book := { Γ := gam, orc := orcsOf uSame_orcs, hint := hintsOf [(13, { keep := some [0, 1, 4, 5], keeps := [(4, [0, 1, 4, 5])], own := [], dat := [], stk := [] })] }
def uSame_l1_G (F : Nat) (nx : uSame_l1_T.T → ZO) (kq : ZK) (x : uSame_l1_T.T) : ZO := uSame_l1 F none (fun a b s4 i => nx ((a, (b, (s4, (i, ())))), (((), ()), ()))) (fun y0 y1 y2 y3 => kq .ret (uSame_l1_T.inst ((y0, (y1, (y2, (y3, ())))), (((), ()), ())))) (fun y0 y1 y2 y3 => kq (.exit 0) (uSame_l1_T.inst ((y0, (y1, (y2, (y3, ())))), (((), ()), ())))) x.1.1 x.1.2.1 x.1.2.2.1 x.1.2.2.2.1
def uSame_l1_R (F m : Nat) (x : uSame_l1_T.T) (kq : ZK) : ZO := uSame_l1F F none (fun y0 y1 y2 y3 => kq .ret (uSame_l1_T.inst ((y0, (y1, (y2, (y3, ())))), (((), ()), ())))) (fun y0 y1 y2 y3 => kq (.exit 0) (uSame_l1_T.inst ((y0, (y1, (y2, (y3, ())))), (((), ()), ())))) m x.1.1 x.1.2.1 x.1.2.2.1 x.1.2.2.2.1
def uSame_lo (F : Nat) : List (LoE Unit) := [⟨13, 4, LO.of uSame_l1_T (uSame_l1_R F F)⟩]
def uSame_book (F : Nat) : BookL Unit := { toBook := uSame_book0, lo := losOf (uSame_lo F), need := needsOf [] }
theorem uSame_l1_step (F : Nat) : LStep prog (uSame_book F) F 13 0 4 uSame_l1_T (uSame_l1_G F) := fun d x KQ => by kernel_rfl
theorem uSame_loOk (F : Nat) : LoOk prog (uSame_book F) F := loOk_of (l := uSame_lo F) rfl (fa (loOne_of 0 (by kernel_rfl) (by kernel_rfl) (lstep_run (uSame_l1_step F) (fun _ _ => rfl) (fun _ _ _ _ => rfl))) fz)
theorem uSame_run (F : Nat) (x : ArgsT uSame_ps) (kend : List BV → ZO) : runFnL prog (uSame_book F) F 20 13 (argsInst uSame_ps x) [.d .bool] kend = uSame F x.1 x.2.1 none (fun y0 => kend [BV.d .bool y0]) := by kernel_rfl
theorem uSame_contract  : Contract prog 13 uSame_orc := con_of (B0 := uSame_book0) zN zG mix_ok zT uSame_run (orcsOf_ok fz) (by kernel_rfl) (fun _ => rfl) uSame_loOk (fun x h => (uSame_plain x.1 x.2.1 h).elim fun F hF => ⟨F, fun kend => hF none _⟩)
end Go.AI
namespace Go.AI
open Go
open Go.Proofs.Try (prog)
set_option linter.unusedVariables false
@[reducible] def uKind_ps  : List PM := [.d (.int .i64)]
def uKind_orc  : Orc := Orc.of uKind_ps true 0 fun x => (true, [.d (.int .i64) (uKind_r x.1)])
def uKind_orcs  : List (FuncId × Orc) := []
def uKind_book0  : Book := { Γ := gam, orc := orcsOf uKind_orcs, hint := hintsOf [] }
def uKind_lo (F : Nat) : List (LoE Unit) := []
def uKind_book (F : Nat) : BookL Unit := { toBook := uKind_book0, lo := losOf (uKind_lo F), need := needsOf [] }
theorem uKind_loOk (F : Nat) : LoOk prog (uKind_book F) F := loOk_of (l := uKind_lo F) rfl fz
theorem uKind_run (F : Nat) (x : ArgsT uKind_ps) (kend : List BV → ZO) : runFnL prog (uKind_book F) F 20 27 (argsInst uKind_ps x) [.d (.int .i64)] kend = uKind F x.1 none (fun y0 => kend [BV.d (.int .i64) y0]) := by kernel_rfl
theorem uKind_contract  : Contract prog 27 uKind_orc := con_of (B0 := uKind_book0) zN zG mix_ok zT uKind_run (orcsOf_ok fz) (by kernel_rfl) (fun _ => rfl) uKind_loOk (fun x _ => (uKind_plain x.1).elim fun F hF => ⟨F, fun kend => hF none _⟩)
@[reducible] def uCheck_ps  : List PM := [.d (.slc (.pair (.int .i64) (.pair (.slc (.int .u8)) .unit)))]
def uCheck_orc  : Orc := Orc.of uCheck_ps true 0 fun x => (uCheck_P x.1, [.d (.int .i64) (uCheck_r x.1)])
@[reducible] def uCheck_l1_T  : Tpl := { cur := ⟨[(0, .var (.slc (.pair (.int .i64) (.pair (.slc (.int .u8)) .unit)))), (1, .var (.int .i64)), (0, .var (.int .i64))], 26⟩, stk := [⟨[], 0⟩], heap := [] }
def uCheck_orcs  : List (FuncId × Orc) := [(27, uKind_orc)]
def uCheck_book0  : Book := { Γ := gam, orc := orcsOf uCheck_orcs, hint := hintsOf [(12, { keep := some [0, 2, 3], keeps := [(4, [0, 2, 3])], own := [], dat := [], stk := [] })] }
def uCheck_l1_G (F : Nat) (nx : uCheck_l1_T.T → ZO) (kq : ZK) (x : uCheck_l1_T.T) : ZO := uCheck_l1 F none (fun l s2 i => nx ((l, (s2, (i, ()))), (((), ()), ()))) (fun y0 y1 y2 => kq .ret (uCheck_l1_T.inst ((y0, (y1, (y2, ()))), (((), ()), ())))) (fun y0 y1 y2 => kq (.exit 0) (uCheck_l1_T.inst ((y0, (y1, (y2, ()))), (((), ()), ())))) x.1.1 x.1.2.1 x.1.2.2.1
def uCheck_l1_R (F m : Nat) (x : uCheck_l1_T.T) (kq : ZK) : ZO := uCheck_l1F F none (fun y0 y1 y2 => kq .ret (uCheck_l1_T.inst ((y0, (y1, (y2, ()))), (((), ()), ())))) (fun y0 y1 y2 => kq (.exit 0) (uCheck_l1_T.inst ((y0, (y1, (y2, ()))), (((), ()), ())))) m x.1.1 x.1.2.1 x.1.2.2.1
def uCheck_lo (F : Nat) : List (LoE Unit) := [⟨12, 4, LO.of uCheck_l1_T (uCheck_l1_R F F)⟩]
def uCheck_book (F : Nat) : BookL Unit := { toBook := uCheck_book0, lo := losOf (uCheck_lo F), need := needsOf [] }
theorem uCheck_l1_step (F : Nat) : LStep prog (uCheck_book F) F 12 0 4 uCheck_l1_T (uCheck_l1_G F) := fun d x KQ => by kernel_rfl
theorem uCheck_loOk (F : Nat) : LoOk prog (uCheck_book F) F := loOk_of (l := uCheck_lo F) rfl (fa (loOne_of 0 (by kernel_rfl) (by kernel_rfl) (lstep_run (uCheck_l1_step F) (fun _ _ => rfl) (fun _ _ _ _ => rfl))) fz)
theorem uCheck_run (F : Nat) (x : ArgsT uCheck_ps) (kend : List BV → ZO) : runFnL prog (uCheck_book F) F 20 12 (argsInst uCheck_ps x) [.d (.int .i64)] kend = uCheck F x.1 none (fun y0 => kend [BV.d (.int .i64) y0]) := by kernel_rfl
theorem uCheck_contract  : Contract prog 12 uCheck_orc := con_of (B0 := uCheck_book0) zN zG mix_ok zT uCheck_run (orcsOf_ok (fa uKind_contract fz)) (by kernel_rfl) (fun _ => rfl) uCheck_loOk (fun x h => (uCheck_plain x.1 h).elim fun F hF => ⟨F, fun kend => hF none _⟩)
@[reducible] def uEncode_ps  : List PM := [.d (.slc (.pair (.int .i64) (.pair (.slc (.int .u8)) .unit)))]
def uEncode_orc  : Orc := Orc.of uEncode_ps true 1 fun x => (uEncode_P x.1, [.o 5 (.int .u8) (uEncode_r0 x.1), .d (.int .i64) (uEncode_r1 x.1)])
@[reducible] def uEncode_l1_T  : Tpl := { cur := ⟨[(0, .var (.slc (.pair (.int .i64) (.pair (.slc (.int .u8)) .unit)))), (1, .nils), (0, .var (.int .i64)), (1, .row 0), (0, .var (.int .i64))], 31⟩, stk := [⟨[], 0⟩], heap := [.row 5 (.int .u8) false] }
def uEncode_orcs  : List (FuncId × Orc) := [(12, uCheck_orc), (19, ref02_PutInt_orc), (20, ref02_PutBytes_orc)]
def uEncode_book0  : Book := { Γ := gam, orc := orcsOf uEncode_orcs, hint := hintsOf [(8, { keep := some [0, 2, 3, 5, 6], keeps := [(6, [0, 2, 3, 5, 6])], own := [], dat := [], stk := [] })] }
def uEncode_l1_G (F : Nat) (nx : uEncode_l1_T.T → ZO) (kq : ZK) (x : uEncode_l1_T.T) : ZO := uEncode_l1 F none (fun l s3 i b => nx ((l, ((), (s3, ((), (i, ()))))), (((), ()), (b, ())))) (fun y0 y1 y2 y3 => kq .ret (uEncode_l1_T.inst ((y0, ((), (y1, ((), (y2, ()))))), (((), ()), (y3, ()))))) (fun y0 y1 y2 y3 => kq (.exit 0) (uEncode_l1_T.inst ((y0, ((), (y1, ((), (y2, ()))))), (((), ()), (y3, ()))))) x.1.1 x.1.2.2.1 x.1.2.2.2.2.1 x.2.2.1
def uEncode_l1_R (F m : Nat) (x : uEncode_l1_T.T) (kq : ZK) : ZO := uEncode_l1F F none (fun y0 y1 y2 y3 => kq .ret (uEncode_l1_T.inst ((y0, ((), (y1, ((), (y2, ()))))), (((), ()), (y3, ()))))) (fun y0 y1 y2 y3 => kq (.exit 0) (uEncode_l1_T.inst ((y0, ((), (y1, ((), (y2, ()))))), (((), ()), (y3, ()))))) m x.1.1 x.1.2.2.1 x.1.2.2.2.2.1 x.2.2.1
def uEncode_lo (F : Nat) : List (LoE Unit) := [⟨8, 6, LO.of uEncode_l1_T (uEncode_l1_R F F)⟩]
def uEncode_book (F : Nat) : BookL Unit := { toBook := uEncode_book0, lo := losOf (uEncode_lo F), need := needsOf [] }
def uEncode_l1_z (uCheck_Pz : (List ZR) → Bool) (uCheck_rz : (List ZR) → Int) (ref02_PutInt_Pz : ZB → Int → Bool) (ref02_PutInt_rz : ZB → Int → ZB) (ref02_PutBytes_Pz : ZB → ZB → Bool) (ref02_PutBytes_rz : ZB → ZB → ZB) {X : Type} (F : Nat) (fail : X) (next ex0 ex1 : List ZR → Int → Int → ZB → X) (l : List ZR) (s3 i : Int) (b : ZB) : X :=
 bif (decide (i < ((l.length : Nat) : Int))) then
  bif ((decide ((0 : Int) ≤ i)) && (decide (i < ((l.length : Nat) : Int)))) then
  bif (ref02_PutInt_Pz b (List.getD l (i).toNat ((0 : Int), (([] : ZB), ()))).1) then
  bif ((decide ((0 : Int) ≤ i)) && (decide (i < ((l.length : Nat) : Int)))) then
  bif (ref02_PutBytes_Pz (ref02_PutInt_rz b (List.getD l (i).toNat ((0 : Int), (([] : ZB), ()))).1) (List.getD l (i).toNat ((0 : Int), (([] : ZB), ()))).2.1) then
  bif (decide ((((ref02_PutBytes_rz (ref02_PutInt_rz b (List.getD l (i).toNat ((0 : Int), (([] : ZB), ()))).1) (List.getD l (i).toNat ((0 : Int), (([] : ZB), ()))).2.1).length : Nat) : Int) > (65536 : Int))) then
   ex0 l (5 : Int) i (ref02_PutBytes_rz (ref02_PutInt_rz b (List.getD l (i).toNat ((0 : Int), (([] : ZB), ()))).1) (List.getD l (i).toNat ((0 : Int), (([] : ZB), ()))).2.1)
  else
  next l s3 (addI i (1 : Int)) (ref02_PutBytes_rz (ref02_PutInt_rz b (List.getD l (i).toNat ((0 : Int), (([] : ZB), ()))).1) (List.getD l (i).toNat ((0 : Int), (([] : ZB), ()))).2.1)
  else fail
  else fail
  else fail
  else fail
 else
 ex1 l s3 i b
def uEncode_z (uCheck_Pz : (List ZR) → Bool) (uCheck_rz : (List ZR) → Int) (ref02_PutInt_Pz : ZB → Int → Bool) (ref02_PutInt_rz : ZB → Int → ZB) (ref02_PutBytes_Pz : ZB → ZB → Bool) (ref02_PutBytes_rz : ZB → ZB → ZB) {X : Type} (F : Nat) (l : List ZR) (fail : X) (ret : ZB → Int → X) : X :=
 bif (uCheck_Pz l) then
 bif ((uCheck_rz l) != (0 : Int)) then
  ret ([] : ZB) (uCheck_rz l)
 else
 bif (ref02_PutInt_Pz ([] : ZB) ((l.length : Nat) : Int)) then
 uEncode_l1F F fail
  (fun (l1 : List ZR) (s3 : Int) (i : Int) (b : ZB) =>
   ret ([] : ZB) s3)
  (fun (l2 : List ZR) (s31 : Int) (i1 : Int) (b1 : ZB) =>
   ret b1 (0 : Int))
  F l (0 : Int) (0 : Int) (ref02_PutInt_rz ([] : ZB) ((l.length : Nat) : Int))
 else fail
 else fail
def uEncode_orcs_z (uCheck_Pz : (List ZR) → Bool) (uCheck_rz : (List ZR) → Int) (ref02_PutInt_Pz : ZB → Int → Bool) (ref02_PutInt_rz : ZB → Int → ZB) (ref02_PutBytes_Pz : ZB → ZB → Bool) (ref02_PutBytes_rz : ZB → ZB → ZB) : List (FuncId × Orc) := [(12, Orc.of uCheck_ps true 0 fun x => (uCheck_Pz x.1, [.d (.int .i64) (uCheck_rz x.1)])), (19, Orc.of ref02_PutInt_ps true 1 fun x => (ref02_PutInt_Pz x.1 x.2.1, [.o 5 (.int .u8) (ref02_PutInt_rz x.1 x.2.1)])), (20, Orc.of ref02_PutBytes_ps true 1 fun x => (ref02_PutBytes_Pz x.1 x.2.1, [.o 5 (.int .u8) (ref02_PutBytes_rz x.1 x.2.1)]))]
def uEncode_book0_z (uCheck_Pz : (List ZR) → Bool) (uCheck_rz : (List ZR) → Int) (ref02_PutInt_Pz : ZB → Int → Bool) (ref02_PutInt_rz : ZB → Int → ZB) (ref02_PutBytes_Pz : ZB → ZB → Bool) (ref02_PutBytes_rz : ZB → ZB → ZB) : Book := { Γ := gam, orc := orcsOf (uEncode_orcs_z uCheck_Pz uCheck_rz ref02_PutInt_Pz ref02_PutInt_rz ref02_PutBytes_Pz ref02_PutBytes_rz), hint := hintsOf [(8, { keep := some [0, 2, 3, 5, 6], keeps := [(6, [0, 2, 3, 5, 6])], own := [], dat := [], stk := [] })] }
def uEncode_book_z (uCheck_Pz : (List ZR) → Bool) (uCheck_rz : (List ZR) → Int) (ref02_PutInt_Pz : ZB → Int → Bool) (ref02_PutInt_rz : ZB → Int → ZB) (ref02_PutBytes_Pz : ZB → ZB → Bool) (ref02_PutBytes_rz : ZB → ZB → ZB) (F : Nat) : BookL Unit := { toBook := uEncode_book0_z uCheck_Pz uCheck_rz ref02_PutInt_Pz ref02_PutInt_rz ref02_PutBytes_Pz ref02_PutBytes_rz, lo := losOf (uEncode_lo F), need := needsOf [] }
def uEncode_l1_G_z (uCheck_Pz : (List ZR) → Bool) (uCheck_rz : (List ZR) → Int) (ref02_PutInt_Pz : ZB → Int → Bool) (ref02_PutInt_rz : ZB → Int → ZB) (ref02_PutBytes_Pz : ZB → ZB → Bool) (ref02_PutBytes_rz : ZB → ZB → ZB) (F : Nat) (nx : uEncode_l1_T.T → ZO) (kq : ZK) (x : uEncode_l1_T.T) : ZO := uEncode_l1_z uCheck_Pz uCheck_rz ref02_PutInt_Pz ref02_PutInt_rz ref02_PutBytes_Pz ref02_PutBytes_rz F none (fun l s3 i b => nx ((l, ((), (s3, ((), (i, ()))))), (((), ()), (b, ())))) (fun y0 y1 y2 y3 => kq .ret (uEncode_l1_T.inst ((y0, ((), (y1, ((), (y2, ()))))), (((), ()), (y3, ()))))) (fun y0 y1 y2 y3 => kq (.exit 0) (uEncode_l1_T.inst ((y0, ((), (y1, ((), (y2, ()))))), (((), ()), (y3, ()))))) x.1.1 x.1.2.2.1 x.1.2.2.2.2.1 x.2.2.1
theorem uEncode_l1_step_z (uCheck_Pz : (List ZR) → Bool) (uCheck_rz : (List ZR) → Int) (ref02_PutInt_Pz : ZB → Int → Bool) (ref02_PutInt_rz : ZB → Int → ZB) (ref02_PutBytes_Pz : ZB → ZB → Bool) (ref02_PutBytes_rz : ZB → ZB → ZB) (F : Nat) : LStep prog (uEncode_book_z uCheck_Pz uCheck_rz ref02_PutInt_Pz ref02_PutInt_rz ref02_PutBytes_Pz ref02_PutBytes_rz F) F 8 0 6 uEncode_l1_T (uEncode_l1_G_z uCheck_Pz uCheck_rz ref02_PutInt_Pz ref02_PutInt_rz ref02_PutBytes_Pz ref02_PutBytes_rz F) := fun d x KQ => by kernel_rfl
theorem uEncode_run_z (uCheck_Pz : (List ZR) → Bool) (uCheck_rz : (List ZR) → Int) (ref02_PutInt_Pz : ZB → Int → Bool) (ref02_PutInt_rz : ZB → Int → ZB) (ref02_PutBytes_Pz : ZB → ZB → Bool) (ref02_PutBytes_rz : ZB → ZB → ZB) (F : Nat) (x : ArgsT uEncode_ps) (kend : List BV → ZO) : runFnL prog (uEncode_book_z uCheck_Pz uCheck_rz ref02_PutInt_Pz ref02_PutInt_rz ref02_PutBytes_Pz ref02_PutBytes_rz F) F 20 8 (argsInst uEncode_ps x) [.o 5 (.int .u8), .d (.int .i64)] kend = uEncode_z uCheck_Pz uCheck_rz ref02_PutInt_Pz ref02_PutInt_rz ref02_PutBytes_Pz ref02_PutBytes_rz F x.1 none (fun y0 y1 => kend [BV.o 5 (.int .u8) y0, BV.d (.int .i64) y1]) := by kernel_rfl
theorem uEncode_l1_step (F : Nat) : LStep prog (uEncode_book F) F 8 0 6 uEncode_l1_T (uEncode_l1_G F) := uEncode_l1_step_z uCheck_P uCheck_r ref02_PutInt_P ref02_PutInt_r ref02_PutBytes_P ref02_PutBytes_r F
theorem uEncode_loOk (F : Nat) : LoOk prog (uEncode_book F) F := loOk_of (l := uEncode_lo F) rfl (fa (loOne_of 0 (by kernel_rfl) (by kernel_rfl) (lstep_run (uEncode_l1_step F) (fun _ _ => rfl) (fun _ _ _ _ => rfl))) fz)
theorem uEncode_run (F : Nat) (x : ArgsT uEncode_ps) (kend : List BV → ZO) : runFnL prog (uEncode_book F) F 20 8 (argsInst uEncode_ps x) [.o 5 (.int .u8), .d (.int .i64)] kend = uEncode F x.1 none (fun y0 y1 => kend [BV.o 5 (.int .u8) y0, BV.d (.int .i64) y1]) := uEncode_run_z uCheck_P uCheck_r ref02_PutInt_P ref02_PutInt_r ref02_PutBytes_P ref02_PutBytes_r F x kend
theorem uEncode_contract  : Contract prog 8 uEncode_orc := con_of (B0 := uEncode_book0) zN zG mix_ok zT uEncode_run (orcsOf_ok (fa uCheck_contract (fa ref02_PutInt_contract (fa ref02_PutBytes_contract fz)))) (by kernel_rfl) (fun _ => rfl) uEncode_loOk (fun x h => (uEncode_plain x.1 h).elim fun F hF => ⟨F, fun kend => hF none _⟩)
@[reducible] def uDecode_ps  : List PM := [.d (.slc (.int .u8))]
def uDecode_orc  : Orc := Orc.of uDecode_ps false 0 fun x => (uDecode_P x.1, [.d (.slc (.pair (.int .i64) (.pair (.slc (.int .u8)) .unit))) (uDecode_r0 x.1), .d (.int .i64) (uDecode_r1 x.1)])
@[reducible] def uDecode_l1_T  : Tpl := { cur := ⟨[(0, .row 0), (1, .nils), (0, .var (.int .i64)), (0, .var (.int .i64)), (1, .row 1), (0, .var (.int .i64))], 53⟩, stk := [⟨[], 0⟩], heap := [.row 5 (.int .u8) false, .row 40 (.pair (.int .i64) (.pair (.slc (.int .u8)) .unit)) false] }
def uDecode_orcs  : List (FuncId × Orc) := [(26, ref02_Int_orc), (27, uKind_orc), (28, ref02_Bytes_orc)]
def uDecode_book0  : Book := { Γ := gam, orc := orcsOf uDecode_orcs, hint := hintsOf [(10, { keep := some [0, 2, 3, 4, 6, 7], keeps := [(10, [0, 2, 3, 4, 6, 7])], own := [(6, 22)], dat := [], stk := [] })] }
def uDecode_l1_G (F : Nat) (nx : uDecode_l1_T.T → ZO) (kq : ZK) (x : uDecode_l1_T.T) : ZO := uDecode_l1 F none (fun s3 n i b out => nx (((), ((), (s3, (n, ((), (i, ())))))), (((), ()), (b, (out, ()))))) (fun y0 y1 y2 y3 y4 => kq .ret (uDecode_l1_T.inst (((), ((), (y0, (y1, ((), (y2, ())))))), (((), ()), (y3, (y4, ())))))) (fun y0 y1 y2 y3 y4 => kq (.exit 0) (uDecode_l1_T.inst (((), ((), (y0, (y1, ((), (y2, ())))))), (((), ()), (y3, (y4, ())))))) x.1.2.2.1 x.1.2.2.2.1 x.1.2.2.2.2.2.1 x.2.2.1 x.2.2.2.1
def uDecode_l1_R (F m : Nat) (x : uDecode_l1_T.T) (kq : ZK) : ZO := uDecode_l1F F none (fun y0 y1 y2 y3 y4 => kq .ret (uDecode_l1_T.inst (((), ((), (y0, (y1, ((), (y2, ())))))), (((), ()), (y3, (y4, ())))))) (fun y0 y1 y2 y3 y4 => kq (.exit 0) (uDecode_l1_T.inst (((), ((), (y0, (y1, ((), (y2, ())))))), (((), ()), (y3, (y4, ())))))) m x.1.2.2.1 x.1.2.2.2.1 x.1.2.2.2.2.2.1 x.2.2.1 x.2.2.2.1
def uDecode_lo (F : Nat) : List (LoE Unit) := [⟨10, 10, LO.of uDecode_l1_T (uDecode_l1_R F F)⟩]
def uDecode_book (F : Nat) : BookL Unit := { toBook := uDecode_book0, lo := losOf (uDecode_lo F), need := needsOf [] }
def uDecode_l1_z (ref02_Int_Pz : ZB → Bool) (ref02_Int_r0z : ZB → Int) (ref02_Int_r1z : ZB → ZB) (ref02_Int_r2z : ZB → Int) (uKind_rz : Int → Int) (ref02_Bytes_Pz : ZB → Bool) (ref02_Bytes_r0z ref02_Bytes_r1z : ZB → ZB) (ref02_Bytes_r2z : ZB → Int) {X : Type} (F : Nat) (fail : X) (next ex0 ex1 : Int → Int → Int → ZB → List ZR → X) (s3 n i : Int) (b : ZB) (out : List ZR) : X :=
 bif (decide (i < n)) then
  bif (ref02_Int_Pz b) then
  bif ((ref02_Int_r2z b) == (0 : Int)) then
   bif ((uKind_rz (ref02_Int_r0z b)) == (0 : Int)) then
    bif (ref02_Bytes_Pz (ref02_Int_r1z b)) then
    bif ((ref02_Bytes_r2z (ref02_Int_r1z b)) != (0 : Int)) then
     ex0 (ref02_Bytes_r2z (ref02_Int_r1z b)) n i (ref02_Bytes_r1z (ref02_Int_r1z b)) out
    else
    bif (decide ((out ++ ([((ref02_Int_r0z b), ((ref02_Bytes_r0z (ref02_Int_r1z b)), ()))] : List ZR)).length ≤ big)) then
    next s3 n (addI i (1 : Int)) (ref02_Bytes_r1z (ref02_Int_r1z b)) (out ++ ([((ref02_Int_r0z b), ((ref02_Bytes_r0z (ref02_Int_r1z b)), ()))] : List ZR))
    else fail
    else fail
   else
   bif ((uKind_rz (ref02_Int_r0z b)) != (0 : Int)) then
    ex0 (uKind_rz (ref02_Int_r0z b)) n i (ref02_Int_r1z b) out
   else
   bif (decide ((out ++ ([((ref02_Int_r0z b), (([] : ZB), ()))] : List ZR)).length ≤ big)) then
   next s3 n (addI i (1 : Int)) (ref02_Int_r1z b) (out ++ ([((ref02_Int_r0z b), (([] : ZB), ()))] : List ZR))
   else fail
  else
  bif ((ref02_Int_r2z b) == (0 : Int)) then
   bif (ref02_Bytes_Pz (ref02_Int_r1z b)) then
   bif ((ref02_Bytes_r2z (ref02_Int_r1z b)) != (0 : Int)) then
    ex0 (ref02_Bytes_r2z (ref02_Int_r1z b)) n i (ref02_Bytes_r1z (ref02_Int_r1z b)) out
   else
   bif (decide ((out ++ ([((ref02_Int_r0z b), ((ref02_Bytes_r0z (ref02_Int_r1z b)), ()))] : List ZR)).length ≤ big)) then
   next s3 n (addI i (1 : Int)) (ref02_Bytes_r1z (ref02_Int_r1z b)) (out ++ ([((ref02_Int_r0z b), ((ref02_Bytes_r0z (ref02_Int_r1z b)), ()))] : List ZR))
   else fail
   else fail
  else
  bif ((ref02_Int_r2z b) != (0 : Int)) then
   ex0 (ref02_Int_r2z b) n i (ref02_Int_r1z b) out
  else
  bif (decide ((out ++ ([((ref02_Int_r0z b), (([] : ZB), ()))] : List ZR)).length ≤ big)) then
  next s3 n (addI i (1 : Int)) (ref02_Int_r1z b) (out ++ ([((ref02_Int_r0z b), (([] : ZB), ()))] : List ZR))
  else fail
  else fail
 else
 ex1 s3 n i b out
def uDecode_z (ref02_Int_Pz : ZB → Bool) (ref02_Int_r0z : ZB → Int) (ref02_Int_r1z : ZB → ZB) (ref02_Int_r2z : ZB → Int) (uKind_rz : Int → Int) (ref02_Bytes_Pz : ZB → Bool) (ref02_Bytes_r0z ref02_Bytes_r1z : ZB → ZB) (ref02_Bytes_r2z : ZB → Int) {X : Type} (F : Nat) (b : ZB) (fail : X) (ret : List ZR → Int → X) : X :=
 bif (decide (((b.length : Nat) : Int) > (65536 : Int))) then
  ret ([] : List ZR) (5 : Int)
 else
 bif (ref02_Int_Pz b) then
 bif ((ref02_Int_r2z b) != (0 : Int)) then
  ret ([] : List ZR) (ref02_Int_r2z b)
 else
 bif (decide ((ref02_Int_r0z b) > (1024 : Int))) then
  ret ([] : List ZR) (6 : Int)
 else
 uDecode_l1F F fail
  (fun (s3 : Int) (n : Int) (i : Int) (b1 : ZB) (out : List ZR) =>
   ret ([] : List ZR) s3)
  (fun (s31 : Int) (n1 : Int) (i1 : Int) (b2 : ZB) (out1 : List ZR) =>
   bif (decide (((b2.length : Nat) : Int) > (0 : Int))) then
    ret ([] : List ZR) (3 : Int)
   else
   ret out1 (0 : Int))
  F (0 : Int) (ref02_Int_r0z b) (0 : Int) (ref02_Int_r1z b) ([] : List ZR)
 else fail
def uDecode_orcs_z (ref02_Int_Pz : ZB → Bool) (ref02_Int_r0z : ZB → Int) (ref02_Int_r1z : ZB → ZB) (ref02_Int_r2z : ZB → Int) (uKind_rz : Int → Int) (ref02_Bytes_Pz : ZB → Bool) (ref02_Bytes_r0z ref02_Bytes_r1z : ZB → ZB) (ref02_Bytes_r2z : ZB → Int) : List (FuncId × Orc) := [(26, Orc.of ref02_Int_ps true 1 fun x => (ref02_Int_Pz x.1, [.d (.int .i64) (ref02_Int_r0z x.1), .o 5 (.int .u8) (ref02_Int_r1z x.1), .d (.int .i64) (ref02_Int_r2z x.1)])), (27, Orc.of uKind_ps true 0 fun x => (true, [.d (.int .i64) (uKind_rz x.1)])), (28, Orc.of ref02_Bytes_ps true 2 fun x => (ref02_Bytes_Pz x.1, [.o 5 (.int .u8) (ref02_Bytes_r0z x.1), .o 5 (.int .u8) (ref02_Bytes_r1z x.1), .d (.int .i64) (ref02_Bytes_r2z x.1)]))]
def uDecode_book0_z (ref02_Int_Pz : ZB → Bool) (ref02_Int_r0z : ZB → Int) (ref02_Int_r1z : ZB → ZB) (ref02_Int_r2z : ZB → Int) (uKind_rz : Int → Int) (ref02_Bytes_Pz : ZB → Bool) (ref02_Bytes_r0z ref02_Bytes_r1z : ZB → ZB) (ref02_Bytes_r2z : ZB → Int) : Book := { Γ := gam, orc := orcsOf (uDecode_orcs_z ref02_Int_Pz ref02_Int_r0z ref02_Int_r1z ref02_Int_r2z uKind_rz ref02_Bytes_Pz ref02_Bytes_r0z ref02_Bytes_r1z ref02_Bytes_r2z), hint := hintsOf [(10, { keep := some [0, 2, 3, 4, 6, 7], keeps := [(10, [0, 2, 3, 4, 6, 7])], own := [(6, 22)], dat := [], stk := [] })] }
def uDecode_book_z (ref02_Int_Pz : ZB → Bool) (ref02_Int_r0z : ZB → Int) (ref02_Int_r1z : ZB → ZB) (ref02_Int_r2z : ZB → Int) (uKind_rz : Int → Int) (ref02_Bytes_Pz : ZB → Bool) (ref02_Bytes_r0z ref02_Bytes_r1z : ZB → ZB) (ref02_Bytes_r2z : ZB → Int) (F : Nat) : BookL Unit := { toBook := uDecode_book0_z ref02_Int_Pz ref02_Int_r0z ref02_Int_r1z ref02_Int_r2z uKind_rz ref02_Bytes_Pz ref02_Bytes_r0z ref02_Bytes_r1z ref02_Bytes_r2z, lo := losOf (uDecode_lo F), need := needsOf [] }
def uDecode_l1_G_z (ref02_Int_Pz : ZB → Bool) (ref02_Int_r0z : ZB → Int) (ref02_Int_r1z : ZB → ZB) (ref02_Int_r2z : ZB → Int) (uKind_rz : Int → Int) (ref02_Bytes_Pz : ZB → Bool) (ref02_Bytes_r0z ref02_Bytes_r1z : ZB → ZB) (ref02_Bytes_r2z : ZB → Int) (F : Nat) (nx : uDecode_l1_T.T → ZO) (kq : ZK) (x : uDecode_l1_T.T) : ZO := uDecode_l1_z ref02_Int_Pz ref02_Int_r0z ref02_Int_r1z ref02_Int_r2z uKind_rz ref02_Bytes_Pz ref02_Bytes_r0z ref02_Bytes_r1z ref02_Bytes_r2z F none (fun s3 n i b out => nx (((), ((), (s3, (n, ((), (i, ())))))), (((), ()), (b, (out, ()))))) (fun y0 y1 y2 y3 y4 => kq .ret (uDecode_l1_T.inst (((), ((), (y0, (y1, ((), (y2, ())))))), (((), ()), (y3, (y4, ())))))) (fun y0 y1 y2 y3 y4 => kq (.exit 0) (uDecode_l1_T.inst (((), ((), (y0, (y1, ((), (y2, ())))))), (((), ()), (y3, (y4, ())))))) x.1.2.2.1 x.1.2.2.2.1 x.1.2.2.2.2.2.1 x.2.2.1 x.2.2.2.1
theorem uDecode_l1_step_z (ref02_Int_Pz : ZB → Bool) (ref02_Int_r0z : ZB → Int) (ref02_Int_r1z : ZB → ZB) (ref02_Int_r2z : ZB → Int) (uKind_rz : Int → Int) (ref02_Bytes_Pz : ZB → Bool) (ref02_Bytes_r0z ref02_Bytes_r1z : ZB → ZB) (ref02_Bytes_r2z : ZB → Int) (F : Nat) : LStep prog (uDecode_book_z ref02_Int_Pz ref02_Int_r0z ref02_Int_r1z ref02_Int_r2z uKind_rz ref02_Bytes_Pz ref02_Bytes_r0z ref02_Bytes_r1z ref02_Bytes_r2z F) F 10 0 10 uDecode_l1_T (uDecode_l1_G_z ref02_Int_Pz ref02_Int_r0z ref02_Int_r1z ref02_Int_r2z uKind_rz ref02_Bytes_Pz ref02_Bytes_r0z ref02_Bytes_r1z ref02_Bytes_r2z F) := fun d x KQ => by kernel_rfl
theorem uDecode_run_z (ref02_Int_Pz : ZB → Bool) (ref02_Int_r0z : ZB → Int) (ref02_Int_r1z : ZB → ZB) (ref02_Int_r2z : ZB → Int) (uKind_rz : Int → Int) (ref02_Bytes_Pz : ZB → Bool) (ref02_Bytes_r0z ref02_Bytes_r1z : ZB → ZB) (ref02_Bytes_r2z : ZB → Int) (F : Nat) (x : ArgsT uDecode_ps) (kend : List BV → ZO) : runFnL prog (uDecode_book_z ref02_Int_Pz ref02_Int_r0z ref02_Int_r1z ref02_Int_r2z uKind_rz ref02_Bytes_Pz ref02_Bytes_r0z ref02_Bytes_r1z ref02_Bytes_r2z F) F 20 10 (argsInst uDecode_ps x) [.d (.slc (.pair (.int .i64) (.pair (.slc (.int .u8)) .unit))), .d (.int .i64)] kend = uDecode_z ref02_Int_Pz ref02_Int_r0z ref02_Int_r1z ref02_Int_r2z uKind_rz ref02_Bytes_Pz ref02_Bytes_r0z ref02_Bytes_r1z ref02_Bytes_r2z F x.1 none (fun y0 y1 => kend [BV.d (.slc (.pair (.int .i64) (.pair (.slc (.int .u8)) .unit))) y0, BV.d (.int .i64) y1]) := by kernel_rfl
theorem uDecode_l1_step (F : Nat) : LStep prog (uDecode_book F) F 10 0 10 uDecode_l1_T (uDecode_l1_G F) := uDecode_l1_step_z ref02_Int_P ref02_Int_r0 ref02_Int_r1 ref02_Int_r2 uKind_r ref02_Bytes_P ref02_Bytes_r0 ref02_Bytes_r1 ref02_Bytes_r2 F
theorem uDecode_loOk (F : Nat) : LoOk prog (uDecode_book F) F := loOk_of (l := uDecode_lo F) rfl (fa (loOne_of 0 (by kernel_rfl) (by kernel_rfl) (lstep_run (uDecode_l1_step F) (fun _ _ => rfl) (fun _ _ _ _ => rfl))) fz)
theorem uDecode_run (F : Nat) (x : ArgsT uDecode_ps) (kend : List BV → ZO) : runFnL prog (uDecode_book F) F 20 10 (argsInst uDecode_ps x) [.d (.slc (.pair (.int .i64) (.pair (.slc (.int .u8)) .unit))), .d (.int .i64)] kend = uDecode F x.1 none (fun y0 y1 => kend [BV.d (.slc (.pair (.int .i64) (.pair (.slc (.int .u8)) .unit))) y0, BV.d (.int .i64) y1]) := uDecode_run_z ref02_Int_P ref02_Int_r0 ref02_Int_r1 ref02_Int_r2 uKind_r ref02_Bytes_P ref02_Bytes_r0 ref02_Bytes_r1 ref02_Bytes_r2 F x kend
theorem uDecode_contract  : Contract prog 10 uDecode_orc := con_of (B0 := uDecode_book0) zN zG mix_ok zT uDecode_run (orcsOf_ok (fa ref02_Int_contract (fa uKind_contract (fa ref02_Bytes_contract fz)))) (by kernel_rfl) (fun _ => rfl) uDecode_loOk (fun x h => (uDecode_plain x.1 h).elim fun F hF => ⟨F, fun kend => hF none _⟩)
end Go.AI
namespace Go.AI
open Go
open Go.Proofs.Try (prog)
set_option linter.unusedVariables false
@[reducible] def TransactionEncodes_ps  : List PM := [.d (.slc (.pair (.int .i64) (.pair (.slc (.int .u8)) .unit))), .d (.slc (.int .u8))]
def TransactionEncodes_orc  : Orc := Orc.of TransactionEncodes_ps true 0 fun x => (TransactionEncodes_P x.1 x.2.1, [.d .bool (TransactionEncodes_r x.1 x.2.1)])
def TransactionEncodes_orcs  : List (FuncId × Orc) := [(5, uFew_orc), (6, law50_awake_orc), (7, tEncode_orc), (8, uEncode_orc), (9, tDecode_orc), (10, uDecode_orc), (11, tCheck_orc), (12, uCheck_orc), (13, uSame_orc)]
def TransactionEncodes_book0  : Book := { Γ := gam, orc := orcsOf TransactionEncodes_orcs, hint := hintsOf [] }
def TransactionEncodes_lo (F : Nat) : List (LoE Unit) := []
def TransactionEncodes_book (F : Nat) : BookL Unit := { toBook := TransactionEncodes_book0, lo := losOf (TransactionEncodes_lo F), need := needsOf [] }
theorem TransactionEncodes_loOk (F : Nat) : LoOk prog (TransactionEncodes_book F) F := loOk_of (l := TransactionEncodes_lo F) rfl fz
theorem TransactionEncodes_run (F : Nat) (x : ArgsT TransactionEncodes_ps) (kend : List BV → ZO) : runFnL prog (TransactionEncodes_book F) F 20 3 (argsInst TransactionEncodes_ps x) [.d .bool] kend = TransactionEncodes F x.1 x.2.1 none (fun y0 => kend [BV.d .bool y0]) := by kernel_rfl
theorem TransactionEncodes_contract  : Contract prog 3 TransactionEncodes_orc := con_of (B0 := TransactionEncodes_book0) zN zG mix_ok zT TransactionEncodes_run (orcsOf_ok (fa uFew_contract (fa law50_awake_contract (fa tEncode_contract (fa uEncode_contract (fa tDecode_contract (fa uDecode_contract (fa tCheck_contract (fa uCheck_contract (fa uSame_contract fz)))))))))) (by kernel_rfl) (fun _ => rfl) TransactionEncodes_loOk (fun x h => (TransactionEncodes_plain x.1 x.2.1 h).elim fun F hF => ⟨F, fun kend => hF none _⟩)
@[reducible] def TransactionReturns_ps  : List PM := [.d (.slc (.pair (.int .i64) (.pair (.slc (.int .u8)) .unit))), .d (.slc (.int .u8))]
def TransactionReturns_orc  : Orc := Orc.of TransactionReturns_ps true 0 fun x => (TransactionReturns_P x.1 x.2.1, [.d .bool (TransactionReturns_r x.1 x.2.1)])
def TransactionReturns_orcs  : List (FuncId × Orc) := [(5, uFew_orc), (6, law50_awake_orc), (7, tEncode_orc), (9, tDecode_orc), (11, tCheck_orc), (13, uSame_orc)]
def TransactionReturns_book0  : Book := { Γ := gam, orc := orcsOf TransactionReturns_orcs, hint := hintsOf [] }
def TransactionReturns_lo (F : Nat) : List (LoE Unit) := []
def TransactionReturns_book (F : Nat) : BookL Unit := { toBook := TransactionReturns_book0, lo := losOf (TransactionReturns_lo F), need := needsOf [] }
theorem TransactionReturns_loOk (F : Nat) : LoOk prog (TransactionReturns_book F) F := loOk_of (l := TransactionReturns_lo F) rfl fz
theorem TransactionReturns_run (F : Nat) (x : ArgsT TransactionReturns_ps) (kend : List BV → ZO) : runFnL prog (TransactionReturns_book F) F 20 4 (argsInst TransactionReturns_ps x) [.d .bool] kend = TransactionReturns F x.1 x.2.1 none (fun y0 => kend [BV.d .bool y0]) := by kernel_rfl
theorem TransactionReturns_contract  : Contract prog 4 TransactionReturns_orc := con_of (B0 := TransactionReturns_book0) zN zG mix_ok zT TransactionReturns_run (orcsOf_ok (fa uFew_contract (fa law50_awake_contract (fa tEncode_contract (fa tDecode_contract (fa tCheck_contract (fa uSame_contract fz))))))) (by kernel_rfl) (fun _ => rfl) TransactionReturns_loOk (fun x h => (TransactionReturns_plain x.1 x.2.1 h).elim fun F hF => ⟨F, fun kend => hF none _⟩)
end Go.AI
namespace Go.AI
open Go
abbrev rcS : Sch := .slc (.pair (.int .i64) (.pair (.slc (.int .u8)) .unit))
theorem TransactionEncodes_wf (x : LawT [rcS, .slc (.int .u8)]) (_ : WfArgs [rcS, .slc (.int .u8)] x) : TransactionEncodes_P x.1 x.2.1 = true := rfl
theorem TransactionReturns_wf (x : LawT [rcS, .slc (.int .u8)]) (_ : WfArgs [rcS, .slc (.int .u8)] x) : TransactionReturns_P x.1 x.2.1 = true := rfl
end Go.AI
