/- Texts of the proof, joined: Types WireM WireM2 DigestM DigestM2 CipherM CipherM2 DiskM LogR LogM TransM TransM4 TransM3 TransM5 TransM2 TransL5 TransW5. -/
import Derived.Test.YtcdajbmgoafnkaaGreatProg
import Derived.Test.YtcdajbmgoafnkaaGreatQcA5
import Derived.KernelRfl
import Derived.Test.YtcdajbmgoafnkaaGreatQcWireP
import Derived.Test.YtcdajbmgoafnkaaGreatQcWireP2
import Derived.Test.YtcdajbmgoafnkaaGreatQcDigestP3
import Derived.Test.YtcdajbmgoafnkaaGreatQcDigestP4
import Derived.Test.YtcdajbmgoafnkaaGreatQcCipherP4
import Derived.Test.YtcdajbmgoafnkaaGreatQcDiskP3
import Derived.RecoverIn
import Derived.Tactics
import Derived.Tactics2
import Derived.TacticsInMore
import Derived.RegionIn
import Derived.Laws.Pointers
import Derived.Test.YtcdajbmgoafnkaaGreatQcLogP7
import Derived.Test.YtcdajbmgoafnkaaGreatQcTransP
import Derived.Test.YtcdajbmgoafnkaaGreatQcTransP2
import Derived.Test.YtcdajbmgoafnkaaGreatQcTransP4
set_option maxRecDepth 100000
namespace Go.AI
abbrev ZO := Option Unit
abbrev ZK := AExit → ASt → ZO
end Go.AI
namespace Go.AI
open Go
def gam  : Gam := [
 none,
 some ⟨.func, 1, none, false⟩,
 some ⟨.other, 1, some (.int .i64), false⟩,
 some ⟨.other, 1, some (.int .i64), false⟩,
 some ⟨.other, 1, some .bool, false⟩,
 some ⟨.other, 1, some (.int .u8), false⟩,
 some ⟨.other, 1, some (.int .u8), false⟩,
 some ⟨(.struct [(0, 2), (1, 3), (2, 4), (3, 6)]), 4, some (.pair (.int .i64) (.pair (.int .i64) (.pair .bool (.pair (.int .u8) .unit)))), false⟩,
 some ⟨(.struct [(0, 2), (1, 3), (2, 4), (3, 6)]), 4, some (.pair (.int .i64) (.pair (.int .i64) (.pair .bool (.pair (.int .u8) .unit)))), false⟩,
 some ⟨.other, 1, some .str, false⟩,
 some ⟨.other, 1, some .str, false⟩,
 some ⟨.other, 1, some .str, false⟩,
 some ⟨.other, 1, some (.int .u64), false⟩,
 some ⟨(.struct [(0, 9), (1, 12)]), 2, some (.pair .str (.pair (.int .u64) .unit)), false⟩,
 some ⟨(.struct [(0, 9), (1, 12)]), 2, some (.pair .str (.pair (.int .u64) .unit)), false⟩,
 some ⟨(.ptr 250), 1, none, false⟩,
 some ⟨(.ptr 253), 1, none, false⟩,
 some ⟨(.ptr 262), 1, none, false⟩,
 some ⟨(.struct [(0, 17)]), 1, none, false⟩,
 some ⟨(.struct [(0, 17)]), 1, none, false⟩,
 some ⟨.other, 1, none, false⟩,
 some ⟨.other, 1, some (.int .i32), false⟩,
 some ⟨(.struct [(0, 3), (1, 3), (2, 3)]), 3, some (.pair (.int .i64) (.pair (.int .i64) (.pair (.int .i64) .unit))), true⟩,
 some ⟨(.struct [(0, 3), (1, 3), (2, 3)]), 3, some (.pair (.int .i64) (.pair (.int .i64) (.pair (.int .i64) .unit))), true⟩,
 some ⟨(.slice 5), 1, some (.slc (.int .u8)), false⟩,
 some ⟨(.slice 66), 1, some (.slc (.pair (.int .i64) (.pair (.slc (.int .u8)) .unit))), false⟩,
 some ⟨.func, 1, none, false⟩,
 some ⟨.func, 1, none, false⟩,
 some ⟨(.slice 70), 1, some (.slc (.pair (.int .i64) (.pair (.int .i64) (.pair (.slc (.arr 16 (.int .u8))) .unit)))), false⟩,
 some ⟨.other, 1, some (.int .i64), false⟩,
 none,
 some ⟨.func, 1, none, false⟩,
 none,
 some ⟨.func, 1, none, false⟩,
 some ⟨.func, 1, none, false⟩,
 some ⟨.func, 1, none, false⟩,
 some ⟨(.slice 93), 1, some (.slc (.arr 16 (.int .u8))), false⟩,
 some ⟨(.slice 155), 1, some (.slc (.pair (.int .i64) (.pair (.arr 16 (.int .u8)) .unit))), false⟩,
 some ⟨(.struct [(0, 36), (1, 37)]), 2, some (.pair (.slc (.arr 16 (.int .u8))) (.pair (.slc (.pair (.int .i64) (.pair (.arr 16 (.int .u8)) .unit))) .unit)), false⟩,
 some ⟨(.struct [(0, 36), (1, 37)]), 2, some (.pair (.slc (.arr 16 (.int .u8))) (.pair (.slc (.pair (.int .i64) (.pair (.arr 16 (.int .u8)) .unit))) .unit)), false⟩,
 some ⟨.func, 1, none, false⟩,
 some ⟨(.slice 25), 1, some (.slc (.slc (.pair (.int .i64) (.pair (.slc (.int .u8)) .unit)))), false⟩,
 none,
 some ⟨.func, 1, none, false⟩,
 none,
 some ⟨.func, 1, none, false⟩,
 some ⟨.func, 1, none, false⟩,
 some ⟨.func, 1, none, false⟩,
 some ⟨.func, 1, none, false⟩,
 none,
 some ⟨.func, 1, none, false⟩,
 some ⟨(.slice 24), 1, some (.slc (.slc (.int .u8))), false⟩,
 none,
 some ⟨.func, 1, none, false⟩,
 none,
 some ⟨.func, 1, none, false⟩,
 some ⟨.func, 1, none, false⟩,
 some ⟨(.slice 3), 1, some (.slc (.int .i64)), false⟩,
 some ⟨(.struct [(0, 5), (1, 57)]), 2, some (.pair (.int .u8) (.pair (.slc (.int .i64)) .unit)), false⟩,
 some ⟨(.struct [(0, 5), (1, 57)]), 2, some (.pair (.int .u8) (.pair (.slc (.int .i64)) .unit)), false⟩,
 none,
 some ⟨.func, 1, none, false⟩,
 none,
 some ⟨.func, 1, none, false⟩,
 some ⟨.func, 1, none, false⟩,
 some ⟨(.struct [(0, 3), (1, 24)]), 2, some (.pair (.int .i64) (.pair (.slc (.int .u8)) .unit)), false⟩,
 some ⟨(.struct [(0, 3), (1, 24)]), 2, some (.pair (.int .i64) (.pair (.slc (.int .u8)) .unit)), false⟩,
 none,
 some ⟨.func, 1, none, false⟩,
 some ⟨(.struct [(0, 3), (1, 3), (2, 36)]), 3, some (.pair (.int .i64) (.pair (.int .i64) (.pair (.slc (.arr 16 (.int .u8))) .unit))), false⟩,
 some ⟨(.struct [(0, 3), (1, 3), (2, 36)]), 3, some (.pair (.int .i64) (.pair (.int .i64) (.pair (.slc (.arr 16 (.int .u8))) .unit))), false⟩,
 some ⟨.func, 1, none, false⟩,
 some ⟨.func, 1, none, false⟩,
 some ⟨.func, 1, none, false⟩,
 some ⟨.func, 1, none, false⟩,
 some ⟨.func, 1, none, false⟩,
 some ⟨.func, 1, none, false⟩,
 some ⟨.func, 1, none, false⟩,
 some ⟨.func, 1, none, false⟩,
 some ⟨.func, 1, none, false⟩,
 some ⟨.func, 1, none, false⟩,
 none,
 some ⟨.func, 1, none, false⟩,
 none,
 some ⟨.func, 1, none, false⟩,
 none,
 some ⟨.func, 1, none, false⟩,
 some ⟨.func, 1, none, false⟩,
 some ⟨.func, 1, none, false⟩,
 some ⟨.func, 1, none, false⟩,
 none,
 some ⟨.func, 1, none, false⟩,
 some ⟨(.array 16 5), 16, some (.arr 16 (.int .u8)), true⟩,
 some ⟨(.array 16 5), 16, some (.arr 16 (.int .u8)), true⟩,
 some ⟨.func, 1, none, false⟩,
 none,
 some ⟨.func, 1, none, false⟩,
 some ⟨.func, 1, none, false⟩,
 some ⟨(.array 32 5), 32, some (.arr 32 (.int .u8)), true⟩,
 some ⟨(.array 32 5), 32, some (.arr 32 (.int .u8)), true⟩,
 none,
 some ⟨.func, 1, none, false⟩,
 some ⟨.func, 1, none, false⟩,
 some ⟨.func, 1, none, false⟩,
 some ⟨.func, 1, none, false⟩,
 some ⟨.func, 1, none, false⟩,
 some ⟨.func, 1, none, false⟩,
 some ⟨.func, 1, none, false⟩,
 some ⟨(.array 2 107), 2, none, false⟩,
 some ⟨.func, 1, none, false⟩,
 some ⟨(.ptr 39), 1, none, false⟩,
 some ⟨.func, 1, none, false⟩,
 some ⟨.func, 1, none, false⟩,
 some ⟨.func, 1, none, false⟩,
 some ⟨.func, 1, none, false⟩,
 some ⟨.func, 1, none, false⟩,
 some ⟨.func, 1, none, false⟩,
 some ⟨.func, 1, none, false⟩,
 some ⟨.func, 1, none, false⟩,
 some ⟨.func, 1, none, false⟩,
 some ⟨.func, 1, none, false⟩,
 some ⟨.func, 1, none, false⟩,
 some ⟨.func, 1, none, false⟩,
 some ⟨.func, 1, none, false⟩,
 some ⟨.func, 1, none, false⟩,
 some ⟨.func, 1, none, false⟩,
 some ⟨.func, 1, none, false⟩,
 some ⟨.func, 1, none, false⟩,
 some ⟨(.ptr 24), 1, none, false⟩,
 some ⟨.func, 1, none, false⟩,
 some ⟨(.ptr 3), 1, none, false⟩,
 some ⟨.func, 1, none, false⟩,
 some ⟨.func, 1, none, false⟩,
 some ⟨.func, 1, none, false⟩,
 none,
 some ⟨.func, 1, none, false⟩,
 none,
 some ⟨.func, 1, none, false⟩,
 none,
 some ⟨.func, 1, none, false⟩,
 some ⟨.func, 1, none, false⟩,
 none,
 some ⟨.func, 1, none, false⟩,
 some ⟨.func, 1, none, false⟩,
 some ⟨.func, 1, none, false⟩,
 some ⟨.func, 1, none, false⟩,
 some ⟨(.ptr 148), 1, none, false⟩,
 some ⟨(.struct [(0, 36)]), 1, some (.pair (.slc (.arr 16 (.int .u8))) .unit), false⟩,
 some ⟨(.struct [(0, 36)]), 1, some (.pair (.slc (.arr 16 (.int .u8))) .unit), false⟩,
 none,
 some ⟨.func, 1, none, false⟩,
 some ⟨.func, 1, none, false⟩,
 some ⟨.func, 1, none, false⟩,
 some ⟨.func, 1, none, false⟩,
 some ⟨(.struct [(0, 3), (1, 93)]), 17, some (.pair (.int .i64) (.pair (.arr 16 (.int .u8)) .unit)), true⟩,
 some ⟨(.struct [(0, 3), (1, 93)]), 17, some (.pair (.int .i64) (.pair (.arr 16 (.int .u8)) .unit)), true⟩,
 some ⟨.func, 1, none, false⟩,
 some ⟨.func, 1, none, false⟩,
 some ⟨(.map 3 36), 1, none, true⟩,
 none,
 some ⟨.func, 1, none, false⟩,
 some ⟨.func, 1, none, false⟩,
 some ⟨.func, 1, none, false⟩,
 some ⟨.func, 1, none, false⟩,
 some ⟨.func, 1, none, false⟩,
 some ⟨(.struct [(0, 164)]), 1, none, false⟩,
 some ⟨(.struct [(0, 164)]), 1, none, false⟩,
 some ⟨.func, 1, none, false⟩,
 some ⟨.func, 1, none, false⟩,
 some ⟨.func, 1, none, false⟩,
 some ⟨.func, 1, none, false⟩,
 some ⟨.func, 1, none, false⟩,
 some ⟨.func, 1, none, false⟩,
 some ⟨.other, 1, some (.int .u32), false⟩,
 some ⟨.func, 1, none, false⟩,
 some ⟨.func, 1, none, false⟩,
 some ⟨.func, 1, none, false⟩,
 none,
 some ⟨.func, 1, none, false⟩,
 some ⟨.other, 1, some (.int .u64), false⟩,
 none,
 some ⟨.func, 1, none, false⟩,
 some ⟨.func, 1, none, false⟩,
 none,
 some ⟨.func, 1, none, false⟩,
 some ⟨(.struct []), 0, none, false⟩,
 some ⟨(.struct []), 0, none, false⟩,
 none,
 some ⟨.func, 1, none, false⟩,
 some ⟨.func, 1, none, false⟩,
 some ⟨.func, 1, none, false⟩,
 some ⟨.func, 1, none, false⟩,
 some ⟨(.array 64 5), 64, some (.arr 64 (.int .u8)), true⟩,
 some ⟨.func, 1, none, false⟩,
 some ⟨(.slice 173), 1, some (.slc (.int .u32)), false⟩,
 some ⟨.func, 1, none, false⟩,
 some ⟨.func, 1, none, false⟩,
 some ⟨.func, 1, none, false⟩,
 some ⟨.func, 1, none, false⟩,
 some ⟨(.array 8 173), 8, some (.arr 8 (.int .u32)), true⟩,
 some ⟨(.struct [(0, 199), (8, 24), (9, 3)]), 10, some (.pair (.arr 8 (.int .u32)) (.pair (.slc (.int .u8)) (.pair (.int .i64) .unit))), false⟩,
 some ⟨(.struct [(0, 199), (8, 24), (9, 3)]), 10, some (.pair (.arr 8 (.int .u32)) (.pair (.slc (.int .u8)) (.pair (.int .i64) .unit))), false⟩,
 some ⟨.func, 1, none, false⟩,
 some ⟨.func, 1, none, false⟩,
 some ⟨(.array 16 173), 16, some (.arr 16 (.int .u32)), true⟩,
 some ⟨(.array 16 173), 16, some (.arr 16 (.int .u32)), true⟩,
 some ⟨.func, 1, none, false⟩,
 some ⟨.func, 1, none, false⟩,
 some ⟨.func, 1, none, false⟩,
 some ⟨.func, 1, none, false⟩,
 some ⟨.func, 1, none, false⟩,
 none,
 some ⟨.func, 1, none, false⟩,
 some ⟨.func, 1, none, false⟩,
 some ⟨.other, 1, some (.int .u64), false⟩,
 some ⟨.other, 1, some (.int .u32), false⟩,
 some ⟨(.array 8 215), 8, some (.arr 8 (.int .u32)), true⟩,
 some ⟨(.array 8 215), 8, some (.arr 8 (.int .u32)), true⟩,
 some ⟨.func, 1, none, false⟩,
 some ⟨(.ptr 205), 1, none, false⟩,
 some ⟨.func, 1, none, false⟩,
 some ⟨.func, 1, none, false⟩,
 some ⟨.func, 1, none, false⟩,
 some ⟨.func, 1, none, false⟩,
 some ⟨.func, 1, none, false⟩,
 some ⟨.func, 1, none, false⟩,
 some ⟨.func, 1, none, false⟩,
 some ⟨.func, 1, none, false⟩,
 some ⟨.func, 1, none, false⟩,
 some ⟨.func, 1, none, false⟩,
 some ⟨.func, 1, none, false⟩,
 some ⟨.func, 1, none, false⟩,
 some ⟨.func, 1, none, false⟩,
 some ⟨.func, 1, none, false⟩,
 some ⟨.func, 1, none, false⟩,
 some ⟨.func, 1, none, false⟩,
 some ⟨(.struct [(0, 3), (1, 3), (2, 3), (3, 3)]), 4, some (.pair (.int .i64) (.pair (.int .i64) (.pair (.int .i64) (.pair (.int .i64) .unit)))), true⟩,
 some ⟨(.array 4 236), 16, some (.arr 4 (.pair (.int .i64) (.pair (.int .i64) (.pair (.int .i64) (.pair (.int .i64) .unit))))), true⟩,
 some ⟨(.array 256 173), 256, some (.arr 256 (.int .u32)), true⟩,
 some ⟨.func, 1, none, false⟩,
 some ⟨(.array 64 173), 64, some (.arr 64 (.int .u32)), true⟩,
 some ⟨.func, 1, none, false⟩,
 some ⟨.func, 1, none, false⟩,
 some ⟨.func, 1, none, false⟩,
 some ⟨(.array 16 215), 16, some (.arr 16 (.int .u32)), true⟩,
 some ⟨(.array 64 215), 64, some (.arr 64 (.int .u32)), true⟩,
 some ⟨.func, 1, none, false⟩,
 some ⟨.func, 1, none, false⟩,
 some ⟨.func, 1, none, false⟩,
 some ⟨(.struct [(0, 17), (1, 17), (2, 17), (3, 9)]), 4, none, false⟩,
 some ⟨(.struct [(0, 17), (1, 17), (2, 17), (3, 9)]), 4, none, false⟩,
 some ⟨(.array 0 16), 0, none, false⟩,
 some ⟨(.struct [(0, 251)]), 0, none, false⟩,
 some ⟨(.struct [(0, 251)]), 0, none, false⟩,
 some ⟨.func, 1, none, false⟩,
 some ⟨.other, 1, some (.int .u8), false⟩,
 some ⟨.other, 1, some (.int .u8), false⟩,
 some ⟨.func, 1, none, false⟩,
 some ⟨(.ptr 5), 1, none, false⟩,
 some ⟨.other, 1, some (.int .i32), false⟩,
 some ⟨.other, 1, some (.int .i32), false⟩,
 some ⟨(.struct [(0, 12), (1, 12), (2, 173), (3, 255), (4, 5), (5, 5), (6, 256), (7, 257), (8, 258), (9, 259), (10, 260)]), 11, none, false⟩,
 some ⟨(.struct [(0, 12), (1, 12), (2, 173), (3, 255), (4, 5), (5, 5), (6, 256), (7, 257), (8, 258), (9, 259), (10, 260)]), 11, none, false⟩,
 some ⟨.other, 1, none, false⟩]
theorem gam_ok  : gamB Go.Proofs.Tryz.prog gam = true := by kernel_rfl
theorem num_ok  : noNumB Go.Proofs.Tryz.prog = true := by kernel_rfl
theorem rng_ok  : rangesB Go.Proofs.Tryz.prog = true := by kernel_rfl
theorem mix_ok  : Go.Proofs.Tryz.prog.follows .mixedOrders = true := by kernel_rfl
theorem zN  : NoNum Go.Proofs.Tryz.prog := noNumB_ok num_ok
theorem zG  : RangesOk Go.Proofs.Tryz.prog := rangesB_ok rng_ok
theorem zT  : GamOk Go.Proofs.Tryz.prog gam := gamB_ok gam_ok
end Go.AI
namespace Go.AI
open Go
open Go.Proofs.Tryz (prog)
set_option linter.unusedVariables false
@[reducible] def bits_Len64_ps  : List PM := [.d (.int .u64)]
def bits_Len64_orc  : Orc := Orc.of bits_Len64_ps true 0 fun x => (bits_Len64_P x.1, [.d (.int .i64) (bits_Len64_r x.1)])
def bits_Len64_orcs  : List (FuncId × Orc) := []
def bits_Len64_book0  : Book := { Γ := gam, orc := orcsOf bits_Len64_orcs, hint := hintsOf [] }
def bits_Len64_lo (F : Nat) : List (LoE Unit) := []
def bits_Len64_book (F : Nat) : BookL Unit := { toBook := bits_Len64_book0, lo := losOf (bits_Len64_lo F), need := needsOf [] }
theorem bits_Len64_loOk (F : Nat) : LoOk prog (bits_Len64_book F) F := loOk_of (l := bits_Len64_lo F) rfl fz
theorem bits_Len64_run (F : Nat) (x : ArgsT bits_Len64_ps) (kend : List BV → ZO) : runFnL prog (bits_Len64_book F) F 20 163 (argsInst bits_Len64_ps x) [.d (.int .i64)] kend = bits_Len64 F x.1 none (fun y0 => kend [BV.d (.int .i64) y0]) := by kernel_rfl
theorem bits_Len64_contract  : Contract prog 163 bits_Len64_orc := con_of (B0 := bits_Len64_book0) zN zG mix_ok zT bits_Len64_run (orcsOf_ok fz) (by kernel_rfl) (fun _ => rfl) bits_Len64_loOk (fun x h => (bits_Len64_plain x.1 h).elim fun F hF => ⟨F, fun kend => hF none _⟩)
@[reducible] def bits_Len_ps  : List PM := [.d (.int .u64)]
def bits_Len_orc  : Orc := Orc.of bits_Len_ps true 0 fun x => (bits_Len_P x.1, [.d (.int .i64) (bits_Len_r x.1)])
def bits_Len_orcs  : List (FuncId × Orc) := [(163, bits_Len64_orc)]
def bits_Len_book0  : Book := { Γ := gam, orc := orcsOf bits_Len_orcs, hint := hintsOf [] }
def bits_Len_lo (F : Nat) : List (LoE Unit) := []
def bits_Len_book (F : Nat) : BookL Unit := { toBook := bits_Len_book0, lo := losOf (bits_Len_lo F), need := needsOf [] }
theorem bits_Len_loOk (F : Nat) : LoOk prog (bits_Len_book F) F := loOk_of (l := bits_Len_lo F) rfl fz
theorem bits_Len_run (F : Nat) (x : ArgsT bits_Len_ps) (kend : List BV → ZO) : runFnL prog (bits_Len_book F) F 20 148 (argsInst bits_Len_ps x) [.d (.int .i64)] kend = bits_Len F x.1 none (fun y0 => kend [BV.d (.int .i64) y0]) := by kernel_rfl
theorem bits_Len_contract  : Contract prog 148 bits_Len_orc := con_of (B0 := bits_Len_book0) zN zG mix_ok zT bits_Len_run (orcsOf_ok (fa bits_Len64_contract fz)) (by kernel_rfl) (fun _ => rfl) bits_Len_loOk (fun x h => (bits_Len_plain x.1 h).elim fun F hF => ⟨F, fun kend => hF none _⟩)
@[reducible] def wire_number_ps  : List PM := [.d (.int .i64)]
def wire_number_orc  : Orc := Orc.of wire_number_ps true 0 fun x => (true, [.d (.int .i64) (wire_number_r x.1)])
def wire_number_orcs  : List (FuncId × Orc) := []
def wire_number_book0  : Book := { Γ := gam, orc := orcsOf wire_number_orcs, hint := hintsOf [] }
def wire_number_lo (F : Nat) : List (LoE Unit) := []
def wire_number_book (F : Nat) : BookL Unit := { toBook := wire_number_book0, lo := losOf (wire_number_lo F), need := needsOf [] }
theorem wire_number_loOk (F : Nat) : LoOk prog (wire_number_book F) F := loOk_of (l := wire_number_lo F) rfl fz
theorem wire_number_run (F : Nat) (x : ArgsT wire_number_ps) (kend : List BV → ZO) : runFnL prog (wire_number_book F) F 20 137 (argsInst wire_number_ps x) [.d (.int .i64)] kend = wire_number F x.1 none (fun y0 => kend [BV.d (.int .i64) y0]) := by kernel_rfl
theorem wire_number_contract  : Contract prog 137 wire_number_orc := con_of (B0 := wire_number_book0) zN zG mix_ok zT wire_number_run (orcsOf_ok fz) (by kernel_rfl) (fun _ => rfl) wire_number_loOk (fun x _ => (wire_number_plain x.1).elim fun F hF => ⟨F, fun kend => hF none _⟩)
@[reducible] def wire_further_ps  : List PM := [.d (.int .i64)]
def wire_further_orc  : Orc := Orc.of wire_further_ps true 0 fun x => (wire_further_P x.1, [.d (.int .i64) (wire_further_r x.1)])
def wire_further_orcs  : List (FuncId × Orc) := [(148, bits_Len_orc)]
def wire_further_book0  : Book := { Γ := gam, orc := orcsOf wire_further_orcs, hint := hintsOf [] }
def wire_further_lo (F : Nat) : List (LoE Unit) := []
def wire_further_book (F : Nat) : BookL Unit := { toBook := wire_further_book0, lo := losOf (wire_further_lo F), need := needsOf [] }
theorem wire_further_loOk (F : Nat) : LoOk prog (wire_further_book F) F := loOk_of (l := wire_further_lo F) rfl fz
theorem wire_further_run (F : Nat) (x : ArgsT wire_further_ps) (kend : List BV → ZO) : runFnL prog (wire_further_book F) F 20 119 (argsInst wire_further_ps x) [.d (.int .i64)] kend = wire_further F x.1 none (fun y0 => kend [BV.d (.int .i64) y0]) := by kernel_rfl
theorem wire_further_contract  : Contract prog 119 wire_further_orc := con_of (B0 := wire_further_book0) zN zG mix_ok zT wire_further_run (orcsOf_ok (fa bits_Len_contract fz)) (by kernel_rfl) (fun _ => rfl) wire_further_loOk (fun x h => (wire_further_plain x.1 h).elim fun F hF => ⟨F, fun kend => hF none _⟩)
@[reducible] def clone_byte_ps  : List PM := [.d (.slc (.int .u8))]
def clone_byte_orc  : Orc := Orc.of clone_byte_ps true 1 fun x => (clone_byte_P x.1, [.o 5 (.int .u8) (clone_byte_r x.1)])
def clone_byte_orcs  : List (FuncId × Orc) := []
def clone_byte_book0  : Book := { Γ := gam, orc := orcsOf clone_byte_orcs, hint := hintsOf [] }
def clone_byte_lo (F : Nat) : List (LoE Unit) := []
def clone_byte_book (F : Nat) : BookL Unit := { toBook := clone_byte_book0, lo := losOf (clone_byte_lo F), need := needsOf [] }
theorem clone_byte_loOk (F : Nat) : LoOk prog (clone_byte_book F) F := loOk_of (l := clone_byte_lo F) rfl fz
theorem clone_byte_run (F : Nat) (x : ArgsT clone_byte_ps) (kend : List BV → ZO) : runFnL prog (clone_byte_book F) F 20 100 (argsInst clone_byte_ps x) [.o 5 (.int .u8)] kend = clone_byte F x.1 none both (fun y0 => kend [BV.o 5 (.int .u8) y0]) := by kernel_rfl
theorem clone_byte_contract  : Contract prog 100 clone_byte_orc := con_of (B0 := clone_byte_book0) zN zG mix_ok zT clone_byte_run (orcsOf_ok fz) (by kernel_rfl) (fun _ => rfl) clone_byte_loOk (fun x h => (clone_byte_plain x.1 h).elim fun F hF => ⟨F, fun kend => hF none both both_self _⟩)
@[reducible] def wire_put_ps  : List PM := [.o 5 (.int .u8), .d (.int .i64)]
def wire_put_orc  : Orc := Orc.of wire_put_ps true 1 fun x => (wire_put_P x.1 x.2.1, [.o 5 (.int .u8) (wire_put_r x.1 x.2.1)])
@[reducible] def wire_put_l1_T  : Tpl := { cur := ⟨[(0, .row 0), (0, .var (.int .i64)), (5, .var (.int .i64))], 32⟩, stk := [⟨[], 0⟩], heap := [.row 5 (.int .u8) false] }
def wire_put_orcs  : List (FuncId × Orc) := [(119, wire_further_orc), (137, wire_number_orc)]
def wire_put_book0  : Book := { Γ := gam, orc := orcsOf wire_put_orcs, hint := hintsOf [(99, { keep := some [0, 1, 7], keeps := [(6, [0, 1, 7])], own := [], dat := [], stk := [] })] }
def wire_put_l1_G (F : Nat) (nx : wire_put_l1_T.T → ZO) (kq : ZK) (x : wire_put_l1_T.T) : ZO := wire_put_l1 F none (fun n i dst => nx (((), (n, (i, ()))), (((), ()), (dst, ())))) (fun y0 y1 y2 => kq (.exit 0) (wire_put_l1_T.inst (((), (y0, (y1, ()))), (((), ()), (y2, ()))))) x.1.2.1 x.1.2.2.1 x.2.2.1
def wire_put_l1_R (F m : Nat) (x : wire_put_l1_T.T) (kq : ZK) : ZO := wire_put_l1F F none (fun y0 y1 y2 => kq (.exit 0) (wire_put_l1_T.inst (((), (y0, (y1, ()))), (((), ()), (y2, ()))))) m x.1.2.1 x.1.2.2.1 x.2.2.1
def wire_put_lo (F : Nat) : List (LoE Unit) := [⟨99, 6, LO.of wire_put_l1_T (wire_put_l1_R F F)⟩]
def wire_put_book (F : Nat) : BookL Unit := { toBook := wire_put_book0, lo := losOf (wire_put_lo F), need := needsOf [] }
theorem wire_put_l1_step (F : Nat) : LStep prog (wire_put_book F) F 99 0 6 wire_put_l1_T (wire_put_l1_G F) := fun d x KQ => by kernel_rfl
theorem wire_put_loOk (F : Nat) : LoOk prog (wire_put_book F) F := loOk_of (l := wire_put_lo F) rfl (fa (loOne_of 0 (by kernel_rfl) (by kernel_rfl) (lstep_run (wire_put_l1_step F) (fun _ _ => rfl) (fun _ _ _ _ => rfl))) fz)
theorem wire_put_run (F : Nat) (x : ArgsT wire_put_ps) (kend : List BV → ZO) : runFnL prog (wire_put_book F) F 20 99 (argsInst wire_put_ps x) [.o 5 (.int .u8)] kend = wire_put F x.1 x.2.1 none (fun y0 => kend [BV.o 5 (.int .u8) y0]) := by kernel_rfl
theorem wire_put_contract  : Contract prog 99 wire_put_orc := con_of (B0 := wire_put_book0) zN zG mix_ok zT wire_put_run (orcsOf_ok (fa wire_further_contract (fa wire_number_contract fz))) (by kernel_rfl) (fun _ => rfl) wire_put_loOk (fun x h => (wire_put_plain x.1 x.2.1 h).elim fun F hF => ⟨F, fun kend => hF none _⟩)
@[reducible] def wire_PutInt_ps  : List PM := [.d (.slc (.int .u8)), .d (.int .i64)]
def wire_PutInt_orc  : Orc := Orc.of wire_PutInt_ps true 1 fun x => (wire_PutInt_P x.1 x.2.1, [.o 5 (.int .u8) (wire_PutInt_r x.1 x.2.1)])
def wire_PutInt_orcs  : List (FuncId × Orc) := [(99, wire_put_orc), (100, clone_byte_orc)]
def wire_PutInt_book0  : Book := { Γ := gam, orc := orcsOf wire_PutInt_orcs, hint := hintsOf [] }
def wire_PutInt_lo (F : Nat) : List (LoE Unit) := []
def wire_PutInt_book (F : Nat) : BookL Unit := { toBook := wire_PutInt_book0, lo := losOf (wire_PutInt_lo F), need := needsOf [] }
theorem wire_PutInt_loOk (F : Nat) : LoOk prog (wire_PutInt_book F) F := loOk_of (l := wire_PutInt_lo F) rfl fz
theorem wire_PutInt_run (F : Nat) (x : ArgsT wire_PutInt_ps) (kend : List BV → ZO) : runFnL prog (wire_PutInt_book F) F 20 51 (argsInst wire_PutInt_ps x) [.o 5 (.int .u8)] kend = wire_PutInt F x.1 x.2.1 none (fun y0 => kend [BV.o 5 (.int .u8) y0]) := by kernel_rfl
theorem wire_PutInt_contract  : Contract prog 51 wire_PutInt_orc := con_of (B0 := wire_PutInt_book0) zN zG mix_ok zT wire_PutInt_run (orcsOf_ok (fa wire_put_contract (fa clone_byte_contract fz))) (by kernel_rfl) (fun _ => rfl) wire_PutInt_loOk (fun x h => (wire_PutInt_plain x.1 x.2.1 h).elim fun F hF => ⟨F, fun kend => hF none _⟩)
@[reducible] def ref02_power_ps  : List PM := [.d (.int .i64)]
def ref02_power_orc  : Orc := Orc.of ref02_power_ps true 0 fun x => (ref02_power_P x.1, [.d (.int .i64) (ref02_power_r x.1)])
@[reducible] def ref02_power_l1_T  : Tpl := { cur := ⟨[(0, .var (.int .i64)), (2, .var (.int .i64)), (0, .var (.int .i64))], 8⟩, stk := [⟨[], 0⟩], heap := [] }
def ref02_power_orcs  : List (FuncId × Orc) := []
def ref02_power_book0  : Book := { Γ := gam, orc := orcsOf ref02_power_orcs, hint := hintsOf [(113, { keep := some [0, 3, 4], keeps := [(3, [0, 3, 4])], own := [], dat := [], stk := [] })] }
def ref02_power_l1_G (F : Nat) (nx : ref02_power_l1_T.T → ZO) (kq : ZK) (x : ref02_power_l1_T.T) : ZO := ref02_power_l1 F none (fun n p i => nx ((n, (p, (i, ()))), (((), ()), ()))) (fun y0 y1 y2 => kq (.exit 0) (ref02_power_l1_T.inst ((y0, (y1, (y2, ()))), (((), ()), ())))) x.1.1 x.1.2.1 x.1.2.2.1
def ref02_power_l1_R (F m : Nat) (x : ref02_power_l1_T.T) (kq : ZK) : ZO := ref02_power_l1F F none (fun y0 y1 y2 => kq (.exit 0) (ref02_power_l1_T.inst ((y0, (y1, (y2, ()))), (((), ()), ())))) m x.1.1 x.1.2.1 x.1.2.2.1
def ref02_power_lo (F : Nat) : List (LoE Unit) := [⟨113, 3, LO.of ref02_power_l1_T (ref02_power_l1_R F F)⟩]
def ref02_power_book (F : Nat) : BookL Unit := { toBook := ref02_power_book0, lo := losOf (ref02_power_lo F), need := needsOf [] }
theorem ref02_power_l1_step (F : Nat) : LStep prog (ref02_power_book F) F 113 0 3 ref02_power_l1_T (ref02_power_l1_G F) := fun d x KQ => by kernel_rfl
theorem ref02_power_loOk (F : Nat) : LoOk prog (ref02_power_book F) F := loOk_of (l := ref02_power_lo F) rfl (fa (loOne_of 0 (by kernel_rfl) (by kernel_rfl) (lstep_run (ref02_power_l1_step F) (fun _ _ => rfl) (fun _ _ _ _ => rfl))) fz)
theorem ref02_power_run (F : Nat) (x : ArgsT ref02_power_ps) (kend : List BV → ZO) : runFnL prog (ref02_power_book F) F 20 113 (argsInst ref02_power_ps x) [.d (.int .i64)] kend = ref02_power F x.1 none (fun y0 => kend [BV.d (.int .i64) y0]) := by kernel_rfl
theorem ref02_power_contract  : Contract prog 113 ref02_power_orc := con_of (B0 := ref02_power_book0) zN zG mix_ok zT ref02_power_run (orcsOf_ok fz) (by kernel_rfl) (fun _ => rfl) ref02_power_loOk (fun x h => (ref02_power_plain x.1 h).elim fun F hF => ⟨F, fun kend => hF none _⟩)
@[reducible] def ref02_number_ps  : List PM := [.d (.int .i64)]
def ref02_number_orc  : Orc := Orc.of ref02_number_ps true 0 fun x => (true, [.d (.int .i64) (ref02_number_r x.1)])
def ref02_number_orcs  : List (FuncId × Orc) := []
def ref02_number_book0  : Book := { Γ := gam, orc := orcsOf ref02_number_orcs, hint := hintsOf [] }
def ref02_number_lo (F : Nat) : List (LoE Unit) := []
def ref02_number_book (F : Nat) : BookL Unit := { toBook := ref02_number_book0, lo := losOf (ref02_number_lo F), need := needsOf [] }
theorem ref02_number_loOk (F : Nat) : LoOk prog (ref02_number_book F) F := loOk_of (l := ref02_number_lo F) rfl fz
theorem ref02_number_run (F : Nat) (x : ArgsT ref02_number_ps) (kend : List BV → ZO) : runFnL prog (ref02_number_book F) F 20 111 (argsInst ref02_number_ps x) [.d (.int .i64)] kend = ref02_number F x.1 none (fun y0 => kend [BV.d (.int .i64) y0]) := by kernel_rfl
theorem ref02_number_contract  : Contract prog 111 ref02_number_orc := con_of (B0 := ref02_number_book0) zN zG mix_ok zT ref02_number_run (orcsOf_ok fz) (by kernel_rfl) (fun _ => rfl) ref02_number_loOk (fun x _ => (ref02_number_plain x.1).elim fun F hF => ⟨F, fun kend => hF none _⟩)
@[reducible] def ref02_Size_ps  : List PM := [.d (.int .i64)]
def ref02_Size_orc  : Orc := Orc.of ref02_Size_ps true 0 fun x => (true, [.d (.int .i64) (ref02_Size_r x.1)])
@[reducible] def ref02_Size_l1_T  : Tpl := { cur := ⟨[(0, .var (.int .i64)), (2, .var (.int .i64))], 11⟩, stk := [⟨[], 0⟩], heap := [] }
def ref02_Size_orcs  : List (FuncId × Orc) := [(111, ref02_number_orc), (113, ref02_power_orc)]
def ref02_Size_book0  : Book := { Γ := gam, orc := orcsOf ref02_Size_orcs, hint := hintsOf [(112, { keep := some [0, 3], keeps := [(2, [0, 3])], own := [], dat := [], stk := [] })] }
def ref02_Size_l1_G (F : Nat) (nx : ref02_Size_l1_T.T → ZO) (kq : ZK) (x : ref02_Size_l1_T.T) : ZO := ref02_Size_l1 F none (fun n k => nx ((n, (k, ())), (((), ()), ()))) (fun y0 y1 => kq (.exit 0) (ref02_Size_l1_T.inst ((y0, (y1, ())), (((), ()), ())))) x.1.1 x.1.2.1
def ref02_Size_l1_R (F m : Nat) (x : ref02_Size_l1_T.T) (kq : ZK) : ZO := ref02_Size_l1F F none (fun y0 y1 => kq (.exit 0) (ref02_Size_l1_T.inst ((y0, (y1, ())), (((), ()), ())))) m x.1.1 x.1.2.1
def ref02_Size_lo (F : Nat) : List (LoE Unit) := [⟨112, 2, LO.of ref02_Size_l1_T (ref02_Size_l1_R F F)⟩]
def ref02_Size_book (F : Nat) : BookL Unit := { toBook := ref02_Size_book0, lo := losOf (ref02_Size_lo F), need := needsOf [] }
theorem ref02_Size_l1_step (F : Nat) : LStep prog (ref02_Size_book F) F 112 0 2 ref02_Size_l1_T (ref02_Size_l1_G F) := fun d x KQ => by kernel_rfl
theorem ref02_Size_loOk (F : Nat) : LoOk prog (ref02_Size_book F) F := loOk_of (l := ref02_Size_lo F) rfl (fa (loOne_of 0 (by kernel_rfl) (by kernel_rfl) (lstep_run (ref02_Size_l1_step F) (fun _ _ => rfl) (fun _ _ _ _ => rfl))) fz)
theorem ref02_Size_run (F : Nat) (x : ArgsT ref02_Size_ps) (kend : List BV → ZO) : runFnL prog (ref02_Size_book F) F 20 112 (argsInst ref02_Size_ps x) [.d (.int .i64)] kend = ref02_Size F x.1 none (fun y0 => kend [BV.d (.int .i64) y0]) := by kernel_rfl
theorem ref02_Size_contract  : Contract prog 112 ref02_Size_orc := con_of (B0 := ref02_Size_book0) zN zG mix_ok zT ref02_Size_run (orcsOf_ok (fa ref02_number_contract (fa ref02_power_contract fz))) (by kernel_rfl) (fun _ => rfl) ref02_Size_loOk (fun x _ => (ref02_Size_plain x.1).elim fun F hF => ⟨F, fun kend => hF none _⟩)
@[reducible] def ref02_PutInt_ps  : List PM := [.d (.slc (.int .u8)), .d (.int .i64)]
def ref02_PutInt_orc  : Orc := Orc.of ref02_PutInt_ps true 1 fun x => (ref02_PutInt_P x.1 x.2.1, [.o 5 (.int .u8) (ref02_PutInt_r x.1 x.2.1)])
@[reducible] def ref02_PutInt_l1_T  : Tpl := { cur := ⟨[(1, .var (.int .i64)), (4, .row 0), (0, .var (.int .i64))], 39⟩, stk := [⟨[], 0⟩], heap := [.row 5 (.int .u8) false] }
def ref02_PutInt_orcs  : List (FuncId × Orc) := [(111, ref02_number_orc), (112, ref02_Size_orc), (113, ref02_power_orc)]
def ref02_PutInt_book0  : Book := { Γ := gam, orc := orcsOf ref02_PutInt_orcs, hint := hintsOf [(64, { keep := some [1, 6, 7], keeps := [(7, [1, 6, 7])], own := [], dat := [], stk := [] })] }
def ref02_PutInt_l1_G (F : Nat) (nx : ref02_PutInt_l1_T.T → ZO) (kq : ZK) (x : ref02_PutInt_l1_T.T) : ZO := ref02_PutInt_l1 F none (fun n i out => nx ((n, ((), (i, ()))), (((), ()), (out, ())))) (fun y0 y1 y2 => kq (.exit 0) (ref02_PutInt_l1_T.inst ((y0, ((), (y1, ()))), (((), ()), (y2, ()))))) x.1.1 x.1.2.2.1 x.2.2.1
def ref02_PutInt_l1_R (F m : Nat) (x : ref02_PutInt_l1_T.T) (kq : ZK) : ZO := ref02_PutInt_l1F F none (fun y0 y1 y2 => kq (.exit 0) (ref02_PutInt_l1_T.inst ((y0, ((), (y1, ()))), (((), ()), (y2, ()))))) m x.1.1 x.1.2.2.1 x.2.2.1
def ref02_PutInt_lo (F : Nat) : List (LoE Unit) := [⟨64, 7, LO.of ref02_PutInt_l1_T (ref02_PutInt_l1_R F F)⟩]
def ref02_PutInt_book (F : Nat) : BookL Unit := { toBook := ref02_PutInt_book0, lo := losOf (ref02_PutInt_lo F), need := needsOf [] }
theorem ref02_PutInt_l1_step (F : Nat) : LStep prog (ref02_PutInt_book F) F 64 0 7 ref02_PutInt_l1_T (ref02_PutInt_l1_G F) := fun d x KQ => by kernel_rfl
theorem ref02_PutInt_loOk (F : Nat) : LoOk prog (ref02_PutInt_book F) F := loOk_of (l := ref02_PutInt_lo F) rfl (fa (loOne_of 0 (by kernel_rfl) (by kernel_rfl) (lstep_run (ref02_PutInt_l1_step F) (fun _ _ => rfl) (fun _ _ _ _ => rfl))) fz)
theorem ref02_PutInt_run (F : Nat) (x : ArgsT ref02_PutInt_ps) (kend : List BV → ZO) : runFnL prog (ref02_PutInt_book F) F 20 64 (argsInst ref02_PutInt_ps x) [.o 5 (.int .u8)] kend = ref02_PutInt F x.1 x.2.1 none (fun y0 => kend [BV.o 5 (.int .u8) y0]) := by kernel_rfl
theorem ref02_PutInt_contract  : Contract prog 64 ref02_PutInt_orc := con_of (B0 := ref02_PutInt_book0) zN zG mix_ok zT ref02_PutInt_run (orcsOf_ok (fa ref02_number_contract (fa ref02_Size_contract (fa ref02_power_contract fz)))) (by kernel_rfl) (fun _ => rfl) ref02_PutInt_loOk (fun x h => (ref02_PutInt_plain x.1 x.2.1 h).elim fun F hF => ⟨F, fun kend => hF none _⟩)
end Go.AI
namespace Go.AI
open Go
open Go.Proofs.Tryz (prog)
set_option linter.unusedVariables false
@[reducible] def wire_PutBytes_ps  : List PM := [.d (.slc (.int .u8)), .d (.slc (.int .u8))]
def wire_PutBytes_orc  : Orc := Orc.of wire_PutBytes_ps true 1 fun x => (wire_PutBytes_P x.1 x.2.1, [.o 5 (.int .u8) (wire_PutBytes_r x.1 x.2.1)])
@[reducible] def wire_PutBytes_l1_T  : Tpl := { cur := ⟨[(1, .row 0), (1, .ptr 1 []), (10, .var (.slc (.int .u8))), (0, .var (.int .i64)), (0, .var (.int .i64))], 10⟩, stk := [⟨[], 9⟩, ⟨[], 0⟩], heap := [.row 5 (.int .u8) false, .box (.pr (.fn 101 (.un)) (.var .unit))] }
def wire_PutBytes_orcs  : List (FuncId × Orc) := [(99, wire_put_orc), (100, clone_byte_orc)]
def wire_PutBytes_book0  : Book := { Γ := gam, orc := orcsOf wire_PutBytes_orcs, hint := hintsOf [(102, { keep := some [1, 3, 14, 15, 16], keeps := [(3, [1, 3, 14, 15, 16])], own := [], dat := [], stk := [[]] })] }
def wire_PutBytes_l1_G (F : Nat) (nx : wire_PutBytes_l1_T.T → ZO) (kq : ZK) (x : wire_PutBytes_l1_T.T) : ZO := wire_PutBytes_l1 F none (fun s14 s15 s16 dst => nx (((), ((), (s14, (s15, (s16, ()))))), (((), ((), ())), (dst, (((), ()), ()))))) (fun y0 y1 y2 y3 => kq (.exit 0) (wire_PutBytes_l1_T.inst (((), ((), (y0, (y1, (y2, ()))))), (((), ((), ())), (y3, (((), ()), ())))))) x.1.2.2.1 x.1.2.2.2.1 x.1.2.2.2.2.1 x.2.2.1
def wire_PutBytes_l1_R (F m : Nat) (x : wire_PutBytes_l1_T.T) (kq : ZK) : ZO := wire_PutBytes_l1F F none (fun y0 y1 y2 y3 => kq (.exit 0) (wire_PutBytes_l1_T.inst (((), ((), (y0, (y1, (y2, ()))))), (((), ((), ())), (y3, (((), ()), ())))))) m x.1.2.2.1 x.1.2.2.2.1 x.1.2.2.2.2.1 x.2.2.1
def wire_PutBytes_lo (F : Nat) : List (LoE Unit) := [⟨102, 3, LO.of wire_PutBytes_l1_T (wire_PutBytes_l1_R F F)⟩]
def wire_PutBytes_book (F : Nat) : BookL Unit := { toBook := wire_PutBytes_book0, lo := losOf (wire_PutBytes_lo F), need := needsOf [(102, 1)] }
theorem wire_PutBytes_l1_step (F : Nat) : LStep prog (wire_PutBytes_book F) F 102 0 3 wire_PutBytes_l1_T (wire_PutBytes_l1_G F) := fun d x KQ => by kernel_rfl
theorem wire_PutBytes_loOk (F : Nat) : LoOk prog (wire_PutBytes_book F) F := loOk_of (l := wire_PutBytes_lo F) rfl (fa (loOne_of 0 (by kernel_rfl) (by kernel_rfl) (lstep_run (wire_PutBytes_l1_step F) (fun _ _ => rfl) (fun _ _ _ _ => rfl))) fz)
theorem wire_PutBytes_run (F : Nat) (x : ArgsT wire_PutBytes_ps) (kend : List BV → ZO) : runFnL prog (wire_PutBytes_book F) F 20 53 (argsInst wire_PutBytes_ps x) [.o 5 (.int .u8)] kend = wire_PutBytes F x.1 x.2.1 none (fun y0 => kend [BV.o 5 (.int .u8) y0]) := by kernel_rfl
theorem wire_PutBytes_contract  : Contract prog 53 wire_PutBytes_orc := con_of (B0 := wire_PutBytes_book0) zN zG mix_ok zT wire_PutBytes_run (orcsOf_ok (fa wire_put_contract (fa clone_byte_contract fz))) (by kernel_rfl) (fun _ => rfl) wire_PutBytes_loOk (fun x h => (wire_PutBytes_plain x.1 x.2.1 h).elim fun F hF => ⟨F, fun kend => hF none _⟩)
@[reducible] def ref02_PutBytes_ps  : List PM := [.d (.slc (.int .u8)), .d (.slc (.int .u8))]
def ref02_PutBytes_orc  : Orc := Orc.of ref02_PutBytes_ps true 1 fun x => (ref02_PutBytes_P x.1 x.2.1, [.o 5 (.int .u8) (ref02_PutBytes_r x.1 x.2.1)])
def ref02_PutBytes_orcs  : List (FuncId × Orc) := [(64, ref02_PutInt_orc)]
def ref02_PutBytes_book0  : Book := { Γ := gam, orc := orcsOf ref02_PutBytes_orcs, hint := hintsOf [] }
def ref02_PutBytes_lo (F : Nat) : List (LoE Unit) := []
def ref02_PutBytes_book (F : Nat) : BookL Unit := { toBook := ref02_PutBytes_book0, lo := losOf (ref02_PutBytes_lo F), need := needsOf [] }
theorem ref02_PutBytes_loOk (F : Nat) : LoOk prog (ref02_PutBytes_book F) F := loOk_of (l := ref02_PutBytes_lo F) rfl fz
theorem ref02_PutBytes_run (F : Nat) (x : ArgsT ref02_PutBytes_ps) (kend : List BV → ZO) : runFnL prog (ref02_PutBytes_book F) F 20 65 (argsInst ref02_PutBytes_ps x) [.o 5 (.int .u8)] kend = ref02_PutBytes F x.1 x.2.1 none (fun y0 => kend [BV.o 5 (.int .u8) y0]) := by kernel_rfl
theorem ref02_PutBytes_contract  : Contract prog 65 ref02_PutBytes_orc := con_of (B0 := ref02_PutBytes_book0) zN zG mix_ok zT ref02_PutBytes_run (orcsOf_ok (fa ref02_PutInt_contract fz)) (by kernel_rfl) (fun _ => rfl) ref02_PutBytes_loOk (fun x h => (ref02_PutBytes_plain x.1 x.2.1 h).elim fun F hF => ⟨F, fun kend => hF none _⟩)
end Go.AI
namespace Go.AI
open Go
open Go.Proofs.Tryz (prog)
set_option linter.unusedVariables false
@[reducible] def rotr_ps  : List PM := [.d (.int .u32), .d (.int .i64)]
def rotr_orc  : Orc := Orc.of rotr_ps true 0 fun x => (rotr_P x.1 x.2.1, [.d (.int .u32) (rotr_r x.1 x.2.1)])
def rotr_orcs  : List (FuncId × Orc) := []
def rotr_book0  : Book := { Γ := gam, orc := orcsOf rotr_orcs, hint := hintsOf [] }
def rotr_lo (F : Nat) : List (LoE Unit) := []
def rotr_book (F : Nat) : BookL Unit := { toBook := rotr_book0, lo := losOf (rotr_lo F), need := needsOf [] }
theorem rotr_loOk (F : Nat) : LoOk prog (rotr_book F) F := loOk_of (l := rotr_lo F) rfl fz
theorem rotr_run (F : Nat) (x : ArgsT rotr_ps) (kend : List BV → ZO) : runFnL prog (rotr_book F) F 20 168 (argsInst rotr_ps x) [.d (.int .u32)] kend = rotr F x.1 x.2.1 none (fun y0 => kend [BV.d (.int .u32) y0]) := by kernel_rfl
theorem rotr_contract  : Contract prog 168 rotr_orc := con_of (B0 := rotr_book0) zN zG mix_ok zT rotr_run (orcsOf_ok fz) (by kernel_rfl) (fun _ => rfl) rotr_loOk (fun x h => (rotr_plain x.1 x.2.1 h).elim fun F hF => ⟨F, fun kend => hF none _⟩)
@[reducible] def shr_ps  : List PM := [.d (.int .u32), .d (.int .i64)]
def shr_orc  : Orc := Orc.of shr_ps true 0 fun x => (shr_P x.1 x.2.1, [.d (.int .u32) (shr_r x.1 x.2.1)])
def shr_orcs  : List (FuncId × Orc) := []
def shr_book0  : Book := { Γ := gam, orc := orcsOf shr_orcs, hint := hintsOf [] }
def shr_lo (F : Nat) : List (LoE Unit) := []
def shr_book (F : Nat) : BookL Unit := { toBook := shr_book0, lo := losOf (shr_lo F), need := needsOf [] }
theorem shr_loOk (F : Nat) : LoOk prog (shr_book F) F := loOk_of (l := shr_lo F) rfl fz
theorem shr_run (F : Nat) (x : ArgsT shr_ps) (kend : List BV → ZO) : runFnL prog (shr_book F) F 20 177 (argsInst shr_ps x) [.d (.int .u32)] kend = shr F x.1 x.2.1 none (fun y0 => kend [BV.d (.int .u32) y0]) := by kernel_rfl
theorem shr_contract  : Contract prog 177 shr_orc := con_of (B0 := shr_book0) zN zG mix_ok zT shr_run (orcsOf_ok fz) (by kernel_rfl) (fun _ => rfl) shr_loOk (fun x h => (shr_plain x.1 x.2.1 h).elim fun F hF => ⟨F, fun kend => hF none _⟩)
def three_0_orcs  : List (FuncId × Orc) := [(168, rotr_orc)]
def three_0_book0  : Book := { Γ := gam, orc := orcsOf three_0_orcs, hint := hintsOf [] }
def three_0_lo (F : Nat) : List (LoE Unit) := []
def three_0_book (F : Nat) : BookL Unit := { toBook := three_0_book0, lo := losOf (three_0_lo F), need := needsOf [] }
theorem three_0_loOk (F : Nat) : LoOk prog (three_0_book F) F := loOk_of (l := three_0_lo F) rfl fz
theorem three_0_run (F : Nat) (x_ : UInt32) (a b c : Int) (kend : List BV → ZO) : runFnL prog (three_0_book F) F 20 167 [.d (.int .u32) x_, .d (.int .i64) a, .d (.int .i64) b, .d (.int .i64) c, .f 168] [.d (.int .u32)] kend = three_0 F x_ a b c none (fun y0 => kend [BV.d (.int .u32) y0]) := by kernel_rfl
theorem three_0_contract  : Contract prog 167 (Orc.of [.d (.int .u32), .d (.int .i64), .d (.int .i64), .d (.int .i64), .f] true 0 fun x => ((Nat.beq x.2.2.2.2.1 168) && three_P x.1 x.2.1 x.2.2.1 x.2.2.2.1 x.2.2.2.2.1, [.d (.int .u32) (three_r x.1 x.2.1 x.2.2.1 x.2.2.2.1 x.2.2.2.2.1)])) := contract_of_runL (B0 := three_0_book0) zN zG mix_ok zT (orcsOf_ok (fa rotr_contract fz)) (by kernel_rfl) (fun x h => by
 obtain ⟨x0, x1, x2, x3, x4, _⟩ := x
 simp only [Bool.and_eq_true] at h
 obtain ⟨e, h⟩ := h
 have e := Nat.eq_of_beq_eq_true e
 subst e
 obtain ⟨F, hF⟩ := three_0_plain x0 x1 x2 x3 h
 exact ⟨F, 20, three_0_book F, rfl, three_0_loOk F, fun kend => (three_0_run F x0 x1 x2 x3 kend).trans (hF none (fun y0 => kend [BV.d (.int .u32) y0]))⟩)
def three_1_orcs  : List (FuncId × Orc) := [(168, rotr_orc), (177, shr_orc)]
def three_1_book0  : Book := { Γ := gam, orc := orcsOf three_1_orcs, hint := hintsOf [] }
def three_1_lo (F : Nat) : List (LoE Unit) := []
def three_1_book (F : Nat) : BookL Unit := { toBook := three_1_book0, lo := losOf (three_1_lo F), need := needsOf [] }
theorem three_1_loOk (F : Nat) : LoOk prog (three_1_book F) F := loOk_of (l := three_1_lo F) rfl fz
theorem three_1_run (F : Nat) (x_ : UInt32) (a b c : Int) (kend : List BV → ZO) : runFnL prog (three_1_book F) F 20 167 [.d (.int .u32) x_, .d (.int .i64) a, .d (.int .i64) b, .d (.int .i64) c, .f 177] [.d (.int .u32)] kend = three_1 F x_ a b c none (fun y0 => kend [BV.d (.int .u32) y0]) := by kernel_rfl
theorem three_1_contract  : Contract prog 167 (Orc.of [.d (.int .u32), .d (.int .i64), .d (.int .i64), .d (.int .i64), .f] true 0 fun x => ((Nat.beq x.2.2.2.2.1 177) && three_P x.1 x.2.1 x.2.2.1 x.2.2.2.1 x.2.2.2.2.1, [.d (.int .u32) (three_r x.1 x.2.1 x.2.2.1 x.2.2.2.1 x.2.2.2.2.1)])) := contract_of_runL (B0 := three_1_book0) zN zG mix_ok zT (orcsOf_ok (fa rotr_contract (fa shr_contract fz))) (by kernel_rfl) (fun x h => by
 obtain ⟨x0, x1, x2, x3, x4, _⟩ := x
 simp only [Bool.and_eq_true] at h
 obtain ⟨e, h⟩ := h
 have e := Nat.eq_of_beq_eq_true e
 subst e
 obtain ⟨F, hF⟩ := three_1_plain x0 x1 x2 x3 h
 exact ⟨F, 20, three_1_book F, rfl, three_1_loOk F, fun kend => (three_1_run F x0 x1 x2 x3 kend).trans (hF none (fun y0 => kend [BV.d (.int .u32) y0]))⟩)
def three_orc  : Orc := Orc.of [.d (.int .u32), .d (.int .i64), .d (.int .i64), .d (.int .i64), .f] true 0 fun x => ((Nat.beq x.2.2.2.2.1 168 || Nat.beq x.2.2.2.2.1 177) && three_P x.1 x.2.1 x.2.2.1 x.2.2.2.1 x.2.2.2.2.1, [.d (.int .u32) (three_r x.1 x.2.1 x.2.2.1 x.2.2.2.1 x.2.2.2.2.1)])
theorem three_contract  : Contract prog 167 three_orc := contract_cases three_0_contract.1 (fun x h => by
 obtain ⟨x0, x1, x2, x3, x4, _⟩ := x
 simp only [Bool.and_eq_true, Bool.or_eq_true] at h
 obtain ⟨e, _⟩ := h
 rcases e with e | e
 ·have e := Nat.eq_of_beq_eq_true e
  subst e
  exact ⟨_, three_0_contract, rfl⟩
 ·have e := Nat.eq_of_beq_eq_true e
  subst e
  exact ⟨_, three_1_contract, rfl⟩)
@[reducible] def consts_ps  : List PM := []
def consts_orc  : Orc := Orc.of consts_ps true 0 fun x => (consts_P, [.d (.arr 64 (.int .u32)) (consts_r)])
def consts_orcs  : List (FuncId × Orc) := []
def consts_book0  : Book := { Γ := gam, orc := orcsOf consts_orcs, hint := hintsOf [] }
def consts_lo (F : Nat) : List (LoE Unit) := []
def consts_book (F : Nat) : BookL Unit := { toBook := consts_book0, lo := losOf (consts_lo F), need := needsOf [] }
theorem consts_loOk (F : Nat) : LoOk prog (consts_book F) F := loOk_of (l := consts_lo F) rfl fz
theorem consts_run (F : Nat) (x : ArgsT consts_ps) (kend : List BV → ZO) : runFnL prog (consts_book F) F 20 176 (argsInst consts_ps x) [.d (.arr 64 (.int .u32))] kend = consts F  none (fun y0 => kend [BV.d (.arr 64 (.int .u32)) y0]) := by kernel_rfl
theorem consts_contract  : Contract prog 176 consts_orc := con_of (B0 := consts_book0) zN zG mix_ok zT consts_run (orcsOf_ok fz) (by kernel_rfl) (fun _ => rfl) consts_loOk (fun x h => (consts_plain  h).elim fun F hF => ⟨F, fun kend => hF none _⟩)
@[reducible] def absorb_ps  : List PM := [.d (.arr 8 (.int .u32)), .d (.slc (.int .u8))]
def absorb_orc  : Orc := Orc.of absorb_ps true 0 fun x => (absorb_P x.1 x.2.1, [.d (.arr 8 (.int .u32)) (absorb_r x.1 x.2.1)])
@[reducible] def absorb_l2_T  : Tpl := { cur := ⟨[(0, .hnd .yield 0), (0, .ptr 2 []), (1, .ptr 3 []), (0, .var (.int .i64)), (0, .var (.int .u32)), (4, .var (.arr 64 (.int .u32))), (0, .var (.int .i64)), (11, .var (.slc (.int .u8))), (0, .var (.int .i64)), (0, .var (.int .i64))], 50⟩, stk := [⟨[(0, .hnd .yield 0)], 0⟩, ⟨[(2, .ptr 4 []), (1, .ptr 5 []), (0, .ptr 1 [])], 78⟩, ⟨[], 0⟩], heap := [.lp 156 3 ⟨[(5, .ptr 1 [])], 78⟩ .ready, .box (.var (.arr 8 (.int .u32))), .box (.var (.slc (.int .u8))), .box (.var (.arr 16 (.int .u32))), .box (.var (.arr 8 (.int .u32))), .box (.var (.arr 8 (.int .u32)))] }
@[reducible] def absorb_l1_T  : Tpl := { cur := ⟨[(0, .hnd .yield 0), (0, .ptr 2 []), (1, .ptr 3 []), (6, .var (.arr 64 (.int .u32))), (0, .var (.int .i64))], 64⟩, stk := [⟨[(0, .hnd .yield 0)], 0⟩, ⟨[(2, .ptr 4 []), (1, .ptr 5 []), (0, .ptr 1 [])], 78⟩, ⟨[], 0⟩], heap := [.lp 156 3 ⟨[(5, .ptr 1 [])], 78⟩ .ready, .box (.var (.arr 8 (.int .u32))), .box (.var (.slc (.int .u8))), .box (.var (.arr 16 (.int .u32))), .box (.var (.arr 8 (.int .u32))), .box (.var (.arr 8 (.int .u32)))] }
@[reducible] def absorb_l3_T  : Tpl := { cur := ⟨[(2, .ptr 0 []), (1, .ptr 1 []), (0, .ptr 2 []), (65, .var (.int .i64))], 12⟩, stk := [⟨[], 0⟩], heap := [.box (.var (.arr 8 (.int .u32))), .box (.var (.arr 8 (.int .u32))), .box (.var (.arr 8 (.int .u32)))] }
def absorb_orcs  : List (FuncId × Orc) := [(167, three_orc), (176, consts_orc)]
def absorb_book0  : Book := { Γ := gam, orc := orcsOf absorb_orcs, hint := hintsOf [(156, { keep := some [2, 4, 5, 71], keeps := [(9, [2, 4, 5, 71])], own := [], dat := [], stk := [] }), (175, { keep := some [0, 1, 3, 4, 5, 10, 11, 23, 24, 25], keeps := [(2, [0, 1, 3, 10, 11]), (6, [0, 1, 3, 4, 5, 10, 11, 23, 24, 25])], own := [], dat := [], stk := [[0], [2, 4, 5, 6, 7, 8, 9, 10, 15, 21]] })] }
def absorb_l2_G (F : Nat) (nx : absorb_l2_T.T → ZO) (kq : ZK) (x : absorb_l2_T.T) : ZO := absorb_l2 F none (fun i k s10 s11 s23 s24 s25 x_ s1 w s s4 => nx (((), ((), ((), (i, (k, (s10, (s11, (s23, (s24, (s25, ())))))))))), ((((), ()), (((), ((), ((), ()))), ((), ()))), (((), ()), (x_, (s1, (w, (s, (s4, ()))))))))) (fun y0 y1 y2 y3 y4 y5 y6 y7 y8 y9 y10 y11 => kq (.exit 2) (absorb_l2_T.inst (((), ((), ((), (y0, (y1, (y2, (y3, (y4, (y5, (y6, ())))))))))), ((((), ()), (((), ((), ((), ()))), ((), ()))), (((), ()), (y7, (y8, (y9, (y10, (y11, ())))))))))) x.1.2.2.2.1 x.1.2.2.2.2.1 x.1.2.2.2.2.2.1 x.1.2.2.2.2.2.2.1 x.1.2.2.2.2.2.2.2.1 x.1.2.2.2.2.2.2.2.2.1 x.1.2.2.2.2.2.2.2.2.2.1 x.2.2.2.1 x.2.2.2.2.1 x.2.2.2.2.2.1 x.2.2.2.2.2.2.1 x.2.2.2.2.2.2.2.1
def absorb_l2_R (F m : Nat) (x : absorb_l2_T.T) (kq : ZK) : ZO := absorb_l2F F none (fun y0 y1 y2 y3 y4 y5 y6 y7 y8 y9 y10 y11 => kq (.exit 2) (absorb_l2_T.inst (((), ((), ((), (y0, (y1, (y2, (y3, (y4, (y5, (y6, ())))))))))), ((((), ()), (((), ((), ((), ()))), ((), ()))), (((), ()), (y7, (y8, (y9, (y10, (y11, ())))))))))) m x.1.2.2.2.1 x.1.2.2.2.2.1 x.1.2.2.2.2.2.1 x.1.2.2.2.2.2.2.1 x.1.2.2.2.2.2.2.2.1 x.1.2.2.2.2.2.2.2.2.1 x.1.2.2.2.2.2.2.2.2.2.1 x.2.2.2.1 x.2.2.2.2.1 x.2.2.2.2.2.1 x.2.2.2.2.2.2.1 x.2.2.2.2.2.2.2.1
def absorb_l1_G (F : Nat) (nx : absorb_l1_T.T → ZO) (kq : ZK) (x : absorb_l1_T.T) : ZO := absorb_l1 F none (fun s10 s11 x_ s1 w s s4 => nx (((), ((), ((), (s10, (s11, ()))))), ((((), ()), (((), ((), ((), ()))), ((), ()))), (((), ()), (x_, (s1, (w, (s, (s4, ()))))))))) (fun y0 y1 y2 y3 y4 y5 y6 => kq (.exit 0) (absorb_l1_T.inst (((), ((), ((), (y0, (y1, ()))))), ((((), ()), (((), ((), ((), ()))), ((), ()))), (((), ()), (y2, (y3, (y4, (y5, (y6, ())))))))))) x.1.2.2.2.1 x.1.2.2.2.2.1 x.2.2.2.1 x.2.2.2.2.1 x.2.2.2.2.2.1 x.2.2.2.2.2.2.1 x.2.2.2.2.2.2.2.1
def absorb_l1_R (F m : Nat) (x : absorb_l1_T.T) (kq : ZK) : ZO := absorb_l1F F none (fun y0 y1 y2 y3 y4 y5 y6 => kq (.exit 0) (absorb_l1_T.inst (((), ((), ((), (y0, (y1, ()))))), ((((), ()), (((), ((), ((), ()))), ((), ()))), (((), ()), (y2, (y3, (y4, (y5, (y6, ())))))))))) m x.1.2.2.2.1 x.1.2.2.2.2.1 x.2.2.2.1 x.2.2.2.2.1 x.2.2.2.2.2.1 x.2.2.2.2.2.2.1 x.2.2.2.2.2.2.2.1
def absorb_l3_G (F : Nat) (nx : absorb_l3_T.T → ZO) (kq : ZK) (x : absorb_l3_T.T) : ZO := absorb_l3 F none (fun s71 s s4 x_ => nx (((), ((), ((), (s71, ())))), (((), ()), (s, (s4, (x_, ())))))) (fun y0 y1 y2 y3 => kq (.exit 2) (absorb_l3_T.inst (((), ((), ((), (y0, ())))), (((), ()), (y1, (y2, (y3, ()))))))) x.1.2.2.2.1 x.2.2.1 x.2.2.2.1 x.2.2.2.2.1
def absorb_l3_R (F m : Nat) (x : absorb_l3_T.T) (kq : ZK) : ZO := absorb_l3F F none (fun y0 y1 y2 y3 => kq (.exit 2) (absorb_l3_T.inst (((), ((), ((), (y0, ())))), (((), ()), (y1, (y2, (y3, ()))))))) m x.1.2.2.2.1 x.2.2.1 x.2.2.2.1 x.2.2.2.2.1
def absorb_lo (F : Nat) : List (LoE Unit) := [⟨175, 6, LO.of absorb_l2_T (absorb_l2_R F F)⟩,
 ⟨175, 2, LO.of absorb_l1_T (absorb_l1_R F F)⟩,
 ⟨156, 9, LO.of absorb_l3_T (absorb_l3_R F F)⟩]
def absorb_book (F : Nat) : BookL Unit := { toBook := absorb_book0, lo := losOf (absorb_lo F), need := needsOf [(175, 1)] }
theorem absorb_l2_step (F : Nat) : LStep prog (absorb_book F) F 175 1 6 absorb_l2_T (absorb_l2_G F) := fun d x KQ => by kernel_rfl
theorem absorb_l1_step (F : Nat) : LStep prog (absorb_book F) F 175 0 2 absorb_l1_T (absorb_l1_G F) := fun d x KQ => by kernel_rfl
theorem absorb_l3_step (F : Nat) : LStep prog (absorb_book F) F 156 0 9 absorb_l3_T (absorb_l3_G F) := fun d x KQ => by kernel_rfl
theorem absorb_loOk (F : Nat) : LoOk prog (absorb_book F) F := loOk_of (l := absorb_lo F) rfl (fa (loOne_of 1 (by kernel_rfl) (by kernel_rfl) (lstep_run (absorb_l2_step F) (fun _ _ => rfl) (fun _ _ _ _ => rfl))) (fa (loOne_of 0 (by kernel_rfl) (by kernel_rfl) (lstep_run (absorb_l1_step F) (fun _ _ => rfl) (fun _ _ _ _ => rfl))) (fa (loOne_of 0 (by kernel_rfl) (by kernel_rfl) (lstep_run (absorb_l3_step F) (fun _ _ => rfl) (fun _ _ _ _ => rfl))) fz)))
theorem absorb_run (F : Nat) (x : ArgsT absorb_ps) (kend : List BV → ZO) : runFnL prog (absorb_book F) F 20 156 (argsInst absorb_ps x) [.d (.arr 8 (.int .u32))] kend = absorb F x.1 x.2.1 none (fun y0 => kend [BV.d (.arr 8 (.int .u32)) y0]) := by kernel_rfl
theorem absorb_contract  : Contract prog 156 absorb_orc := con_of (B0 := absorb_book0) zN zG mix_ok zT absorb_run (orcsOf_ok (fa three_contract (fa consts_contract fz))) (by kernel_rfl) (fun _ => rfl) absorb_loOk (fun x h => (absorb_plain x.1 x.2.1 h).elim fun F hF => ⟨F, fun kend => hF none _⟩)
@[reducible] def hNew_ps  : List PM := []
def hNew_orc  : Orc := Orc.of hNew_ps false 0 fun x => (hNew_P, [.d (.pair (.arr 8 (.int .u32)) (.pair (.slc (.int .u8)) (.pair (.int .i64) .unit))) (hNew_r)])
def hNew_orcs  : List (FuncId × Orc) := []
def hNew_book0  : Book := { Γ := gam, orc := orcsOf hNew_orcs, hint := hintsOf [] }
def hNew_lo (F : Nat) : List (LoE Unit) := []
def hNew_book (F : Nat) : BookL Unit := { toBook := hNew_book0, lo := losOf (hNew_lo F), need := needsOf [] }
theorem hNew_loOk (F : Nat) : LoOk prog (hNew_book F) F := loOk_of (l := hNew_lo F) rfl fz
theorem hNew_run (F : Nat) (x : ArgsT hNew_ps) (kend : List BV → ZO) : runFnL prog (hNew_book F) F 20 140 (argsInst hNew_ps x) [.d (.pair (.arr 8 (.int .u32)) (.pair (.slc (.int .u8)) (.pair (.int .i64) .unit)))] kend = hNew F  none (fun y0 => kend [BV.d (.pair (.arr 8 (.int .u32)) (.pair (.slc (.int .u8)) (.pair (.int .i64) .unit))) y0]) := by kernel_rfl
theorem hNew_contract  : Contract prog 140 hNew_orc := con_of (B0 := hNew_book0) zN zG mix_ok zT hNew_run (orcsOf_ok fz) (by kernel_rfl) (fun _ => rfl) hNew_loOk (fun x h => (hNew_plain  h).elim fun F hF => ⟨F, fun kend => hF none _⟩)
@[reducible] def hwrite_ps  : List PM := [.d (.pair (.arr 8 (.int .u32)) (.pair (.slc (.int .u8)) (.pair (.int .i64) .unit))), .d (.slc (.int .u8))]
def hwrite_orc  : Orc := Orc.of hwrite_ps false 0 fun x => (hwrite_P x.1 x.2.1, [.d (.pair (.arr 8 (.int .u32)) (.pair (.slc (.int .u8)) (.pair (.int .i64) .unit))) (hwrite_r x.1 x.2.1)])
@[reducible] def hwrite_l1_T  : Tpl := { cur := ⟨[(1, .var (.slc (.int .u8))), (0, .ptr 0 []), (1, .ptr 1 []), (0, .ptr 2 []), (7, .var (.arr 8 (.int .u32))), (0, .var (.int .i64))], 45⟩, stk := [⟨[], 0⟩], heap := [.box (.var (.pair (.arr 8 (.int .u32)) (.pair (.slc (.int .u8)) (.pair (.int .i64) .unit)))), .box (.var (.pair (.arr 8 (.int .u32)) (.pair (.slc (.int .u8)) (.pair (.int .i64) .unit)))), .box (.var (.arr 8 (.int .u32)))] }
@[reducible] def hwrite_l2_T  : Tpl := { cur := ⟨[(1, .var (.slc (.int .u8))), (0, .ptr 0 []), (1, .ptr 1 []), (0, .ptr 2 []), (2, .var (.slc (.int .u8)))], 51⟩, stk := [⟨[], 0⟩], heap := [.box (.var (.pair (.arr 8 (.int .u32)) (.pair (.slc (.int .u8)) (.pair (.int .i64) .unit)))), .box (.var (.pair (.arr 8 (.int .u32)) (.pair (.slc (.int .u8)) (.pair (.int .i64) .unit)))), .box (.var (.arr 8 (.int .u32)))] }
@[reducible] def hwrite_l3_T  : Tpl := { cur := ⟨[(4, .ptr 0 []), (4, .ptr 1 []), (39, .var (.arr 8 (.int .u32))), (0, .var (.int .i64))], 9⟩, stk := [⟨[], 0⟩], heap := [.box (.var (.pair (.arr 8 (.int .u32)) (.pair (.slc (.int .u8)) (.pair (.int .i64) .unit)))), .box (.pr (.var (.arr 8 (.int .u32))) (.pr (.row 2) (.var (.pair (.int .i64) .unit)))), .row 5 (.int .u8) false] }
def hwrite_orcs  : List (FuncId × Orc) := [(156, absorb_orc)]
def hwrite_book0  : Book := { Γ := gam, orc := orcsOf hwrite_orcs, hint := hintsOf [(139, { keep := some [1, 2, 4, 5, 8, 9, 13, 14, 49, 50], keeps := [(3, [1, 2, 4, 5, 13, 14]), (8, [1, 2, 4, 5, 8]), (13, [4, 9, 49, 50])], own := [], dat := [], stk := [] })] }
def hwrite_l1_G (F : Nat) (nx : hwrite_l1_T.T → ZO) (kq : ZK) (x : hwrite_l1_T.T) : ZO := hwrite_l1 F none (fun b s13 s14 h s4 s => nx ((b, ((), ((), ((), (s13, (s14, ())))))), (((), ()), (h, (s4, (s, ())))))) (fun y0 y1 y2 y3 y4 y5 => kq (.exit 0) (hwrite_l1_T.inst ((y0, ((), ((), ((), (y1, (y2, ())))))), (((), ()), (y3, (y4, (y5, ()))))))) x.1.1 x.1.2.2.2.2.1 x.1.2.2.2.2.2.1 x.2.2.1 x.2.2.2.1 x.2.2.2.2.1
def hwrite_l1_R (F m : Nat) (x : hwrite_l1_T.T) (kq : ZK) : ZO := hwrite_l1F F none (fun y0 y1 y2 y3 y4 y5 => kq (.exit 0) (hwrite_l1_T.inst ((y0, ((), ((), ((), (y1, (y2, ())))))), (((), ()), (y3, (y4, (y5, ()))))))) m x.1.1 x.1.2.2.2.2.1 x.1.2.2.2.2.2.1 x.2.2.1 x.2.2.2.1 x.2.2.2.2.1
def hwrite_l2_G (F : Nat) (nx : hwrite_l2_T.T → ZO) (kq : ZK) (x : hwrite_l2_T.T) : ZO := hwrite_l2 F none (fun b all h s4 s => nx ((b, ((), ((), ((), (all, ()))))), (((), ()), (h, (s4, (s, ())))))) (fun y0 y1 y2 y3 y4 => kq (.exit 2) (hwrite_l2_T.inst ((y0, ((), ((), ((), (y1, ()))))), (((), ()), (y2, (y3, (y4, ()))))))) x.1.1 x.1.2.2.2.2.1 x.2.2.1 x.2.2.2.1 x.2.2.2.2.1
def hwrite_l2_R (F m : Nat) (x : hwrite_l2_T.T) (kq : ZK) : ZO := hwrite_l2F F none (fun y0 y1 y2 y3 y4 => kq (.exit 2) (hwrite_l2_T.inst ((y0, ((), ((), ((), (y1, ()))))), (((), ()), (y2, (y3, (y4, ()))))))) m x.1.1 x.1.2.2.2.2.1 x.2.2.1 x.2.2.2.1 x.2.2.2.2.1
def hwrite_l3_G (F : Nat) (nx : hwrite_l3_T.T → ZO) (kq : ZK) (x : hwrite_l3_T.T) : ZO := hwrite_l3 F none (fun s49 s50 s4 out out1 h2 => nx (((), ((), (s49, (s50, ())))), (((), ()), (s4, ((out, ((), out1)), (h2, ())))))) (fun y0 y1 y2 y3 y4 y5 => kq (.exit 4) (hwrite_l3_T.inst (((), ((), (y0, (y1, ())))), (((), ()), (y2, ((y3, ((), y4)), (y5, ()))))))) x.1.2.2.1 x.1.2.2.2.1 x.2.2.1 x.2.2.2.1.1 x.2.2.2.1.2.2 x.2.2.2.2.1
def hwrite_l3_R (F m : Nat) (x : hwrite_l3_T.T) (kq : ZK) : ZO := hwrite_l3F F none (fun y0 y1 y2 y3 y4 y5 => kq (.exit 4) (hwrite_l3_T.inst (((), ((), (y0, (y1, ())))), (((), ()), (y2, ((y3, ((), y4)), (y5, ()))))))) m x.1.2.2.1 x.1.2.2.2.1 x.2.2.1 x.2.2.2.1.1 x.2.2.2.1.2.2 x.2.2.2.2.1
def hwrite_lo (F : Nat) : List (LoE Unit) := [⟨139, 3, LO.of hwrite_l1_T (hwrite_l1_R F F)⟩,
 ⟨139, 8, LO.of hwrite_l2_T (hwrite_l2_R F F)⟩,
 ⟨139, 13, LO.of hwrite_l3_T (hwrite_l3_R F F)⟩]
def hwrite_book (F : Nat) : BookL Unit := { toBook := hwrite_book0, lo := losOf (hwrite_lo F), need := needsOf [] }
theorem hwrite_l1_step (F : Nat) : LStep prog (hwrite_book F) F 139 0 3 hwrite_l1_T (hwrite_l1_G F) := fun d x KQ => by kernel_rfl
theorem hwrite_l2_step (F : Nat) : LStep prog (hwrite_book F) F 139 1 8 hwrite_l2_T (hwrite_l2_G F) := fun d x KQ => by kernel_rfl
theorem hwrite_l3_step (F : Nat) : LStep prog (hwrite_book F) F 139 2 13 hwrite_l3_T (hwrite_l3_G F) := fun d x KQ => by kernel_rfl
theorem hwrite_loOk (F : Nat) : LoOk prog (hwrite_book F) F := loOk_of (l := hwrite_lo F) rfl (fa (loOne_of 0 (by kernel_rfl) (by kernel_rfl) (lstep_run (hwrite_l1_step F) (fun _ _ => rfl) (fun _ _ _ _ => rfl))) (fa (loOne_of 1 (by kernel_rfl) (by kernel_rfl) (lstep_run (hwrite_l2_step F) (fun _ _ => rfl) (fun _ _ _ _ => rfl))) (fa (loOne_of 2 (by kernel_rfl) (by kernel_rfl) (lstep_run (hwrite_l3_step F) (fun _ _ => rfl) (fun _ _ _ _ => rfl))) fz)))
theorem hwrite_run (F : Nat) (x : ArgsT hwrite_ps) (kend : List BV → ZO) : runFnL prog (hwrite_book F) F 20 139 (argsInst hwrite_ps x) [.d (.pair (.arr 8 (.int .u32)) (.pair (.slc (.int .u8)) (.pair (.int .i64) .unit)))] kend = hwrite F x.1 x.2.1 none (fun y0 => kend [BV.d (.pair (.arr 8 (.int .u32)) (.pair (.slc (.int .u8)) (.pair (.int .i64) .unit))) y0]) := by kernel_rfl
theorem hwrite_contract  : Contract prog 139 hwrite_orc := con_of (B0 := hwrite_book0) zN zG mix_ok zT hwrite_run (orcsOf_ok (fa absorb_contract fz)) (by kernel_rfl) (fun _ => rfl) hwrite_loOk (fun x h => (hwrite_plain x.1 x.2.1 h).elim fun F hF => ⟨F, fun kend => hF none _⟩)
@[reducible] def hfinish_ps  : List PM := [.d (.pair (.arr 8 (.int .u32)) (.pair (.slc (.int .u8)) (.pair (.int .i64) .unit)))]
def hfinish_orc  : Orc := Orc.of hfinish_ps true 0 fun x => (hfinish_P x.1, [.d (.arr 32 (.int .u8)) (hfinish_r x.1)])
@[reducible] def hfinish_l1_T  : Tpl := { cur := ⟨[(1, .ptr 0 []), (0, .ptr 1 []), (0, .row 2), (0, .var (.int .i64))], 52⟩, stk := [⟨[], 0⟩], heap := [.box (.var (.pair (.arr 8 (.int .u32)) (.pair (.slc (.int .u8)) (.pair (.int .i64) .unit)))), .box (.var (.arr 32 (.int .u8))), .row 5 (.int .u8) false] }
@[reducible] def hfinish_l3_T  : Tpl := { cur := ⟨[(2, .ptr 0 []), (2, .ptr 1 []), (0, .var (.int .i64)), (0, .var (.int .u32)), (27, .var (.arr 8 (.int .u32))), (0, .var (.int .i64)), (3, .var (.int .i64))], 16⟩, stk := [⟨[], 0⟩], heap := [.box (.var (.arr 32 (.int .u8))), .box (.var (.arr 32 (.int .u8)))] }
@[reducible] def hfinish_l2_T  : Tpl := { cur := ⟨[(2, .ptr 0 []), (2, .ptr 1 []), (29, .var (.arr 8 (.int .u32))), (0, .var (.int .i64))], 20⟩, stk := [⟨[], 0⟩], heap := [.box (.var (.arr 32 (.int .u8))), .box (.var (.arr 32 (.int .u8)))] }
def hfinish_orcs  : List (FuncId × Orc) := [(139, hwrite_orc)]
def hfinish_book0  : Book := { Γ := gam, orc := orcsOf hfinish_orcs, hint := hintsOf [(138, { keep := some [1, 2, 3, 4, 5, 6, 7, 35, 36, 40], keeps := [(4, [1, 2, 3, 4]), (9, [2, 5, 35, 36]), (12, [2, 5, 6, 7, 35, 36, 40])], own := [], dat := [], stk := [] })] }
def hfinish_l1_G (F : Nat) (nx : hfinish_l1_T.T → ZO) (kq : ZK) (x : hfinish_l1_T.T) : ZO := hfinish_l1 F none (fun shift h s2 pad => nx (((), ((), ((), (shift, ())))), (((), ()), (h, (s2, (pad, ())))))) (fun y0 y1 y2 y3 => kq (.exit 0) (hfinish_l1_T.inst (((), ((), ((), (y0, ())))), (((), ()), (y1, (y2, (y3, ()))))))) x.1.2.2.2.1 x.2.2.1 x.2.2.2.1 x.2.2.2.2.1
def hfinish_l1_R (F m : Nat) (x : hfinish_l1_T.T) (kq : ZK) : ZO := hfinish_l1F F none (fun y0 y1 y2 y3 => kq (.exit 0) (hfinish_l1_T.inst (((), ((), ((), (y0, ())))), (((), ()), (y1, (y2, (y3, ()))))))) m x.1.2.2.2.1 x.2.2.1 x.2.2.2.1 x.2.2.2.2.1
def hfinish_l3_G (F : Nat) (nx : hfinish_l3_T.T → ZO) (kq : ZK) (x : hfinish_l3_T.T) : ZO := hfinish_l3 F none (fun i x_ s35 s36 s40 s2 out => nx (((), ((), (i, (x_, (s35, (s36, (s40, ()))))))), (((), ()), (s2, (out, ()))))) (fun y0 y1 y2 y3 y4 y5 y6 => kq (.exit 4) (hfinish_l3_T.inst (((), ((), (y0, (y1, (y2, (y3, (y4, ()))))))), (((), ()), (y5, (y6, ())))))) x.1.2.2.1 x.1.2.2.2.1 x.1.2.2.2.2.1 x.1.2.2.2.2.2.1 x.1.2.2.2.2.2.2.1 x.2.2.1 x.2.2.2.1
def hfinish_l3_R (F m : Nat) (x : hfinish_l3_T.T) (kq : ZK) : ZO := hfinish_l3F F none (fun y0 y1 y2 y3 y4 y5 y6 => kq (.exit 4) (hfinish_l3_T.inst (((), ((), (y0, (y1, (y2, (y3, (y4, ()))))))), (((), ()), (y5, (y6, ())))))) m x.1.2.2.1 x.1.2.2.2.1 x.1.2.2.2.2.1 x.1.2.2.2.2.2.1 x.1.2.2.2.2.2.2.1 x.2.2.1 x.2.2.2.1
def hfinish_l2_G (F : Nat) (nx : hfinish_l2_T.T → ZO) (kq : ZK) (x : hfinish_l2_T.T) : ZO := hfinish_l2 F none (fun s35 s36 s2 out => nx (((), ((), (s35, (s36, ())))), (((), ()), (s2, (out, ()))))) (fun y0 y1 y2 y3 => kq (.exit 2) (hfinish_l2_T.inst (((), ((), (y0, (y1, ())))), (((), ()), (y2, (y3, ())))))) x.1.2.2.1 x.1.2.2.2.1 x.2.2.1 x.2.2.2.1
def hfinish_l2_R (F m : Nat) (x : hfinish_l2_T.T) (kq : ZK) : ZO := hfinish_l2F F none (fun y0 y1 y2 y3 => kq (.exit 2) (hfinish_l2_T.inst (((), ((), (y0, (y1, ())))), (((), ()), (y2, (y3, ())))))) m x.1.2.2.1 x.1.2.2.2.1 x.2.2.1 x.2.2.2.1
def hfinish_lo (F : Nat) : List (LoE Unit) := [⟨138, 4, LO.of hfinish_l1_T (hfinish_l1_R F F)⟩,
 ⟨138, 12, LO.of hfinish_l3_T (hfinish_l3_R F F)⟩,
 ⟨138, 9, LO.of hfinish_l2_T (hfinish_l2_R F F)⟩]
def hfinish_book (F : Nat) : BookL Unit := { toBook := hfinish_book0, lo := losOf (hfinish_lo F), need := needsOf [] }
theorem hfinish_l1_step (F : Nat) : LStep prog (hfinish_book F) F 138 0 4 hfinish_l1_T (hfinish_l1_G F) := fun d x KQ => by kernel_rfl
theorem hfinish_l3_step (F : Nat) : LStep prog (hfinish_book F) F 138 2 12 hfinish_l3_T (hfinish_l3_G F) := fun d x KQ => by kernel_rfl
theorem hfinish_l2_step (F : Nat) : LStep prog (hfinish_book F) F 138 1 9 hfinish_l2_T (hfinish_l2_G F) := fun d x KQ => by kernel_rfl
theorem hfinish_loOk (F : Nat) : LoOk prog (hfinish_book F) F := loOk_of (l := hfinish_lo F) rfl (fa (loOne_of 0 (by kernel_rfl) (by kernel_rfl) (lstep_run (hfinish_l1_step F) (fun _ _ => rfl) (fun _ _ _ _ => rfl))) (fa (loOne_of 2 (by kernel_rfl) (by kernel_rfl) (lstep_run (hfinish_l3_step F) (fun _ _ => rfl) (fun _ _ _ _ => rfl))) (fa (loOne_of 1 (by kernel_rfl) (by kernel_rfl) (lstep_run (hfinish_l2_step F) (fun _ _ => rfl) (fun _ _ _ _ => rfl))) fz)))
theorem hfinish_run (F : Nat) (x : ArgsT hfinish_ps) (kend : List BV → ZO) : runFnL prog (hfinish_book F) F 20 138 (argsInst hfinish_ps x) [.d (.arr 32 (.int .u8))] kend = hfinish F x.1 none (fun y0 => kend [BV.d (.arr 32 (.int .u8)) y0]) := by kernel_rfl
theorem hfinish_contract  : Contract prog 138 hfinish_orc := con_of (B0 := hfinish_book0) zN zG mix_ok zT hfinish_run (orcsOf_ok (fa hwrite_contract fz)) (by kernel_rfl) (fun _ => rfl) hfinish_loOk (fun x h => (hfinish_plain x.1 h).elim fun F hF => ⟨F, fun kend => hF none _⟩)
@[reducible] def dSum_ps  : List PM := [.d (.slc (.int .u8))]
def dSum_orc  : Orc := Orc.of dSum_ps true 0 fun x => (dSum_P x.1, [.d (.arr 32 (.int .u8)) (dSum_r x.1)])
def dSum_orcs  : List (FuncId × Orc) := [(138, hfinish_orc), (139, hwrite_orc), (140, hNew_orc)]
def dSum_book0  : Book := { Γ := gam, orc := orcsOf dSum_orcs, hint := hintsOf [] }
def dSum_lo (F : Nat) : List (LoE Unit) := []
def dSum_book (F : Nat) : BookL Unit := { toBook := dSum_book0, lo := losOf (dSum_lo F), need := needsOf [] }
theorem dSum_loOk (F : Nat) : LoOk prog (dSum_book F) F := loOk_of (l := dSum_lo F) rfl fz
theorem dSum_run (F : Nat) (x : ArgsT dSum_ps) (kend : List BV → ZO) : runFnL prog (dSum_book F) F 20 157 (argsInst dSum_ps x) [.d (.arr 32 (.int .u8))] kend = dSum F x.1 none (fun y0 => kend [BV.d (.arr 32 (.int .u8)) y0]) := by kernel_rfl
theorem dSum_contract  : Contract prog 157 dSum_orc := con_of (B0 := dSum_book0) zN zG mix_ok zT dSum_run (orcsOf_ok (fa hfinish_contract (fa hwrite_contract (fa hNew_contract fz)))) (by kernel_rfl) (fun _ => rfl) dSum_loOk (fun x h => (dSum_plain x.1 h).elim fun F hF => ⟨F, fun kend => hF none _⟩)
@[reducible] def rconsts_ps  : List PM := []
def rconsts_orc  : Orc := Orc.of rconsts_ps true 0 fun x => (rconsts_P, [.d (.arr 64 (.int .u32)) (rconsts_r)])
def rconsts_orcs  : List (FuncId × Orc) := []
def rconsts_book0  : Book := { Γ := gam, orc := orcsOf rconsts_orcs, hint := hintsOf [] }
def rconsts_lo (F : Nat) : List (LoE Unit) := []
def rconsts_book (F : Nat) : BookL Unit := { toBook := rconsts_book0, lo := losOf (rconsts_lo F), need := needsOf [] }
theorem rconsts_loOk (F : Nat) : LoOk prog (rconsts_book F) F := loOk_of (l := rconsts_lo F) rfl fz
theorem rconsts_run (F : Nat) (x : ArgsT rconsts_ps) (kend : List BV → ZO) : runFnL prog (rconsts_book F) F 20 173 (argsInst rconsts_ps x) [.d (.arr 64 (.int .u32))] kend = rconsts F  none (fun y0 => kend [BV.d (.arr 64 (.int .u32)) y0]) := by kernel_rfl
theorem rconsts_contract  : Contract prog 173 rconsts_orc := con_of (B0 := rconsts_book0) zN zG mix_ok zT rconsts_run (orcsOf_ok fz) (by kernel_rfl) (fun _ => rfl) rconsts_loOk (fun x h => (rconsts_plain  h).elim fun F hF => ⟨F, fun kend => hF none _⟩)
@[reducible] def rrotr_ps  : List PM := [.d (.int .u32), .d (.int .i64)]
def rrotr_orc  : Orc := Orc.of rrotr_ps true 0 fun x => (rrotr_P x.1 x.2.1, [.d (.int .u32) (rrotr_r x.1 x.2.1)])
def rrotr_orcs  : List (FuncId × Orc) := []
def rrotr_book0  : Book := { Γ := gam, orc := orcsOf rrotr_orcs, hint := hintsOf [] }
def rrotr_lo (F : Nat) : List (LoE Unit) := []
def rrotr_book (F : Nat) : BookL Unit := { toBook := rrotr_book0, lo := losOf (rrotr_lo F), need := needsOf [] }
theorem rrotr_loOk (F : Nat) : LoOk prog (rrotr_book F) F := loOk_of (l := rrotr_lo F) rfl fz
theorem rrotr_run (F : Nat) (x : ArgsT rrotr_ps) (kend : List BV → ZO) : runFnL prog (rrotr_book F) F 20 174 (argsInst rrotr_ps x) [.d (.int .u32)] kend = rrotr F x.1 x.2.1 none (fun y0 => kend [BV.d (.int .u32) y0]) := by kernel_rfl
theorem rrotr_contract  : Contract prog 174 rrotr_orc := con_of (B0 := rrotr_book0) zN zG mix_ok zT rrotr_run (orcsOf_ok fz) (by kernel_rfl) (fun _ => rfl) rrotr_loOk (fun x h => (rrotr_plain x.1 x.2.1 h).elim fun F hF => ⟨F, fun kend => hF none _⟩)
@[reducible] def rsched_ps  : List PM := [.d (.slc (.int .u8))]
def rsched_orc  : Orc := Orc.of rsched_ps true 0 fun x => (rsched_P x.1, [.d (.arr 64 (.int .u32)) (rsched_r x.1)])
@[reducible] def rsched_l2_T  : Tpl := { cur := ⟨[(0, .var (.slc (.int .u8))), (1, .ptr 0 []), (0, .ptr 1 []), (0, .var (.int .i64)), (0, .var (.int .i64))], 80⟩, stk := [⟨[], 0⟩], heap := [.box (.var (.arr 64 (.int .u32))), .box (.var (.arr 64 (.int .u32)))] }
@[reducible] def rsched_l1_T  : Tpl := { cur := ⟨[(0, .var (.slc (.int .u8))), (1, .ptr 0 []), (0, .ptr 1 []), (0, .var (.int .i64))], 81⟩, stk := [⟨[], 0⟩], heap := [.box (.var (.arr 64 (.int .u32))), .box (.var (.arr 64 (.int .u32)))] }
@[reducible] def rsched_l3_T  : Tpl := { cur := ⟨[(2, .ptr 0 []), (0, .ptr 1 []), (2, .var (.int .i64))], 79⟩, stk := [⟨[], 0⟩], heap := [.box (.var (.arr 64 (.int .u32))), .box (.var (.arr 64 (.int .u32)))] }
def rsched_orcs  : List (FuncId × Orc) := [(174, rrotr_orc)]
def rsched_book0  : Book := { Γ := gam, orc := orcsOf rsched_orcs, hint := hintsOf [(172, { keep := some [0, 2, 3, 4, 5, 6], keeps := [(3, [0, 2, 3, 4]), (6, [0, 2, 3, 4, 5]), (10, [2, 3, 6])], own := [], dat := [], stk := [] })] }
def rsched_l2_G (F : Nat) (nx : rsched_l2_T.T → ZO) (kq : ZK) (x : rsched_l2_T.T) : ZO := rsched_l2 F none (fun block i k s2 w => nx ((block, ((), ((), (i, (k, ()))))), (((), ()), (s2, (w, ()))))) (fun y0 y1 y2 y3 y4 => kq (.exit 2) (rsched_l2_T.inst ((y0, ((), ((), (y1, (y2, ()))))), (((), ()), (y3, (y4, ())))))) x.1.1 x.1.2.2.2.1 x.1.2.2.2.2.1 x.2.2.1 x.2.2.2.1
def rsched_l2_R (F m : Nat) (x : rsched_l2_T.T) (kq : ZK) : ZO := rsched_l2F F none (fun y0 y1 y2 y3 y4 => kq (.exit 2) (rsched_l2_T.inst ((y0, ((), ((), (y1, (y2, ()))))), (((), ()), (y3, (y4, ())))))) m x.1.1 x.1.2.2.2.1 x.1.2.2.2.2.1 x.2.2.1 x.2.2.2.1
def rsched_l1_G (F : Nat) (nx : rsched_l1_T.T → ZO) (kq : ZK) (x : rsched_l1_T.T) : ZO := rsched_l1 F none (fun block i s2 w => nx ((block, ((), ((), (i, ())))), (((), ()), (s2, (w, ()))))) (fun y0 y1 y2 y3 => kq (.exit 0) (rsched_l1_T.inst ((y0, ((), ((), (y1, ())))), (((), ()), (y2, (y3, ())))))) x.1.1 x.1.2.2.2.1 x.2.2.1 x.2.2.2.1
def rsched_l1_R (F m : Nat) (x : rsched_l1_T.T) (kq : ZK) : ZO := rsched_l1F F none (fun y0 y1 y2 y3 => kq (.exit 0) (rsched_l1_T.inst ((y0, ((), ((), (y1, ())))), (((), ()), (y2, (y3, ())))))) m x.1.1 x.1.2.2.2.1 x.2.2.1 x.2.2.2.1
def rsched_l3_G (F : Nat) (nx : rsched_l3_T.T → ZO) (kq : ZK) (x : rsched_l3_T.T) : ZO := rsched_l3 F none (fun i s2 w => nx (((), ((), (i, ()))), (((), ()), (s2, (w, ()))))) (fun y0 y1 y2 => kq (.exit 4) (rsched_l3_T.inst (((), ((), (y0, ()))), (((), ()), (y1, (y2, ())))))) x.1.2.2.1 x.2.2.1 x.2.2.2.1
def rsched_l3_R (F m : Nat) (x : rsched_l3_T.T) (kq : ZK) : ZO := rsched_l3F F none (fun y0 y1 y2 => kq (.exit 4) (rsched_l3_T.inst (((), ((), (y0, ()))), (((), ()), (y1, (y2, ())))))) m x.1.2.2.1 x.2.2.1 x.2.2.2.1
def rsched_lo (F : Nat) : List (LoE Unit) := [⟨172, 6, LO.of rsched_l2_T (rsched_l2_R F F)⟩,
 ⟨172, 3, LO.of rsched_l1_T (rsched_l1_R F F)⟩,
 ⟨172, 10, LO.of rsched_l3_T (rsched_l3_R F F)⟩]
def rsched_book (F : Nat) : BookL Unit := { toBook := rsched_book0, lo := losOf (rsched_lo F), need := needsOf [] }
theorem rsched_l2_step (F : Nat) : LStep prog (rsched_book F) F 172 1 6 rsched_l2_T (rsched_l2_G F) := fun d x KQ => by kernel_rfl
theorem rsched_l1_step (F : Nat) : LStep prog (rsched_book F) F 172 0 3 rsched_l1_T (rsched_l1_G F) := fun d x KQ => by kernel_rfl
theorem rsched_l3_step (F : Nat) : LStep prog (rsched_book F) F 172 2 10 rsched_l3_T (rsched_l3_G F) := fun d x KQ => by kernel_rfl
theorem rsched_loOk (F : Nat) : LoOk prog (rsched_book F) F := loOk_of (l := rsched_lo F) rfl (fa (loOne_of 1 (by kernel_rfl) (by kernel_rfl) (lstep_run (rsched_l2_step F) (fun _ _ => rfl) (fun _ _ _ _ => rfl))) (fa (loOne_of 0 (by kernel_rfl) (by kernel_rfl) (lstep_run (rsched_l1_step F) (fun _ _ => rfl) (fun _ _ _ _ => rfl))) (fa (loOne_of 2 (by kernel_rfl) (by kernel_rfl) (lstep_run (rsched_l3_step F) (fun _ _ => rfl) (fun _ _ _ _ => rfl))) fz)))
theorem rsched_run (F : Nat) (x : ArgsT rsched_ps) (kend : List BV → ZO) : runFnL prog (rsched_book F) F 20 172 (argsInst rsched_ps x) [.d (.arr 64 (.int .u32))] kend = rsched F x.1 none (fun y0 => kend [BV.d (.arr 64 (.int .u32)) y0]) := by kernel_rfl
theorem rsched_contract  : Contract prog 172 rsched_orc := con_of (B0 := rsched_book0) zN zG mix_ok zT rsched_run (orcsOf_ok (fa rrotr_contract fz)) (by kernel_rfl) (fun _ => rfl) rsched_loOk (fun x h => (rsched_plain x.1 h).elim fun F hF => ⟨F, fun kend => hF none _⟩)
@[reducible] def rAbsorb_ps  : List PM := [.d (.arr 8 (.int .u32)), .d (.slc (.int .u8))]
def rAbsorb_orc  : Orc := Orc.of rAbsorb_ps true 0 fun x => (rAbsorb_P x.1 x.2.1, [.d (.arr 8 (.int .u32)) (rAbsorb_r x.1 x.2.1)])
@[reducible] def rAbsorb_l1_T  : Tpl := { cur := ⟨[(2, .ptr 0 []), (1, .ptr 1 []), (0, .ptr 2 []), (0, .ptr 3 []), (0, .var (.int .u32)), (0, .var (.int .u32)), (0, .var (.int .u32)), (0, .var (.int .u32)), (0, .var (.int .u32)), (0, .var (.int .u32)), (0, .var (.int .u32)), (0, .var (.int .u32)), (0, .var (.int .i64))], 117⟩, stk := [⟨[], 0⟩], heap := [.box (.var (.arr 8 (.int .u32))), .box (.var (.arr 8 (.int .u32))), .box (.var (.arr 64 (.int .u32))), .box (.var (.arr 64 (.int .u32)))] }
def rAbsorb_orcs  : List (FuncId × Orc) := [(172, rsched_orc), (173, rconsts_orc), (174, rrotr_orc)]
def rAbsorb_book0  : Book := { Γ := gam, orc := orcsOf rAbsorb_orcs, hint := hintsOf [(165, { keep := some [2, 4, 5, 6, 7, 8, 9, 10, 11, 12, 13, 14, 15], keeps := [(4, [2, 4, 5, 6, 7, 8, 9, 10, 11, 12, 13, 14, 15])], own := [], dat := [], stk := [] })] }
def rAbsorb_l1_G (F : Nat) (nx : rAbsorb_l1_T.T → ZO) (kq : ZK) (x : rAbsorb_l1_T.T) : ZO := rAbsorb_l1 F none (fun a b c d_ e_ f g h i state s4 w k => nx (((), ((), ((), ((), (a, (b, (c, (d_, (e_, (f, (g, (h, (i, ()))))))))))))), (((), ()), (state, (s4, (w, (k, ()))))))) (fun y0 y1 y2 y3 y4 y5 y6 y7 y8 y9 y10 y11 y12 => kq (.exit 0) (rAbsorb_l1_T.inst (((), ((), ((), ((), (y0, (y1, (y2, (y3, (y4, (y5, (y6, (y7, (y8, ()))))))))))))), (((), ()), (y9, (y10, (y11, (y12, ())))))))) x.1.2.2.2.2.1 x.1.2.2.2.2.2.1 x.1.2.2.2.2.2.2.1 x.1.2.2.2.2.2.2.2.1 x.1.2.2.2.2.2.2.2.2.1 x.1.2.2.2.2.2.2.2.2.2.1 x.1.2.2.2.2.2.2.2.2.2.2.1 x.1.2.2.2.2.2.2.2.2.2.2.2.1 x.1.2.2.2.2.2.2.2.2.2.2.2.2.1 x.2.2.1 x.2.2.2.1 x.2.2.2.2.1 x.2.2.2.2.2.1
def rAbsorb_l1_R (F m : Nat) (x : rAbsorb_l1_T.T) (kq : ZK) : ZO := rAbsorb_l1F F none (fun y0 y1 y2 y3 y4 y5 y6 y7 y8 y9 y10 y11 y12 => kq (.exit 0) (rAbsorb_l1_T.inst (((), ((), ((), ((), (y0, (y1, (y2, (y3, (y4, (y5, (y6, (y7, (y8, ()))))))))))))), (((), ()), (y9, (y10, (y11, (y12, ())))))))) m x.1.2.2.2.2.1 x.1.2.2.2.2.2.1 x.1.2.2.2.2.2.2.1 x.1.2.2.2.2.2.2.2.1 x.1.2.2.2.2.2.2.2.2.1 x.1.2.2.2.2.2.2.2.2.2.1 x.1.2.2.2.2.2.2.2.2.2.2.1 x.1.2.2.2.2.2.2.2.2.2.2.2.1 x.1.2.2.2.2.2.2.2.2.2.2.2.2.1 x.2.2.1 x.2.2.2.1 x.2.2.2.2.1 x.2.2.2.2.2.1
def rAbsorb_lo (F : Nat) : List (LoE Unit) := [⟨165, 4, LO.of rAbsorb_l1_T (rAbsorb_l1_R F F)⟩]
def rAbsorb_book (F : Nat) : BookL Unit := { toBook := rAbsorb_book0, lo := losOf (rAbsorb_lo F), need := needsOf [] }
theorem rAbsorb_l1_step (F : Nat) : LStep prog (rAbsorb_book F) F 165 0 4 rAbsorb_l1_T (rAbsorb_l1_G F) := fun d x KQ => by kernel_rfl
theorem rAbsorb_loOk (F : Nat) : LoOk prog (rAbsorb_book F) F := loOk_of (l := rAbsorb_lo F) rfl (fa (loOne_of 0 (by kernel_rfl) (by kernel_rfl) (lstep_run (rAbsorb_l1_step F) (fun _ _ => rfl) (fun _ _ _ _ => rfl))) fz)
theorem rAbsorb_run (F : Nat) (x : ArgsT rAbsorb_ps) (kend : List BV → ZO) : runFnL prog (rAbsorb_book F) F 20 165 (argsInst rAbsorb_ps x) [.d (.arr 8 (.int .u32))] kend = rAbsorb F x.1 x.2.1 none (fun y0 => kend [BV.d (.arr 8 (.int .u32)) y0]) := by kernel_rfl
theorem rAbsorb_contract  : Contract prog 165 rAbsorb_orc := con_of (B0 := rAbsorb_book0) zN zG mix_ok zT rAbsorb_run (orcsOf_ok (fa rsched_contract (fa rconsts_contract (fa rrotr_contract fz)))) (by kernel_rfl) (fun _ => rfl) rAbsorb_loOk (fun x h => (rAbsorb_plain x.1 x.2.1 h).elim fun F hF => ⟨F, fun kend => hF none _⟩)
@[reducible] def sNew_ps  : List PM := []
def sNew_orc  : Orc := Orc.of sNew_ps false 0 fun x => (sNew_P, [.d (.pair (.arr 8 (.int .u32)) (.pair (.slc (.int .u8)) (.pair (.int .i64) .unit))) (sNew_r)])
def sNew_orcs  : List (FuncId × Orc) := []
def sNew_book0  : Book := { Γ := gam, orc := orcsOf sNew_orcs, hint := hintsOf [] }
def sNew_lo (F : Nat) : List (LoE Unit) := []
def sNew_book (F : Nat) : BookL Unit := { toBook := sNew_book0, lo := losOf (sNew_lo F), need := needsOf [] }
theorem sNew_loOk (F : Nat) : LoOk prog (sNew_book F) F := loOk_of (l := sNew_lo F) rfl fz
theorem sNew_run (F : Nat) (x : ArgsT sNew_ps) (kend : List BV → ZO) : runFnL prog (sNew_book F) F 20 154 (argsInst sNew_ps x) [.d (.pair (.arr 8 (.int .u32)) (.pair (.slc (.int .u8)) (.pair (.int .i64) .unit)))] kend = sNew F  none (fun y0 => kend [BV.d (.pair (.arr 8 (.int .u32)) (.pair (.slc (.int .u8)) (.pair (.int .i64) .unit))) y0]) := by kernel_rfl
theorem sNew_contract  : Contract prog 154 sNew_orc := con_of (B0 := sNew_book0) zN zG mix_ok zT sNew_run (orcsOf_ok fz) (by kernel_rfl) (fun _ => rfl) sNew_loOk (fun x h => (sNew_plain  h).elim fun F hF => ⟨F, fun kend => hF none _⟩)
@[reducible] def sCheck_ps  : List PM := [.d (.pair (.arr 8 (.int .u32)) (.pair (.slc (.int .u8)) (.pair (.int .i64) .unit)))]
def sCheck_orc  : Orc := Orc.of sCheck_ps true 0 fun x => (true, [.d (.int .i64) (sCheck_r x.1)])
def sCheck_orcs  : List (FuncId × Orc) := []
def sCheck_book0  : Book := { Γ := gam, orc := orcsOf sCheck_orcs, hint := hintsOf [] }
def sCheck_lo (F : Nat) : List (LoE Unit) := []
def sCheck_book (F : Nat) : BookL Unit := { toBook := sCheck_book0, lo := losOf (sCheck_lo F), need := needsOf [] }
theorem sCheck_loOk (F : Nat) : LoOk prog (sCheck_book F) F := loOk_of (l := sCheck_lo F) rfl fz
theorem sCheck_run (F : Nat) (x : ArgsT sCheck_ps) (kend : List BV → ZO) : runFnL prog (sCheck_book F) F 20 164 (argsInst sCheck_ps x) [.d (.int .i64)] kend = sCheck F x.1 none (fun y0 => kend [BV.d (.int .i64) y0]) := by kernel_rfl
theorem sCheck_contract  : Contract prog 164 sCheck_orc := con_of (B0 := sCheck_book0) zN zG mix_ok zT sCheck_run (orcsOf_ok fz) (by kernel_rfl) (fun _ => rfl) sCheck_loOk (fun x _ => (sCheck_plain x.1).elim fun F hF => ⟨F, fun kend => hF none _⟩)
@[reducible] def sabsorb_ps  : List PM := [.d (.pair (.arr 8 (.int .u32)) (.pair (.slc (.int .u8)) (.pair (.int .i64) .unit))), .d (.slc (.int .u8))]
def sabsorb_orc  : Orc := Orc.of sabsorb_ps false 0 fun x => (sabsorb_P x.1 x.2.1, [.d (.pair (.arr 8 (.int .u32)) (.pair (.slc (.int .u8)) (.pair (.int .i64) .unit))) (sabsorb_r x.1 x.2.1)])
@[reducible] def sabsorb_l1_T  : Tpl := { cur := ⟨[(2, .ptr 0 []), (1, .ptr 1 []), (0, .var (.slc (.int .u8)))], 26⟩, stk := [⟨[], 0⟩], heap := [.box (.var (.pair (.arr 8 (.int .u32)) (.pair (.slc (.int .u8)) (.pair (.int .i64) .unit)))), .box (.var (.pair (.arr 8 (.int .u32)) (.pair (.slc (.int .u8)) (.pair (.int .i64) .unit))))] }
def sabsorb_orcs  : List (FuncId × Orc) := [(165, rAbsorb_orc)]
def sabsorb_book0  : Book := { Γ := gam, orc := orcsOf sabsorb_orcs, hint := hintsOf [(153, { keep := some [2, 4, 5], keeps := [(3, [2, 4, 5])], own := [], dat := [(5, 24)], stk := [] })] }
def sabsorb_l1_G (F : Nat) (nx : sabsorb_l1_T.T → ZO) (kq : ZK) (x : sabsorb_l1_T.T) : ZO := sabsorb_l1 F none (fun all h s4 => nx (((), ((), (all, ()))), (((), ()), (h, (s4, ()))))) (fun y0 y1 y2 => kq (.exit 0) (sabsorb_l1_T.inst (((), ((), (y0, ()))), (((), ()), (y1, (y2, ())))))) x.1.2.2.1 x.2.2.1 x.2.2.2.1
def sabsorb_l1_R (F m : Nat) (x : sabsorb_l1_T.T) (kq : ZK) : ZO := sabsorb_l1F F none (fun y0 y1 y2 => kq (.exit 0) (sabsorb_l1_T.inst (((), ((), (y0, ()))), (((), ()), (y1, (y2, ())))))) m x.1.2.2.1 x.2.2.1 x.2.2.2.1
def sabsorb_lo (F : Nat) : List (LoE Unit) := [⟨153, 3, LO.of sabsorb_l1_T (sabsorb_l1_R F F)⟩]
def sabsorb_book (F : Nat) : BookL Unit := { toBook := sabsorb_book0, lo := losOf (sabsorb_lo F), need := needsOf [] }
theorem sabsorb_l1_step (F : Nat) : LStep prog (sabsorb_book F) F 153 0 3 sabsorb_l1_T (sabsorb_l1_G F) := fun d x KQ => by kernel_rfl
theorem sabsorb_loOk (F : Nat) : LoOk prog (sabsorb_book F) F := loOk_of (l := sabsorb_lo F) rfl (fa (loOne_of 0 (by kernel_rfl) (by kernel_rfl) (lstep_run (sabsorb_l1_step F) (fun _ _ => rfl) (fun _ _ _ _ => rfl))) fz)
theorem sabsorb_run (F : Nat) (x : ArgsT sabsorb_ps) (kend : List BV → ZO) : runFnL prog (sabsorb_book F) F 20 153 (argsInst sabsorb_ps x) [.d (.pair (.arr 8 (.int .u32)) (.pair (.slc (.int .u8)) (.pair (.int .i64) .unit)))] kend = sabsorb F x.1 x.2.1 none (fun y0 => kend [BV.d (.pair (.arr 8 (.int .u32)) (.pair (.slc (.int .u8)) (.pair (.int .i64) .unit))) y0]) := by kernel_rfl
theorem sabsorb_contract  : Contract prog 153 sabsorb_orc := con_of (B0 := sabsorb_book0) zN zG mix_ok zT sabsorb_run (orcsOf_ok (fa rAbsorb_contract fz)) (by kernel_rfl) (fun _ => rfl) sabsorb_loOk (fun x h => (sabsorb_plain x.1 x.2.1 h).elim fun F hF => ⟨F, fun kend => hF none _⟩)
@[reducible] def sFinish_ps  : List PM := [.d (.pair (.arr 8 (.int .u32)) (.pair (.slc (.int .u8)) (.pair (.int .i64) .unit)))]
def sFinish_orc  : Orc := Orc.of sFinish_ps true 0 fun x => (sFinish_P x.1, [.d (.arr 32 (.int .u8)) (sFinish_r0 x.1), .d (.int .i64) (sFinish_r1 x.1)])
@[reducible] def sFinish_l1_T  : Tpl := { cur := ⟨[(1, .ptr 0 []), (0, .ptr 1 []), (1, .var (.int .u64)), (0, .row 2)], 56⟩, stk := [⟨[], 0⟩], heap := [.box (.var (.pair (.arr 8 (.int .u32)) (.pair (.slc (.int .u8)) (.pair (.int .i64) .unit)))), .box (.var (.arr 32 (.int .u8))), .row 5 (.int .u8) false] }
@[reducible] def sFinish_l2_T  : Tpl := { cur := ⟨[(1, .ptr 0 []), (0, .ptr 1 []), (1, .var (.int .u64)), (0, .row 2), (0, .var (.int .i64))], 55⟩, stk := [⟨[], 0⟩], heap := [.box (.var (.pair (.arr 8 (.int .u32)) (.pair (.slc (.int .u8)) (.pair (.int .i64) .unit)))), .box (.var (.arr 32 (.int .u8))), .row 5 (.int .u8) false] }
@[reducible] def sFinish_l3_T  : Tpl := { cur := ⟨[(1, .ptr 0 []), (0, .ptr 1 []), (4, .ptr 2 []), (0, .var (.int .i64))], 53⟩, stk := [⟨[], 0⟩], heap := [.box (.var (.pair (.arr 8 (.int .u32)) (.pair (.slc (.int .u8)) (.pair (.int .i64) .unit)))), .box (.var (.arr 32 (.int .u8))), .box (.var (.arr 32 (.int .u8)))] }
def sFinish_orcs  : List (FuncId × Orc) := [(153, sabsorb_orc), (164, sCheck_orc)]
def sFinish_book0  : Book := { Γ := gam, orc := orcsOf sFinish_orcs, hint := hintsOf [(152, { keep := some [1, 2, 4, 5, 6, 7, 8], keeps := [(5, [1, 2, 4, 5]), (8, [1, 2, 4, 5, 6]), (14, [1, 2, 7, 8])], own := [], dat := [], stk := [] })] }
def sFinish_l1_G (F : Nat) (nx : sFinish_l1_T.T → ZO) (kq : ZK) (x : sFinish_l1_T.T) : ZO := sFinish_l1 F none (fun bits h s2 pad => nx (((), ((), (bits, ((), ())))), (((), ()), (h, (s2, (pad, ())))))) (fun y0 y1 y2 y3 => kq (.exit 0) (sFinish_l1_T.inst (((), ((), (y0, ((), ())))), (((), ()), (y1, (y2, (y3, ()))))))) x.1.2.2.1 x.2.2.1 x.2.2.2.1 x.2.2.2.2.1
def sFinish_l1_R (F m : Nat) (x : sFinish_l1_T.T) (kq : ZK) : ZO := sFinish_l1F F none (fun y0 y1 y2 y3 => kq (.exit 0) (sFinish_l1_T.inst (((), ((), (y0, ((), ())))), (((), ()), (y1, (y2, (y3, ()))))))) m x.1.2.2.1 x.2.2.1 x.2.2.2.1 x.2.2.2.2.1
def sFinish_l2_G (F : Nat) (nx : sFinish_l2_T.T → ZO) (kq : ZK) (x : sFinish_l2_T.T) : ZO := sFinish_l2 F none (fun bits i h s2 pad => nx (((), ((), (bits, ((), (i, ()))))), (((), ()), (h, (s2, (pad, ())))))) (fun y0 y1 y2 y3 y4 => kq (.exit 2) (sFinish_l2_T.inst (((), ((), (y0, ((), (y1, ()))))), (((), ()), (y2, (y3, (y4, ()))))))) x.1.2.2.1 x.1.2.2.2.2.1 x.2.2.1 x.2.2.2.1 x.2.2.2.2.1
def sFinish_l2_R (F m : Nat) (x : sFinish_l2_T.T) (kq : ZK) : ZO := sFinish_l2F F none (fun y0 y1 y2 y3 y4 => kq (.exit 2) (sFinish_l2_T.inst (((), ((), (y0, ((), (y1, ()))))), (((), ()), (y2, (y3, (y4, ()))))))) m x.1.2.2.1 x.1.2.2.2.2.1 x.2.2.1 x.2.2.2.1 x.2.2.2.2.1
def sFinish_l3_G (F : Nat) (nx : sFinish_l3_T.T → ZO) (kq : ZK) (x : sFinish_l3_T.T) : ZO := sFinish_l3 F none (fun i h s2 out => nx (((), ((), ((), (i, ())))), (((), ()), (h, (s2, (out, ())))))) (fun y0 y1 y2 y3 => kq (.exit 4) (sFinish_l3_T.inst (((), ((), ((), (y0, ())))), (((), ()), (y1, (y2, (y3, ()))))))) x.1.2.2.2.1 x.2.2.1 x.2.2.2.1 x.2.2.2.2.1
def sFinish_l3_R (F m : Nat) (x : sFinish_l3_T.T) (kq : ZK) : ZO := sFinish_l3F F none (fun y0 y1 y2 y3 => kq (.exit 4) (sFinish_l3_T.inst (((), ((), ((), (y0, ())))), (((), ()), (y1, (y2, (y3, ()))))))) m x.1.2.2.2.1 x.2.2.1 x.2.2.2.1 x.2.2.2.2.1
def sFinish_lo (F : Nat) : List (LoE Unit) := [⟨152, 5, LO.of sFinish_l1_T (sFinish_l1_R F F)⟩,
 ⟨152, 8, LO.of sFinish_l2_T (sFinish_l2_R F F)⟩,
 ⟨152, 14, LO.of sFinish_l3_T (sFinish_l3_R F F)⟩]
def sFinish_book (F : Nat) : BookL Unit := { toBook := sFinish_book0, lo := losOf (sFinish_lo F), need := needsOf [] }
theorem sFinish_l1_step (F : Nat) : LStep prog (sFinish_book F) F 152 0 5 sFinish_l1_T (sFinish_l1_G F) := fun d x KQ => by kernel_rfl
theorem sFinish_l2_step (F : Nat) : LStep prog (sFinish_book F) F 152 1 8 sFinish_l2_T (sFinish_l2_G F) := fun d x KQ => by kernel_rfl
theorem sFinish_l3_step (F : Nat) : LStep prog (sFinish_book F) F 152 2 14 sFinish_l3_T (sFinish_l3_G F) := fun d x KQ => by kernel_rfl
theorem sFinish_loOk (F : Nat) : LoOk prog (sFinish_book F) F := loOk_of (l := sFinish_lo F) rfl (fa (loOne_of 0 (by kernel_rfl) (by kernel_rfl) (lstep_run (sFinish_l1_step F) (fun _ _ => rfl) (fun _ _ _ _ => rfl))) (fa (loOne_of 1 (by kernel_rfl) (by kernel_rfl) (lstep_run (sFinish_l2_step F) (fun _ _ => rfl) (fun _ _ _ _ => rfl))) (fa (loOne_of 2 (by kernel_rfl) (by kernel_rfl) (lstep_run (sFinish_l3_step F) (fun _ _ => rfl) (fun _ _ _ _ => rfl))) fz)))
theorem sFinish_run (F : Nat) (x : ArgsT sFinish_ps) (kend : List BV → ZO) : runFnL prog (sFinish_book F) F 20 152 (argsInst sFinish_ps x) [.d (.arr 32 (.int .u8)), .d (.int .i64)] kend = sFinish F x.1 none (fun y0 y1 => kend [BV.d (.arr 32 (.int .u8)) y0, BV.d (.int .i64) y1]) := by kernel_rfl
theorem sFinish_contract  : Contract prog 152 sFinish_orc := con_of (B0 := sFinish_book0) zN zG mix_ok zT sFinish_run (orcsOf_ok (fa sabsorb_contract (fa sCheck_contract fz))) (by kernel_rfl) (fun _ => rfl) sFinish_loOk (fun x h => (sFinish_plain x.1 h).elim fun F hF => ⟨F, fun kend => hF none _⟩)
@[reducible] def rSum_ps  : List PM := [.d (.slc (.int .u8))]
def rSum_orc  : Orc := Orc.of rSum_ps true 0 fun x => (rSum_P x.1, [.d (.arr 32 (.int .u8)) (rSum_r x.1)])
def rSum_orcs  : List (FuncId × Orc) := [(152, sFinish_orc), (153, sabsorb_orc), (154, sNew_orc)]
def rSum_book0  : Book := { Γ := gam, orc := orcsOf rSum_orcs, hint := hintsOf [] }
def rSum_lo (F : Nat) : List (LoE Unit) := []
def rSum_book (F : Nat) : BookL Unit := { toBook := rSum_book0, lo := losOf (rSum_lo F), need := needsOf [] }
theorem rSum_loOk (F : Nat) : LoOk prog (rSum_book F) F := loOk_of (l := rSum_lo F) rfl fz
theorem rSum_run (F : Nat) (x : ArgsT rSum_ps) (kend : List BV → ZO) : runFnL prog (rSum_book F) F 20 133 (argsInst rSum_ps x) [.d (.arr 32 (.int .u8))] kend = rSum F x.1 none (fun y0 => kend [BV.d (.arr 32 (.int .u8)) y0]) := by kernel_rfl
theorem rSum_contract  : Contract prog 133 rSum_orc := con_of (B0 := rSum_book0) zN zG mix_ok zT rSum_run (orcsOf_ok (fa sFinish_contract (fa sabsorb_contract (fa sNew_contract fz)))) (by kernel_rfl) (fun _ => rfl) rSum_loOk (fun x h => (rSum_plain x.1 h).elim fun F hF => ⟨F, fun kend => hF none _⟩)
end Go.AI
namespace Go.AI
open Go
open Go.Proofs.Tryz (prog)
set_option linter.unusedVariables false
@[reducible] def padded_ps  : List PM := [.d (.slc (.int .u8)), .d (.int .u8)]
def padded_orc  : Orc := Orc.of padded_ps true 1 fun x => (padded_P x.1 x.2.1, [.o 5 (.int .u8) (padded_r x.1 x.2.1)])
@[reducible] def padded_l1_T  : Tpl := { cur := ⟨[(1, .var (.int .u8)), (4, .row 0), (12, .var (.int .i64)), (0, .var (.int .i64))], 11⟩, stk := [⟨[], 0⟩], heap := [.row 5 (.int .u8) false] }
def padded_orcs  : List (FuncId × Orc) := [(157, dSum_orc)]
def padded_book0  : Book := { Γ := gam, orc := orcsOf padded_orcs, hint := hintsOf [(141, { keep := some [1, 6, 19, 20], keeps := [(7, [1, 6, 19, 20])], own := [], dat := [], stk := [] })] }
def padded_l1_G (F : Nat) (nx : padded_l1_T.T → ZO) (kq : ZK) (x : padded_l1_T.T) : ZO := padded_l1 F none (fun by_ s19 s20 out => nx ((by_, ((), (s19, (s20, ())))), (((), ()), (out, ())))) (fun y0 y1 y2 y3 => kq (.exit 0) (padded_l1_T.inst ((y0, ((), (y1, (y2, ())))), (((), ()), (y3, ()))))) x.1.1 x.1.2.2.1 x.1.2.2.2.1 x.2.2.1
def padded_l1_R (F m : Nat) (x : padded_l1_T.T) (kq : ZK) : ZO := padded_l1F F none (fun y0 y1 y2 y3 => kq (.exit 0) (padded_l1_T.inst ((y0, ((), (y1, (y2, ())))), (((), ()), (y3, ()))))) m x.1.1 x.1.2.2.1 x.1.2.2.2.1 x.2.2.1
def padded_lo (F : Nat) : List (LoE Unit) := [⟨141, 7, LO.of padded_l1_T (padded_l1_R F F)⟩]
def padded_book (F : Nat) : BookL Unit := { toBook := padded_book0, lo := losOf (padded_lo F), need := needsOf [] }
theorem padded_l1_step (F : Nat) : LStep prog (padded_book F) F 141 0 7 padded_l1_T (padded_l1_G F) := fun d x KQ => by kernel_rfl
theorem padded_loOk (F : Nat) : LoOk prog (padded_book F) F := loOk_of (l := padded_lo F) rfl (fa (loOne_of 0 (by kernel_rfl) (by kernel_rfl) (lstep_run (padded_l1_step F) (fun _ _ => rfl) (fun _ _ _ _ => rfl))) fz)
theorem padded_run (F : Nat) (x : ArgsT padded_ps) (kend : List BV → ZO) : runFnL prog (padded_book F) F 20 141 (argsInst padded_ps x) [.o 5 (.int .u8)] kend = padded F x.1 x.2.1 none (fun y0 => kend [BV.o 5 (.int .u8) y0]) := by kernel_rfl
theorem padded_contract  : Contract prog 141 padded_orc := con_of (B0 := padded_book0) zN zG mix_ok zT padded_run (orcsOf_ok (fa dSum_contract fz)) (by kernel_rfl) (fun _ => rfl) padded_loOk (fun x h => (padded_plain x.1 x.2.1 h).elim fun F hF => ⟨F, fun kend => hF none _⟩)
@[reducible] def dMac_ps  : List PM := [.d (.slc (.int .u8)), .d (.slc (.int .u8))]
def dMac_orc  : Orc := Orc.of dMac_ps true 0 fun x => (dMac_P x.1 x.2.1, [.d (.arr 32 (.int .u8)) (dMac_r x.1 x.2.1)])
def dMac_orcs  : List (FuncId × Orc) := [(138, hfinish_orc), (139, hwrite_orc), (140, hNew_orc), (141, padded_orc)]
def dMac_book0  : Book := { Γ := gam, orc := orcsOf dMac_orcs, hint := hintsOf [] }
def dMac_lo (F : Nat) : List (LoE Unit) := []
def dMac_book (F : Nat) : BookL Unit := { toBook := dMac_book0, lo := losOf (dMac_lo F), need := needsOf [] }
theorem dMac_loOk (F : Nat) : LoOk prog (dMac_book F) F := loOk_of (l := dMac_lo F) rfl fz
theorem dMac_run (F : Nat) (x : ArgsT dMac_ps) (kend : List BV → ZO) : runFnL prog (dMac_book F) F 20 103 (argsInst dMac_ps x) [.d (.arr 32 (.int .u8))] kend = dMac F x.1 x.2.1 none (fun y0 => kend [BV.d (.arr 32 (.int .u8)) y0]) := by kernel_rfl
theorem dMac_contract  : Contract prog 103 dMac_orc := con_of (B0 := dMac_book0) zN zG mix_ok zT dMac_run (orcsOf_ok (fa hfinish_contract (fa hwrite_contract (fa hNew_contract (fa padded_contract fz))))) (by kernel_rfl) (fun _ => rfl) dMac_loOk (fun x h => (dMac_plain x.1 x.2.1 h).elim fun F hF => ⟨F, fun kend => hF none _⟩)
@[reducible] def rMac_ps  : List PM := [.d (.slc (.int .u8)), .d (.slc (.int .u8))]
def rMac_orc  : Orc := Orc.of rMac_ps true 0 fun x => (rMac_P x.1 x.2.1, [.d (.arr 32 (.int .u8)) (rMac_r x.1 x.2.1)])
@[reducible] def rMac_l1_T  : Tpl := { cur := ⟨[(1, .var (.slc (.int .u8))), (2, .ptr 0 []), (0, .ptr 1 []), (1, .row 2), (0, .row 3), (0, .var (.int .i64))], 38⟩, stk := [⟨[], 0⟩], heap := [.box (.var (.arr 32 (.int .u8))), .box (.var (.arr 64 (.int .u8))), .row 5 (.int .u8) false, .row 5 (.int .u8) false] }
def rMac_orcs  : List (FuncId × Orc) := [(133, rSum_orc)]
def rMac_book0  : Book := { Γ := gam, orc := orcsOf rMac_orcs, hint := hintsOf [(89, { keep := some [1, 4, 5, 7, 8, 9], keeps := [(8, [1, 4, 5, 7, 8, 9])], own := [(7, 24), (8, 24)], dat := [], stk := [] })] }
def rMac_l1_G (F : Nat) (nx : rMac_l1_T.T → ZO) (kq : ZK) (x : rMac_l1_T.T) : ZO := rMac_l1 F none (fun b i s4 k inner outer => nx ((b, ((), ((), ((), ((), (i, ())))))), (((), ()), (s4, (k, (inner, (outer, ()))))))) (fun y0 y1 y2 y3 y4 y5 => kq (.exit 0) (rMac_l1_T.inst ((y0, ((), ((), ((), ((), (y1, ())))))), (((), ()), (y2, (y3, (y4, (y5, ())))))))) x.1.1 x.1.2.2.2.2.2.1 x.2.2.1 x.2.2.2.1 x.2.2.2.2.1 x.2.2.2.2.2.1
def rMac_l1_R (F m : Nat) (x : rMac_l1_T.T) (kq : ZK) : ZO := rMac_l1F F none (fun y0 y1 y2 y3 y4 y5 => kq (.exit 0) (rMac_l1_T.inst ((y0, ((), ((), ((), ((), (y1, ())))))), (((), ()), (y2, (y3, (y4, (y5, ())))))))) m x.1.1 x.1.2.2.2.2.2.1 x.2.2.1 x.2.2.2.1 x.2.2.2.2.1 x.2.2.2.2.2.1
def rMac_lo (F : Nat) : List (LoE Unit) := [⟨89, 8, LO.of rMac_l1_T (rMac_l1_R F F)⟩]
def rMac_book (F : Nat) : BookL Unit := { toBook := rMac_book0, lo := losOf (rMac_lo F), need := needsOf [] }
theorem rMac_l1_step (F : Nat) : LStep prog (rMac_book F) F 89 0 8 rMac_l1_T (rMac_l1_G F) := fun d x KQ => by kernel_rfl
theorem rMac_loOk (F : Nat) : LoOk prog (rMac_book F) F := loOk_of (l := rMac_lo F) rfl (fa (loOne_of 0 (by kernel_rfl) (by kernel_rfl) (lstep_run (rMac_l1_step F) (fun _ _ => rfl) (fun _ _ _ _ => rfl))) fz)
theorem rMac_run (F : Nat) (x : ArgsT rMac_ps) (kend : List BV → ZO) : runFnL prog (rMac_book F) F 20 89 (argsInst rMac_ps x) [.d (.arr 32 (.int .u8))] kend = rMac F x.1 x.2.1 none (fun y0 => kend [BV.d (.arr 32 (.int .u8)) y0]) := by kernel_rfl
theorem rMac_contract  : Contract prog 89 rMac_orc := con_of (B0 := rMac_book0) zN zG mix_ok zT rMac_run (orcsOf_ok (fa rSum_contract fz)) (by kernel_rfl) (fun _ => rfl) rMac_loOk (fun x h => (rMac_plain x.1 x.2.1 h).elim fun F hF => ⟨F, fun kend => hF none _⟩)
end Go.AI
namespace Go.AI
open Go
open Go.Proofs.Tryz (prog)
set_option linter.unusedVariables false
@[reducible] def rol32_ps  : List PM := [.d (.int .u32), .d (.int .i64)]
def rol32_orc  : Orc := Orc.of rol32_ps true 0 fun x => (rol32_P x.1 x.2.1, [.d (.int .u32) (rol32_r x.1 x.2.1)])
def rol32_orcs  : List (FuncId × Orc) := []
def rol32_book0  : Book := { Γ := gam, orc := orcsOf rol32_orcs, hint := hintsOf [] }
def rol32_lo (F : Nat) : List (LoE Unit) := []
def rol32_book (F : Nat) : BookL Unit := { toBook := rol32_book0, lo := losOf (rol32_lo F), need := needsOf [] }
theorem rol32_loOk (F : Nat) : LoOk prog (rol32_book F) F := loOk_of (l := rol32_lo F) rfl fz
theorem rol32_run (F : Nat) (x : ArgsT rol32_ps) (kend : List BV → ZO) : runFnL prog (rol32_book F) F 20 169 (argsInst rol32_ps x) [.d (.int .u32)] kend = rol32 F x.1 x.2.1 none (fun y0 => kend [BV.d (.int .u32) y0]) := by kernel_rfl
theorem rol32_contract  : Contract prog 169 rol32_orc := con_of (B0 := rol32_book0) zN zG mix_ok zT rol32_run (orcsOf_ok fz) (by kernel_rfl) (fun _ => rfl) rol32_loOk (fun x h => (rol32_plain x.1 x.2.1 h).elim fun F hF => ⟨F, fun kend => hF none _⟩)
@[reducible] def cFirst_ps  : List PM := [.d (.arr 32 (.int .u8)), .d (.int .i64), .d (.int .i64)]
def cFirst_orc  : Orc := Orc.of cFirst_ps true 0 fun x => (cFirst_P x.1 x.2.1 x.2.2.1, [.d (.arr 16 (.int .u32)) (cFirst_r x.1 x.2.1 x.2.2.1)])
@[reducible] def cFirst_l2_T  : Tpl := { cur := ⟨[(1, .var (.int .i64)), (0, .var (.int .i64)), (0, .ptr 0 []), (2, .ptr 1 []), (0, .ptr 2 []), (0, .var (.int .i64)), (2, .var (.int .i64)), (2, .var (.int .i64))], 31⟩, stk := [⟨[], 0⟩], heap := [.box (.var (.arr 32 (.int .u8))), .box (.var (.arr 16 (.int .u32))), .box (.var (.arr 16 (.int .u32)))] }
@[reducible] def cFirst_l1_T  : Tpl := { cur := ⟨[(1, .var (.int .i64)), (0, .var (.int .i64)), (0, .ptr 0 []), (2, .ptr 1 []), (0, .ptr 2 []), (3, .var (.int .i64))], 34⟩, stk := [⟨[], 0⟩], heap := [.box (.var (.arr 32 (.int .u8))), .box (.var (.arr 16 (.int .u32))), .box (.var (.arr 16 (.int .u32)))] }
def cFirst_orcs  : List (FuncId × Orc) := []
def cFirst_book0  : Book := { Γ := gam, orc := orcsOf cFirst_orcs, hint := hintsOf [(143, { keep := some [1, 2, 3, 6, 7, 8, 11, 14], keeps := [(3, [1, 2, 3, 6, 7, 11]), (6, [1, 2, 3, 6, 7, 8, 11, 14])], own := [], dat := [], stk := [] })] }
def cFirst_l2_G (F : Nat) (nx : cFirst_l2_T.T → ZO) (kq : ZK) (x : cFirst_l2_T.T) : ZO := cFirst_l2 F none (fun nonce counter i s11 s14 key s6 w => nx ((nonce, (counter, ((), ((), ((), (i, (s11, (s14, ())))))))), (((), ()), (key, (s6, (w, ())))))) (fun y0 y1 y2 y3 y4 y5 y6 y7 => kq (.exit 2) (cFirst_l2_T.inst ((y0, (y1, ((), ((), ((), (y2, (y3, (y4, ())))))))), (((), ()), (y5, (y6, (y7, ()))))))) x.1.1 x.1.2.1 x.1.2.2.2.2.2.1 x.1.2.2.2.2.2.2.1 x.1.2.2.2.2.2.2.2.1 x.2.2.1 x.2.2.2.1 x.2.2.2.2.1
def cFirst_l2_R (F m : Nat) (x : cFirst_l2_T.T) (kq : ZK) : ZO := cFirst_l2F F none (fun y0 y1 y2 y3 y4 y5 y6 y7 => kq (.exit 2) (cFirst_l2_T.inst ((y0, (y1, ((), ((), ((), (y2, (y3, (y4, ())))))))), (((), ()), (y5, (y6, (y7, ()))))))) m x.1.1 x.1.2.1 x.1.2.2.2.2.2.1 x.1.2.2.2.2.2.2.1 x.1.2.2.2.2.2.2.2.1 x.2.2.1 x.2.2.2.1 x.2.2.2.2.1
def cFirst_l1_G (F : Nat) (nx : cFirst_l1_T.T → ZO) (kq : ZK) (x : cFirst_l1_T.T) : ZO := cFirst_l1 F none (fun nonce counter s11 key s6 w => nx ((nonce, (counter, ((), ((), ((), (s11, ())))))), (((), ()), (key, (s6, (w, ())))))) (fun y0 y1 y2 y3 y4 y5 => kq (.exit 0) (cFirst_l1_T.inst ((y0, (y1, ((), ((), ((), (y2, ())))))), (((), ()), (y3, (y4, (y5, ()))))))) x.1.1 x.1.2.1 x.1.2.2.2.2.2.1 x.2.2.1 x.2.2.2.1 x.2.2.2.2.1
def cFirst_l1_R (F m : Nat) (x : cFirst_l1_T.T) (kq : ZK) : ZO := cFirst_l1F F none (fun y0 y1 y2 y3 y4 y5 => kq (.exit 0) (cFirst_l1_T.inst ((y0, (y1, ((), ((), ((), (y2, ())))))), (((), ()), (y3, (y4, (y5, ()))))))) m x.1.1 x.1.2.1 x.1.2.2.2.2.2.1 x.2.2.1 x.2.2.2.1 x.2.2.2.2.1
def cFirst_lo (F : Nat) : List (LoE Unit) := [⟨143, 6, LO.of cFirst_l2_T (cFirst_l2_R F F)⟩,
 ⟨143, 3, LO.of cFirst_l1_T (cFirst_l1_R F F)⟩]
def cFirst_book (F : Nat) : BookL Unit := { toBook := cFirst_book0, lo := losOf (cFirst_lo F), need := needsOf [] }
theorem cFirst_l2_step (F : Nat) : LStep prog (cFirst_book F) F 143 1 6 cFirst_l2_T (cFirst_l2_G F) := fun d x KQ => by kernel_rfl
theorem cFirst_l1_step (F : Nat) : LStep prog (cFirst_book F) F 143 0 3 cFirst_l1_T (cFirst_l1_G F) := fun d x KQ => by kernel_rfl
theorem cFirst_loOk (F : Nat) : LoOk prog (cFirst_book F) F := loOk_of (l := cFirst_lo F) rfl (fa (loOne_of 1 (by kernel_rfl) (by kernel_rfl) (lstep_run (cFirst_l2_step F) (fun _ _ => rfl) (fun _ _ _ _ => rfl))) (fa (loOne_of 0 (by kernel_rfl) (by kernel_rfl) (lstep_run (cFirst_l1_step F) (fun _ _ => rfl) (fun _ _ _ _ => rfl))) fz))
theorem cFirst_run (F : Nat) (x : ArgsT cFirst_ps) (kend : List BV → ZO) : runFnL prog (cFirst_book F) F 20 143 (argsInst cFirst_ps x) [.d (.arr 16 (.int .u32))] kend = cFirst F x.1 x.2.1 x.2.2.1 none (fun y0 => kend [BV.d (.arr 16 (.int .u32)) y0]) := by kernel_rfl
theorem cFirst_contract  : Contract prog 143 cFirst_orc := con_of (B0 := cFirst_book0) zN zG mix_ok zT cFirst_run (orcsOf_ok fz) (by kernel_rfl) (fun _ => rfl) cFirst_loOk (fun x h => (cFirst_plain x.1 x.2.1 x.2.2.1 h).elim fun F hF => ⟨F, fun kend => hF none _⟩)
@[reducible] def cBlk_ps  : List PM := [.d (.arr 32 (.int .u8)), .d (.int .i64), .d (.int .i64)]
def cBlk_orc  : Orc := Orc.of cBlk_ps true 1 fun x => (cBlk_P x.1 x.2.1 x.2.2.1, [.o 5 (.int .u8) (cBlk_r x.1 x.2.1 x.2.2.1)])
@[reducible] def cBlk_l3_T  : Tpl := { cur := ⟨[(0, .ptr 0 []), (29, .var (.arr 4 (.pair (.int .i64) (.pair (.int .i64) (.pair (.int .i64) (.pair (.int .i64) .unit)))))), (0, .var (.int .i64))], 39⟩, stk := [⟨[(2, .mv 158 (.pr (.ptr 0 []) (.un))), (4, .var (.int .i64)), (1, .var (.int .i64))], 32⟩, ⟨[(7, .ptr 1 []), (0, .ptr 0 [])], 35⟩, ⟨[], 0⟩], heap := [.box (.var (.arr 16 (.int .u32))), .box (.var (.arr 16 (.int .u32)))] }
@[reducible] def cBlk_l2_T  : Tpl := { cur := ⟨[(2, .mv 158 (.pr (.ptr 0 []) (.un))), (4, .var (.int .i64)), (1, .var (.int .i64))], 32⟩, stk := [⟨[(7, .ptr 1 []), (0, .ptr 0 [])], 35⟩, ⟨[], 0⟩], heap := [.box (.var (.arr 16 (.int .u32))), .box (.var (.arr 16 (.int .u32)))] }
@[reducible] def cBlk_l5_T  : Tpl := { cur := ⟨[(0, .ptr 0 []), (29, .var (.arr 4 (.pair (.int .i64) (.pair (.int .i64) (.pair (.int .i64) (.pair (.int .i64) .unit)))))), (0, .var (.int .i64))], 39⟩, stk := [⟨[(2, .mv 158 (.pr (.ptr 0 []) (.un))), (4, .var (.int .i64)), (14, .var (.int .i64))], 19⟩, ⟨[(7, .ptr 1 []), (0, .ptr 0 [])], 35⟩, ⟨[], 0⟩], heap := [.box (.var (.arr 16 (.int .u32))), .box (.var (.arr 16 (.int .u32)))] }
@[reducible] def cBlk_l4_T  : Tpl := { cur := ⟨[(2, .mv 158 (.pr (.ptr 0 []) (.un))), (4, .var (.int .i64)), (14, .var (.int .i64))], 19⟩, stk := [⟨[(7, .ptr 1 []), (0, .ptr 0 [])], 35⟩, ⟨[], 0⟩], heap := [.box (.var (.arr 16 (.int .u32))), .box (.var (.arr 16 (.int .u32)))] }
@[reducible] def cBlk_l1_T  : Tpl := { cur := ⟨[(2, .mv 158 (.pr (.ptr 0 []) (.un))), (4, .var (.int .i64))], 34⟩, stk := [⟨[(7, .ptr 1 []), (0, .ptr 0 [])], 35⟩, ⟨[], 0⟩], heap := [.box (.var (.arr 16 (.int .u32))), .box (.var (.arr 16 (.int .u32)))] }
@[reducible] def cBlk_l6_T  : Tpl := { cur := ⟨[(7, .ptr 0 []), (1, .row 1), (8, .var (.arr 16 (.int .u32))), (0, .var (.int .i64))], 24⟩, stk := [⟨[], 0⟩], heap := [.box (.var (.arr 16 (.int .u32))), .row 5 (.int .u8) false] }
def cBlk_orcs  : List (FuncId × Orc) := [(143, cFirst_orc), (169, rol32_orc)]
def cBlk_book0  : Book := { Γ := gam, orc := orcsOf cBlk_orcs, hint := hintsOf [(106, { keep := some [7, 9, 18, 19], keeps := [(6, [7, 9, 18, 19])], own := [(9, 24)], dat := [], stk := [] }), (144, { keep := some [2, 7, 9, 22], keeps := [(2, [2, 7]), (4, [2, 7, 9]), (9, [2, 7, 22])], own := [], dat := [], stk := [[7, 8]] }), (158, { keep := some [0, 30, 31], keeps := [(2, [0, 30, 31])], own := [], dat := [], stk := [[2, 7, 9, 22], [7, 8]] })] }
def cBlk_l3_G (F : Nat) (nx : cBlk_l3_T.T → ZO) (kq : ZK) (x : cBlk_l3_T.T) : ZO := cBlk_l3 F none (fun s30 s31 s7 s9 w w1 => nx (((), (s30, (s31, ()))), (((((), ()), (s7, (s9, ()))), (((), ((), ())), ((), ()))), (w, (w1, ()))))) (fun y0 y1 y2 y3 y4 y5 => kq (.exit 0) (cBlk_l3_T.inst (((), (y0, (y1, ()))), (((((), ()), (y2, (y3, ()))), (((), ((), ())), ((), ()))), (y4, (y5, ())))))) x.1.2.1 x.1.2.2.1 x.2.1.1.2.1 x.2.1.1.2.2.1 x.2.2.1 x.2.2.2.1
def cBlk_l3_R (F m : Nat) (x : cBlk_l3_T.T) (kq : ZK) : ZO := cBlk_l3F F none (fun y0 y1 y2 y3 y4 y5 => kq (.exit 0) (cBlk_l3_T.inst (((), (y0, (y1, ()))), (((((), ()), (y2, (y3, ()))), (((), ((), ())), ((), ()))), (y4, (y5, ())))))) m x.1.2.1 x.1.2.2.1 x.2.1.1.2.1 x.2.1.1.2.2.1 x.2.2.1 x.2.2.2.1
def cBlk_l2_G (F : Nat) (nx : cBlk_l2_T.T → ZO) (kq : ZK) (x : cBlk_l2_T.T) : ZO := cBlk_l2 F none (fun s7 s9 change w => nx ((((), ()), (s7, (s9, ()))), ((((), ((), ())), ((), ())), (change, (w, ()))))) (fun y0 y1 y2 y3 => kq (.exit 2) (cBlk_l2_T.inst ((((), ()), (y0, (y1, ()))), ((((), ((), ())), ((), ())), (y2, (y3, ())))))) x.1.2.1 x.1.2.2.1 x.2.2.1 x.2.2.2.1
def cBlk_l2_R (F m : Nat) (x : cBlk_l2_T.T) (kq : ZK) : ZO := cBlk_l2F F none (fun y0 y1 y2 y3 => kq (.exit 2) (cBlk_l2_T.inst ((((), ()), (y0, (y1, ()))), ((((), ((), ())), ((), ())), (y2, (y3, ())))))) m x.1.2.1 x.1.2.2.1 x.2.2.1 x.2.2.2.1
def cBlk_l5_G (F : Nat) (nx : cBlk_l5_T.T → ZO) (kq : ZK) (x : cBlk_l5_T.T) : ZO := cBlk_l5 F none (fun s30 s31 s7 s22 w w1 => nx (((), (s30, (s31, ()))), (((((), ()), (s7, (s22, ()))), (((), ((), ())), ((), ()))), (w, (w1, ()))))) (fun y0 y1 y2 y3 y4 y5 => kq (.exit 0) (cBlk_l5_T.inst (((), (y0, (y1, ()))), (((((), ()), (y2, (y3, ()))), (((), ((), ())), ((), ()))), (y4, (y5, ())))))) x.1.2.1 x.1.2.2.1 x.2.1.1.2.1 x.2.1.1.2.2.1 x.2.2.1 x.2.2.2.1
def cBlk_l5_R (F m : Nat) (x : cBlk_l5_T.T) (kq : ZK) : ZO := cBlk_l5F F none (fun y0 y1 y2 y3 y4 y5 => kq (.exit 0) (cBlk_l5_T.inst (((), (y0, (y1, ()))), (((((), ()), (y2, (y3, ()))), (((), ((), ())), ((), ()))), (y4, (y5, ())))))) m x.1.2.1 x.1.2.2.1 x.2.1.1.2.1 x.2.1.1.2.2.1 x.2.2.1 x.2.2.2.1
def cBlk_l4_G (F : Nat) (nx : cBlk_l4_T.T → ZO) (kq : ZK) (x : cBlk_l4_T.T) : ZO := cBlk_l4 F none (fun s7 s22 change w => nx ((((), ()), (s7, (s22, ()))), ((((), ((), ())), ((), ())), (change, (w, ()))))) (fun y0 y1 y2 y3 => kq (.exit 4) (cBlk_l4_T.inst ((((), ()), (y0, (y1, ()))), ((((), ((), ())), ((), ())), (y2, (y3, ())))))) x.1.2.1 x.1.2.2.1 x.2.2.1 x.2.2.2.1
def cBlk_l4_R (F m : Nat) (x : cBlk_l4_T.T) (kq : ZK) : ZO := cBlk_l4F F none (fun y0 y1 y2 y3 => kq (.exit 4) (cBlk_l4_T.inst ((((), ()), (y0, (y1, ()))), ((((), ((), ())), ((), ())), (y2, (y3, ())))))) m x.1.2.1 x.1.2.2.1 x.2.2.1 x.2.2.2.1
def cBlk_l1_G (F : Nat) (nx : cBlk_l1_T.T → ZO) (kq : ZK) (x : cBlk_l1_T.T) : ZO := cBlk_l1 F none (fun s7 change w => nx ((((), ()), (s7, ())), ((((), ((), ())), ((), ())), (change, (w, ()))))) (fun y0 y1 y2 => kq (.exit 0) (cBlk_l1_T.inst ((((), ()), (y0, ())), ((((), ((), ())), ((), ())), (y1, (y2, ())))))) x.1.2.1 x.2.2.1 x.2.2.2.1
def cBlk_l1_R (F m : Nat) (x : cBlk_l1_T.T) (kq : ZK) : ZO := cBlk_l1F F none (fun y0 y1 y2 => kq (.exit 0) (cBlk_l1_T.inst ((((), ()), (y0, ())), ((((), ((), ())), ((), ())), (y1, (y2, ())))))) m x.1.2.1 x.2.2.1 x.2.2.2.1
def cBlk_l6_G (F : Nat) (nx : cBlk_l6_T.T → ZO) (kq : ZK) (x : cBlk_l6_T.T) : ZO := cBlk_l6 F none (fun s18 s19 w out => nx (((), ((), (s18, (s19, ())))), (((), ()), (w, (out, ()))))) (fun y0 y1 y2 y3 => kq (.exit 0) (cBlk_l6_T.inst (((), ((), (y0, (y1, ())))), (((), ()), (y2, (y3, ())))))) x.1.2.2.1 x.1.2.2.2.1 x.2.2.1 x.2.2.2.1
def cBlk_l6_R (F m : Nat) (x : cBlk_l6_T.T) (kq : ZK) : ZO := cBlk_l6F F none (fun y0 y1 y2 y3 => kq (.exit 0) (cBlk_l6_T.inst (((), ((), (y0, (y1, ())))), (((), ()), (y2, (y3, ())))))) m x.1.2.2.1 x.1.2.2.2.1 x.2.2.1 x.2.2.2.1
def cBlk_lo (F : Nat) : List (LoE Unit) := [⟨158, 2, LO.orT cBlk_l3_T (cBlk_l3_R F F) (LO.of cBlk_l5_T (cBlk_l5_R F F))⟩,
 ⟨144, 4, LO.of cBlk_l2_T (cBlk_l2_R F F)⟩,
 ⟨144, 9, LO.of cBlk_l4_T (cBlk_l4_R F F)⟩,
 ⟨144, 2, LO.of cBlk_l1_T (cBlk_l1_R F F)⟩,
 ⟨106, 6, LO.of cBlk_l6_T (cBlk_l6_R F F)⟩]
def cBlk_book (F : Nat) : BookL Unit := { toBook := cBlk_book0, lo := losOf (cBlk_lo F), need := needsOf [(144, 1)] }
theorem cBlk_l3_step (F : Nat) : LStep prog (cBlk_book F) F 158 0 2 cBlk_l3_T (cBlk_l3_G F) := fun d x KQ => by kernel_rfl
theorem cBlk_l2_step (F : Nat) : LStep prog (cBlk_book F) F 144 1 4 cBlk_l2_T (cBlk_l2_G F) := fun d x KQ => by kernel_rfl
theorem cBlk_l5_step (F : Nat) : LStep prog (cBlk_book F) F 158 0 2 cBlk_l5_T (cBlk_l5_G F) := fun d x KQ => by kernel_rfl
theorem cBlk_l4_step (F : Nat) : LStep prog (cBlk_book F) F 144 2 9 cBlk_l4_T (cBlk_l4_G F) := fun d x KQ => by kernel_rfl
theorem cBlk_l1_step (F : Nat) : LStep prog (cBlk_book F) F 144 0 2 cBlk_l1_T (cBlk_l1_G F) := fun d x KQ => by kernel_rfl
theorem cBlk_l6_step (F : Nat) : LStep prog (cBlk_book F) F 106 0 6 cBlk_l6_T (cBlk_l6_G F) := fun d x KQ => by kernel_rfl
theorem cBlk_loOk (F : Nat) : LoOk prog (cBlk_book F) F := loOk_of (l := cBlk_lo F) rfl (fa (loOne_of 0 (by kernel_rfl) (by kernel_rfl) (loIs_orT (lstep_run (cBlk_l3_step F) (fun _ _ => rfl) (fun _ _ _ _ => rfl)) (lstep_run (cBlk_l5_step F) (fun _ _ => rfl) (fun _ _ _ _ => rfl)))) (fa (loOne_of 1 (by kernel_rfl) (by kernel_rfl) (lstep_run (cBlk_l2_step F) (fun _ _ => rfl) (fun _ _ _ _ => rfl))) (fa (loOne_of 2 (by kernel_rfl) (by kernel_rfl) (lstep_run (cBlk_l4_step F) (fun _ _ => rfl) (fun _ _ _ _ => rfl))) (fa (loOne_of 0 (by kernel_rfl) (by kernel_rfl) (lstep_run (cBlk_l1_step F) (fun _ _ => rfl) (fun _ _ _ _ => rfl))) (fa (loOne_of 0 (by kernel_rfl) (by kernel_rfl) (lstep_run (cBlk_l6_step F) (fun _ _ => rfl) (fun _ _ _ _ => rfl))) fz)))))
theorem cBlk_run (F : Nat) (x : ArgsT cBlk_ps) (kend : List BV → ZO) : runFnL prog (cBlk_book F) F 20 106 (argsInst cBlk_ps x) [.o 5 (.int .u8)] kend = cBlk F x.1 x.2.1 x.2.2.1 none (fun y0 => kend [BV.o 5 (.int .u8) y0]) := by kernel_rfl
theorem cBlk_contract  : Contract prog 106 cBlk_orc := con_of (B0 := cBlk_book0) zN zG mix_ok zT cBlk_run (orcsOf_ok (fa cFirst_contract (fa rol32_contract fz))) (by kernel_rfl) (fun _ => rfl) cBlk_loOk (fun x h => (cBlk_plain x.1 x.2.1 x.2.2.1 h).elim fun F hF => ⟨F, fun kend => hF none _⟩)
@[reducible] def cRange_ps  : List PM := [.d (.int .i64)]
def cRange_orc  : Orc := Orc.of cRange_ps true 0 fun x => (true, [.d .bool (cRange_r x.1)])
def cRange_orcs  : List (FuncId × Orc) := []
def cRange_book0  : Book := { Γ := gam, orc := orcsOf cRange_orcs, hint := hintsOf [] }
def cRange_lo (F : Nat) : List (LoE Unit) := []
def cRange_book (F : Nat) : BookL Unit := { toBook := cRange_book0, lo := losOf (cRange_lo F), need := needsOf [] }
theorem cRange_loOk (F : Nat) : LoOk prog (cRange_book F) F := loOk_of (l := cRange_lo F) rfl fz
theorem cRange_run (F : Nat) (x : ArgsT cRange_ps) (kend : List BV → ZO) : runFnL prog (cRange_book F) F 20 104 (argsInst cRange_ps x) [.d .bool] kend = cRange F x.1 none (fun y0 => kend [BV.d .bool y0]) := by kernel_rfl
theorem cRange_contract  : Contract prog 104 cRange_orc := con_of (B0 := cRange_book0) zN zG mix_ok zT cRange_run (orcsOf_ok fz) (by kernel_rfl) (fun _ => rfl) cRange_loOk (fun x _ => (cRange_plain x.1).elim fun F hF => ⟨F, fun kend => hF none _⟩)
@[reducible] def rRotl_ps  : List PM := [.d (.int .u32), .d (.int .i64)]
def rRotl_orc  : Orc := Orc.of rRotl_ps true 0 fun x => (rRotl_P x.1 x.2.1, [.d (.int .u32) (rRotl_r x.1 x.2.1)])
@[reducible] def rRotl_l1_T  : Tpl := { cur := ⟨[(0, .var (.int .u32)), (0, .var (.int .i64)), (3, .var (.int .i64))], 11⟩, stk := [⟨[], 0⟩], heap := [] }
def rRotl_orcs  : List (FuncId × Orc) := []
def rRotl_book0  : Book := { Γ := gam, orc := orcsOf rRotl_orcs, hint := hintsOf [(155, { keep := some [0, 1, 5], keeps := [(2, [0, 1, 5])], own := [], dat := [], stk := [] })] }
def rRotl_l1_G (F : Nat) (nx : rRotl_l1_T.T → ZO) (kq : ZK) (x : rRotl_l1_T.T) : ZO := rRotl_l1 F none (fun x_ n i => nx ((x_, (n, (i, ()))), (((), ()), ()))) (fun y0 y1 y2 => kq (.exit 0) (rRotl_l1_T.inst ((y0, (y1, (y2, ()))), (((), ()), ())))) x.1.1 x.1.2.1 x.1.2.2.1
def rRotl_l1_R (F m : Nat) (x : rRotl_l1_T.T) (kq : ZK) : ZO := rRotl_l1F F none (fun y0 y1 y2 => kq (.exit 0) (rRotl_l1_T.inst ((y0, (y1, (y2, ()))), (((), ()), ())))) m x.1.1 x.1.2.1 x.1.2.2.1
def rRotl_lo (F : Nat) : List (LoE Unit) := [⟨155, 2, LO.of rRotl_l1_T (rRotl_l1_R F F)⟩]
def rRotl_book (F : Nat) : BookL Unit := { toBook := rRotl_book0, lo := losOf (rRotl_lo F), need := needsOf [] }
theorem rRotl_l1_step (F : Nat) : LStep prog (rRotl_book F) F 155 0 2 rRotl_l1_T (rRotl_l1_G F) := fun d x KQ => by kernel_rfl
theorem rRotl_loOk (F : Nat) : LoOk prog (rRotl_book F) F := loOk_of (l := rRotl_lo F) rfl (fa (loOne_of 0 (by kernel_rfl) (by kernel_rfl) (lstep_run (rRotl_l1_step F) (fun _ _ => rfl) (fun _ _ _ _ => rfl))) fz)
theorem rRotl_run (F : Nat) (x : ArgsT rRotl_ps) (kend : List BV → ZO) : runFnL prog (rRotl_book F) F 20 155 (argsInst rRotl_ps x) [.d (.int .u32)] kend = rRotl F x.1 x.2.1 none (fun y0 => kend [BV.d (.int .u32) y0]) := by kernel_rfl
theorem rRotl_contract  : Contract prog 155 rRotl_orc := con_of (B0 := rRotl_book0) zN zG mix_ok zT rRotl_run (orcsOf_ok fz) (by kernel_rfl) (fun _ => rfl) rRotl_loOk (fun x h => (rRotl_plain x.1 x.2.1 h).elim fun F hF => ⟨F, fun kend => hF none _⟩)
@[reducible] def rWords_ps  : List PM := [.d (.arr 32 (.int .u8)), .d (.int .i64), .d (.int .i64)]
def rWords_orc  : Orc := Orc.of rWords_ps true 1 fun x => (rWords_P x.1 x.2.1 x.2.2.1, [.o 173 (.int .u32) (rWords_r x.1 x.2.1 x.2.2.1)])
@[reducible] def rWords_l1_T  : Tpl := { cur := ⟨[(1, .var (.int .i64)), (0, .var (.int .i64)), (0, .ptr 0 []), (3, .row 1), (0, .var (.int .i64))], 48⟩, stk := [⟨[], 0⟩], heap := [.box (.var (.arr 32 (.int .u8))), .row 173 (.int .u32) false] }
def rWords_orcs  : List (FuncId × Orc) := []
def rWords_book0  : Book := { Γ := gam, orc := orcsOf rWords_orcs, hint := hintsOf [(134, { keep := some [1, 2, 3, 7, 8], keeps := [(3, [1, 2, 3, 7, 8])], own := [], dat := [], stk := [] })] }
def rWords_l1_G (F : Nat) (nx : rWords_l1_T.T → ZO) (kq : ZK) (x : rWords_l1_T.T) : ZO := rWords_l1 F none (fun nonce counter i key w => nx ((nonce, (counter, ((), ((), (i, ()))))), (((), ()), (key, (w, ()))))) (fun y0 y1 y2 y3 y4 => kq (.exit 0) (rWords_l1_T.inst ((y0, (y1, ((), ((), (y2, ()))))), (((), ()), (y3, (y4, ())))))) x.1.1 x.1.2.1 x.1.2.2.2.2.1 x.2.2.1 x.2.2.2.1
def rWords_l1_R (F m : Nat) (x : rWords_l1_T.T) (kq : ZK) : ZO := rWords_l1F F none (fun y0 y1 y2 y3 y4 => kq (.exit 0) (rWords_l1_T.inst ((y0, (y1, ((), ((), (y2, ()))))), (((), ()), (y3, (y4, ())))))) m x.1.1 x.1.2.1 x.1.2.2.2.2.1 x.2.2.1 x.2.2.2.1
def rWords_lo (F : Nat) : List (LoE Unit) := [⟨134, 3, LO.of rWords_l1_T (rWords_l1_R F F)⟩]
def rWords_book (F : Nat) : BookL Unit := { toBook := rWords_book0, lo := losOf (rWords_lo F), need := needsOf [] }
theorem rWords_l1_step (F : Nat) : LStep prog (rWords_book F) F 134 0 3 rWords_l1_T (rWords_l1_G F) := fun d x KQ => by kernel_rfl
theorem rWords_loOk (F : Nat) : LoOk prog (rWords_book F) F := loOk_of (l := rWords_lo F) rfl (fa (loOne_of 0 (by kernel_rfl) (by kernel_rfl) (lstep_run (rWords_l1_step F) (fun _ _ => rfl) (fun _ _ _ _ => rfl))) fz)
theorem rWords_run (F : Nat) (x : ArgsT rWords_ps) (kend : List BV → ZO) : runFnL prog (rWords_book F) F 20 134 (argsInst rWords_ps x) [.o 173 (.int .u32)] kend = rWords F x.1 x.2.1 x.2.2.1 none (fun y0 => kend [BV.o 173 (.int .u32) y0]) := by kernel_rfl
theorem rWords_contract  : Contract prog 134 rWords_orc := con_of (B0 := rWords_book0) zN zG mix_ok zT rWords_run (orcsOf_ok fz) (by kernel_rfl) (fun _ => rfl) rWords_loOk (fun x h => (rWords_plain x.1 x.2.1 x.2.2.1 h).elim fun F hF => ⟨F, fun kend => hF none _⟩)
@[reducible] def rLittle_ps  : List PM := [.d (.int .i64), .d (.int .i64)]
def rLittle_orc  : Orc := Orc.of rLittle_ps true 1 fun x => (rLittle_P x.1 x.2.1, [.o 5 (.int .u8) (rLittle_r x.1 x.2.1)])
@[reducible] def rLittle_l1_T  : Tpl := { cur := ⟨[(0, .var (.int .i64)), (0, .var (.int .i64)), (3, .row 0), (0, .var (.int .i64))], 14⟩, stk := [⟨[], 0⟩], heap := [.row 5 (.int .u8) false] }
def rLittle_orcs  : List (FuncId × Orc) := []
def rLittle_book0  : Book := { Γ := gam, orc := orcsOf rLittle_orcs, hint := hintsOf [(90, { keep := some [0, 1, 5, 6], keeps := [(3, [0, 1, 5, 6])], own := [(5, 24)], dat := [], stk := [] })] }
def rLittle_l1_G (F : Nat) (nx : rLittle_l1_T.T → ZO) (kq : ZK) (x : rLittle_l1_T.T) : ZO := rLittle_l1 F none (fun n bytes i out => nx ((n, (bytes, ((), (i, ())))), (((), ()), (out, ())))) (fun y0 y1 y2 y3 => kq (.exit 0) (rLittle_l1_T.inst ((y0, (y1, ((), (y2, ())))), (((), ()), (y3, ()))))) x.1.1 x.1.2.1 x.1.2.2.2.1 x.2.2.1
def rLittle_l1_R (F m : Nat) (x : rLittle_l1_T.T) (kq : ZK) : ZO := rLittle_l1F F none (fun y0 y1 y2 y3 => kq (.exit 0) (rLittle_l1_T.inst ((y0, (y1, ((), (y2, ())))), (((), ()), (y3, ()))))) m x.1.1 x.1.2.1 x.1.2.2.2.1 x.2.2.1
def rLittle_lo (F : Nat) : List (LoE Unit) := [⟨90, 3, LO.of rLittle_l1_T (rLittle_l1_R F F)⟩]
def rLittle_book (F : Nat) : BookL Unit := { toBook := rLittle_book0, lo := losOf (rLittle_lo F), need := needsOf [] }
theorem rLittle_l1_step (F : Nat) : LStep prog (rLittle_book F) F 90 0 3 rLittle_l1_T (rLittle_l1_G F) := fun d x KQ => by kernel_rfl
theorem rLittle_loOk (F : Nat) : LoOk prog (rLittle_book F) F := loOk_of (l := rLittle_lo F) rfl (fa (loOne_of 0 (by kernel_rfl) (by kernel_rfl) (lstep_run (rLittle_l1_step F) (fun _ _ => rfl) (fun _ _ _ _ => rfl))) fz)
theorem rLittle_run (F : Nat) (x : ArgsT rLittle_ps) (kend : List BV → ZO) : runFnL prog (rLittle_book F) F 20 90 (argsInst rLittle_ps x) [.o 5 (.int .u8)] kend = rLittle F x.1 x.2.1 none (fun y0 => kend [BV.o 5 (.int .u8) y0]) := by kernel_rfl
theorem rLittle_contract  : Contract prog 90 rLittle_orc := con_of (B0 := rLittle_book0) zN zG mix_ok zT rLittle_run (orcsOf_ok fz) (by kernel_rfl) (fun _ => rfl) rLittle_loOk (fun x h => (rLittle_plain x.1 x.2.1 h).elim fun F hF => ⟨F, fun kend => hF none _⟩)
@[reducible] def rNonces_ps  : List PM := [.d (.int .i64)]
def rNonces_orc  : Orc := Orc.of rNonces_ps true 0 fun x => (true, [.d .bool (rNonces_r x.1)])
def rNonces_orcs  : List (FuncId × Orc) := []
def rNonces_book0  : Book := { Γ := gam, orc := orcsOf rNonces_orcs, hint := hintsOf [] }
def rNonces_lo (F : Nat) : List (LoE Unit) := []
def rNonces_book (F : Nat) : BookL Unit := { toBook := rNonces_book0, lo := losOf (rNonces_lo F), need := needsOf [] }
theorem rNonces_loOk (F : Nat) : LoOk prog (rNonces_book F) F := loOk_of (l := rNonces_lo F) rfl fz
theorem rNonces_run (F : Nat) (x : ArgsT rNonces_ps) (kend : List BV → ZO) : runFnL prog (rNonces_book F) F 20 42 (argsInst rNonces_ps x) [.d .bool] kend = rNonces F x.1 none (fun y0 => kend [BV.d .bool y0]) := by kernel_rfl
theorem rNonces_contract  : Contract prog 42 rNonces_orc := con_of (B0 := rNonces_book0) zN zG mix_ok zT rNonces_run (orcsOf_ok fz) (by kernel_rfl) (fun _ => rfl) rNonces_loOk (fun x _ => (rNonces_plain x.1).elim fun F hF => ⟨F, fun kend => hF none _⟩)
@[reducible] def rBlock_ps  : List PM := [.d (.arr 32 (.int .u8)), .d (.int .i64), .d (.int .i64)]
def rBlock_orc  : Orc := Orc.of rBlock_ps true 1 fun x => (rBlock_P x.1 x.2.1 x.2.2.1, [.o 5 (.int .u8) (rBlock_r0 x.1 x.2.1 x.2.2.1), .d (.int .i64) (rBlock_r1 x.1 x.2.1 x.2.2.1)])
@[reducible] def rBlock_l2_T  : Tpl := { cur := ⟨[(8, .row 0), (0, .row 1), (0, .var (.int .i64)), (0, .var (.int .i64))], 76⟩, stk := [⟨[], 0⟩], heap := [.row 173 (.int .u32) false, .row 173 (.int .u32) false] }
@[reducible] def rBlock_l3_T  : Tpl := { cur := ⟨[(8, .row 0), (0, .row 1), (0, .var (.int .i64)), (1, .var (.int .i64))], 75⟩, stk := [⟨[], 0⟩], heap := [.row 173 (.int .u32) false, .row 173 (.int .u32) false] }
@[reducible] def rBlock_l1_T  : Tpl := { cur := ⟨[(8, .row 0), (0, .row 1), (0, .var (.int .i64))], 77⟩, stk := [⟨[], 0⟩], heap := [.row 173 (.int .u32) false, .row 173 (.int .u32) false] }
@[reducible] def rBlock_l4_T  : Tpl := { cur := ⟨[(8, .row 0), (0, .row 1), (3, .row 2), (0, .var (.int .i64))], 73⟩, stk := [⟨[], 0⟩], heap := [.row 173 (.int .u32) false, .row 173 (.int .u32) false, .row 5 (.int .u8) false] }
def rBlock_orcs  : List (FuncId × Orc) := [(42, rNonces_orc), (90, rLittle_orc), (134, rWords_orc), (155, rRotl_orc)]
def rBlock_book0  : Book := { Γ := gam, orc := orcsOf rBlock_orcs, hint := hintsOf [(91, { keep := some [8, 9, 10, 11, 12, 13, 14], keeps := [(5, [8, 9, 10]), (8, [8, 9, 10, 11]), (12, [8, 9, 10, 12]), (17, [8, 9, 13, 14])], own := [(13, 24)], dat := [], stk := [] })] }
def rBlock_l2_G (F : Nat) (nx : rBlock_l2_T.T → ZO) (kq : ZK) (x : rBlock_l2_T.T) : ZO := rBlock_l2 F none (fun i k before w => nx (((), ((), (i, (k, ())))), (((), ()), (before, (w, ()))))) (fun y0 y1 y2 y3 => kq (.exit 2) (rBlock_l2_T.inst (((), ((), (y0, (y1, ())))), (((), ()), (y2, (y3, ())))))) x.1.2.2.1 x.1.2.2.2.1 x.2.2.1 x.2.2.2.1
def rBlock_l2_R (F m : Nat) (x : rBlock_l2_T.T) (kq : ZK) : ZO := rBlock_l2F F none (fun y0 y1 y2 y3 => kq (.exit 2) (rBlock_l2_T.inst (((), ((), (y0, (y1, ())))), (((), ()), (y2, (y3, ())))))) m x.1.2.2.1 x.1.2.2.2.1 x.2.2.1 x.2.2.2.1
def rBlock_l3_G (F : Nat) (nx : rBlock_l3_T.T → ZO) (kq : ZK) (x : rBlock_l3_T.T) : ZO := rBlock_l3 F none (fun i k before w => nx (((), ((), (i, (k, ())))), (((), ()), (before, (w, ()))))) (fun y0 y1 y2 y3 => kq (.exit 4) (rBlock_l3_T.inst (((), ((), (y0, (y1, ())))), (((), ()), (y2, (y3, ())))))) x.1.2.2.1 x.1.2.2.2.1 x.2.2.1 x.2.2.2.1
def rBlock_l3_R (F m : Nat) (x : rBlock_l3_T.T) (kq : ZK) : ZO := rBlock_l3F F none (fun y0 y1 y2 y3 => kq (.exit 4) (rBlock_l3_T.inst (((), ((), (y0, (y1, ())))), (((), ()), (y2, (y3, ())))))) m x.1.2.2.1 x.1.2.2.2.1 x.2.2.1 x.2.2.2.1
def rBlock_l1_G (F : Nat) (nx : rBlock_l1_T.T → ZO) (kq : ZK) (x : rBlock_l1_T.T) : ZO := rBlock_l1 F none (fun i before w => nx (((), ((), (i, ()))), (((), ()), (before, (w, ()))))) (fun y0 y1 y2 => kq (.exit 0) (rBlock_l1_T.inst (((), ((), (y0, ()))), (((), ()), (y1, (y2, ())))))) x.1.2.2.1 x.2.2.1 x.2.2.2.1
def rBlock_l1_R (F m : Nat) (x : rBlock_l1_T.T) (kq : ZK) : ZO := rBlock_l1F F none (fun y0 y1 y2 => kq (.exit 0) (rBlock_l1_T.inst (((), ((), (y0, ()))), (((), ()), (y1, (y2, ())))))) m x.1.2.2.1 x.2.2.1 x.2.2.2.1
def rBlock_l4_G (F : Nat) (nx : rBlock_l4_T.T → ZO) (kq : ZK) (x : rBlock_l4_T.T) : ZO := rBlock_l4 F none (fun i before w out => nx (((), ((), ((), (i, ())))), (((), ()), (before, (w, (out, ())))))) (fun y0 y1 y2 y3 => kq (.exit 6) (rBlock_l4_T.inst (((), ((), ((), (y0, ())))), (((), ()), (y1, (y2, (y3, ()))))))) x.1.2.2.2.1 x.2.2.1 x.2.2.2.1 x.2.2.2.2.1
def rBlock_l4_R (F m : Nat) (x : rBlock_l4_T.T) (kq : ZK) : ZO := rBlock_l4F F none (fun y0 y1 y2 y3 => kq (.exit 6) (rBlock_l4_T.inst (((), ((), ((), (y0, ())))), (((), ()), (y1, (y2, (y3, ()))))))) m x.1.2.2.2.1 x.2.2.1 x.2.2.2.1 x.2.2.2.2.1
def rBlock_lo (F : Nat) : List (LoE Unit) := [⟨91, 8, LO.of rBlock_l2_T (rBlock_l2_R F F)⟩,
 ⟨91, 12, LO.of rBlock_l3_T (rBlock_l3_R F F)⟩,
 ⟨91, 5, LO.of rBlock_l1_T (rBlock_l1_R F F)⟩,
 ⟨91, 17, LO.of rBlock_l4_T (rBlock_l4_R F F)⟩]
def rBlock_book (F : Nat) : BookL Unit := { toBook := rBlock_book0, lo := losOf (rBlock_lo F), need := needsOf [(91, 1)] }
theorem rBlock_l2_step (F : Nat) : LStep prog (rBlock_book F) F 91 1 8 rBlock_l2_T (rBlock_l2_G F) := fun d x KQ => by kernel_rfl
theorem rBlock_l3_step (F : Nat) : LStep prog (rBlock_book F) F 91 2 12 rBlock_l3_T (rBlock_l3_G F) := fun d x KQ => by kernel_rfl
theorem rBlock_l1_step (F : Nat) : LStep prog (rBlock_book F) F 91 0 5 rBlock_l1_T (rBlock_l1_G F) := fun d x KQ => by kernel_rfl
theorem rBlock_l4_step (F : Nat) : LStep prog (rBlock_book F) F 91 3 17 rBlock_l4_T (rBlock_l4_G F) := fun d x KQ => by kernel_rfl
theorem rBlock_loOk (F : Nat) : LoOk prog (rBlock_book F) F := loOk_of (l := rBlock_lo F) rfl (fa (loOne_of 1 (by kernel_rfl) (by kernel_rfl) (lstep_run (rBlock_l2_step F) (fun _ _ => rfl) (fun _ _ _ _ => rfl))) (fa (loOne_of 2 (by kernel_rfl) (by kernel_rfl) (lstep_run (rBlock_l3_step F) (fun _ _ => rfl) (fun _ _ _ _ => rfl))) (fa (loOne_of 0 (by kernel_rfl) (by kernel_rfl) (lstep_run (rBlock_l1_step F) (fun _ _ => rfl) (fun _ _ _ _ => rfl))) (fa (loOne_of 3 (by kernel_rfl) (by kernel_rfl) (lstep_run (rBlock_l4_step F) (fun _ _ => rfl) (fun _ _ _ _ => rfl))) fz))))
theorem rBlock_run (F : Nat) (x : ArgsT rBlock_ps) (kend : List BV → ZO) : runFnL prog (rBlock_book F) F 20 91 (argsInst rBlock_ps x) [.o 5 (.int .u8), .d (.int .i64)] kend = rBlock F x.1 x.2.1 x.2.2.1 none (fun y0 y1 => kend [BV.o 5 (.int .u8) y0, BV.d (.int .i64) y1]) := by kernel_rfl
theorem rBlock_contract  : Contract prog 91 rBlock_orc := con_of (B0 := rBlock_book0) zN zG mix_ok zT rBlock_run (orcsOf_ok (fa rNonces_contract (fa rLittle_contract (fa rWords_contract (fa rRotl_contract fz))))) (by kernel_rfl) (fun _ => rfl) rBlock_loOk (fun x h => (rBlock_plain x.1 x.2.1 x.2.2.1 h).elim fun F hF => ⟨F, fun kend => hF none _⟩)
end Go.AI
namespace Go.AI
open Go
open Go.Proofs.Tryz (prog)
set_option linter.unusedVariables false
@[reducible] def cStream_ps  : List PM := [.d (.arr 32 (.int .u8)), .d (.int .i64), .d (.slc (.int .u8))]
def cStream_orc  : Orc := Orc.of cStream_ps true 1 fun x => (cStream_P x.1 x.2.1 x.2.2.1, [.o 5 (.int .u8) (cStream_r0 x.1 x.2.1 x.2.2.1), .d (.int .i64) (cStream_r1 x.1 x.2.1 x.2.2.1)])
@[reducible] def cStream_l2_T  : Tpl := { cur := ⟨[(9, .ptr 0 []), (0, .sl 1), (0, .row 2), (19, .var (.int .i64)), (0, .var (.int .i64))], 16⟩, stk := [⟨[(0, .hnd .yield 3)], 0⟩, ⟨[(0, .hnd .yield 3), (0, .ptr 6 []), (0, .ptr 7 []), (1, .var (.int .i64))], 26⟩, ⟨[(0, .hnd .yield 3)], 0⟩, ⟨[(2, .var (.slc (.int .u8))), (0, .ptr 4 []), (0, .ptr 5 []), (1, .nils), (0, .var (.int .i64)), (0, .row 1), (0, .ptr 0 [])], 39⟩, ⟨[], 0⟩], heap := [.box (.var (.int .i64)), .row 5 (.int .u8) false, .row 5 (.int .u8) false, .lp 56 8 ⟨[(3, .ptr 4 []), (0, .ptr 5 []), (4, .ptr 0 [])], 39⟩ .busy, .box (.var (.arr 32 (.int .u8))), .box (.var (.int .i64)), .box (.row 1), .box (.var (.int .i64))] }
@[reducible] def cStream_l1_T  : Tpl := { cur := ⟨[(0, .hnd .yield 0), (0, .ptr 4 []), (0, .ptr 6 []), (1, .var (.int .i64))], 26⟩, stk := [⟨[(0, .hnd .yield 0)], 0⟩, ⟨[(2, .var (.slc (.int .u8))), (0, .ptr 1 []), (0, .ptr 2 []), (1, .nils), (0, .var (.int .i64)), (0, .row 5), (0, .ptr 3 [])], 39⟩, ⟨[], 0⟩], heap := [.lp 56 8 ⟨[(3, .ptr 1 []), (0, .ptr 2 []), (4, .ptr 3 [])], 39⟩ .ready, .box (.var (.arr 32 (.int .u8))), .box (.var (.int .i64)), .box (.var (.int .i64)), .box (.row 5), .row 5 (.int .u8) false, .box (.var (.int .i64))] }
def cStream_orcs  : List (FuncId × Orc) := [(100, clone_byte_orc), (104, cRange_orc), (106, cBlk_orc)]
def cStream_book0  : Book := { Γ := gam, orc := orcsOf cStream_orcs, hint := hintsOf [(56, { keep := some [9, 10, 11, 31, 32], keeps := [(11, [9, 10, 11, 31, 32])], own := [], dat := [], stk := [[0], [0, 1, 2, 4], [0], [2, 3, 4, 6, 7, 8, 9, 10, 11, 12, 25, 31, 32, 33]] }), (142, { keep := some [0, 1, 2, 4], keeps := [(1, [0, 1, 2, 4])], own := [], dat := [], stk := [[0], [2, 3, 4, 6, 7, 8, 9, 10, 11, 12, 25, 31, 32, 33]] })] }
def cStream_l2_G (F : Nat) (nx : cStream_l2_T.T → ZO) (kq : ZK) (x : cStream_l2_T.T) : ZO := cStream_l2 F none (fun part_i part_n s31 s32 i b s7 counter part s key nonce s2 => nx (((), ((part_i, part_n), ((), (s31, (s32, ()))))), ((((), ()), (((), ((), ((), (i, ())))), (((), ()), ((b, ((), ((), ((), (s7, ((), ((), ()))))))), ((), ()))))), (counter, (part, (s, (((), ((), ((), ()))), (key, (nonce, ((), (s2, ()))))))))))) (fun y0 y1 y2 y3 y4 y5 y6 y7 y8 y9 y10 y11 y12 => kq (.exit 3) (cStream_l2_T.inst (((), ((y0, y1), ((), (y2, (y3, ()))))), ((((), ()), (((), ((), ((), (y4, ())))), (((), ()), ((y5, ((), ((), ((), (y6, ((), ((), ()))))))), ((), ()))))), (y7, (y8, (y9, (((), ((), ((), ()))), (y10, (y11, ((), (y12, ())))))))))))) x.1.2.1.1 x.1.2.1.2 x.1.2.2.2.1 x.1.2.2.2.2.1 x.2.1.2.1.2.2.2.1 x.2.1.2.2.2.1.1 x.2.1.2.2.2.1.2.2.2.2.1 x.2.2.1 x.2.2.2.1 x.2.2.2.2.1 x.2.2.2.2.2.2.1 x.2.2.2.2.2.2.2.1 x.2.2.2.2.2.2.2.2.2.1
def cStream_l2_R (F m : Nat) (x : cStream_l2_T.T) (kq : ZK) : ZO := cStream_l2F F none (fun y0 y1 y2 y3 y4 y5 y6 y7 y8 y9 y10 y11 y12 => kq (.exit 3) (cStream_l2_T.inst (((), ((y0, y1), ((), (y2, (y3, ()))))), ((((), ()), (((), ((), ((), (y4, ())))), (((), ()), ((y5, ((), ((), ((), (y6, ((), ((), ()))))))), ((), ()))))), (y7, (y8, (y9, (((), ((), ((), ()))), (y10, (y11, ((), (y12, ())))))))))))) m x.1.2.1.1 x.1.2.1.2 x.1.2.2.2.1 x.1.2.2.2.2.1 x.2.1.2.1.2.2.2.1 x.2.1.2.2.2.1.1 x.2.1.2.2.2.1.2.2.2.2.1 x.2.2.1 x.2.2.2.1 x.2.2.2.2.1 x.2.2.2.2.2.2.1 x.2.2.2.2.2.2.2.1 x.2.2.2.2.2.2.2.2.2.1
def cStream_l1_G (F : Nat) (nx : cStream_l1_T.T → ZO) (kq : ZK) (x : cStream_l1_T.T) : ZO := cStream_l1 F none (fun i b s7 key nonce counter out s2 => nx (((), ((), ((), (i, ())))), ((((), ()), ((b, ((), ((), ((), (s7, ((), ((), ()))))))), ((), ()))), (((), ((), ((), ()))), (key, (nonce, (counter, ((), (out, (s2, ())))))))))) (fun y0 y1 y2 y3 y4 y5 y6 y7 => kq (.exit 0) (cStream_l1_T.inst (((), ((), ((), (y0, ())))), ((((), ()), ((y1, ((), ((), ((), (y2, ((), ((), ()))))))), ((), ()))), (((), ((), ((), ()))), (y3, (y4, (y5, ((), (y6, (y7, ()))))))))))) x.1.2.2.2.1 x.2.1.2.1.1 x.2.1.2.1.2.2.2.2.1 x.2.2.2.1 x.2.2.2.2.1 x.2.2.2.2.2.1 x.2.2.2.2.2.2.2.1 x.2.2.2.2.2.2.2.2.1
def cStream_l1_R (F m : Nat) (x : cStream_l1_T.T) (kq : ZK) : ZO := cStream_l1F F none (fun y0 y1 y2 y3 y4 y5 y6 y7 => kq (.exit 0) (cStream_l1_T.inst (((), ((), ((), (y0, ())))), ((((), ()), ((y1, ((), ((), ((), (y2, ((), ((), ()))))))), ((), ()))), (((), ((), ((), ()))), (y3, (y4, (y5, ((), (y6, (y7, ()))))))))))) m x.1.2.2.2.1 x.2.1.2.1.1 x.2.1.2.1.2.2.2.2.1 x.2.2.2.1 x.2.2.2.2.1 x.2.2.2.2.2.1 x.2.2.2.2.2.2.2.1 x.2.2.2.2.2.2.2.2.1
def cStream_lo (F : Nat) : List (LoE Unit) := [⟨56, 11, LO.of cStream_l2_T (cStream_l2_R F F)⟩,
 ⟨142, 1, LO.of cStream_l1_T (cStream_l1_R F F)⟩]
def cStream_book (F : Nat) : BookL Unit := { toBook := cStream_book0, lo := losOf (cStream_lo F), need := needsOf [(142, 1)] }
theorem cStream_l2_step (F : Nat) : LStep prog (cStream_book F) F 56 0 11 cStream_l2_T (cStream_l2_G F) := fun d x KQ => by kernel_rfl
theorem cStream_l1_step (F : Nat) : LStep prog (cStream_book F) F 142 0 1 cStream_l1_T (cStream_l1_G F) := fun d x KQ => by kernel_rfl
theorem cStream_loOk (F : Nat) : LoOk prog (cStream_book F) F := loOk_of (l := cStream_lo F) rfl (fa (loOne_of 0 (by kernel_rfl) (by kernel_rfl) (lstep_run (cStream_l2_step F) (fun _ _ => rfl) (fun _ _ _ _ => rfl))) (fa (loOne_of 0 (by kernel_rfl) (by kernel_rfl) (lstep_run (cStream_l1_step F) (fun _ _ => rfl) (fun _ _ _ _ => rfl))) fz))
theorem cStream_run (F : Nat) (x : ArgsT cStream_ps) (kend : List BV → ZO) : runFnL prog (cStream_book F) F 20 56 (argsInst cStream_ps x) [.o 5 (.int .u8), .d (.int .i64)] kend = cStream F x.1 x.2.1 x.2.2.1 none (fun y0 y1 => kend [BV.o 5 (.int .u8) y0, BV.d (.int .i64) y1]) := by kernel_rfl
theorem cStream_contract  : Contract prog 56 cStream_orc := con_of (B0 := cStream_book0) zN zG mix_ok zT cStream_run (orcsOf_ok (fa clone_byte_contract (fa cRange_contract (fa cBlk_contract fz)))) (by kernel_rfl) (fun _ => rfl) cStream_loOk (fun x h => (cStream_plain x.1 x.2.1 x.2.2.1 h).elim fun F hF => ⟨F, fun kend => hF none _⟩)
@[reducible] def cKeys_ps  : List PM := [.d (.slc (.int .u8))]
def cKeys_orc  : Orc := Orc.of cKeys_ps true 0 fun x => (cKeys_P x.1, [.d (.arr 32 (.int .u8)) (cKeys_r0 x.1), .d (.arr 32 (.int .u8)) (cKeys_r1 x.1)])
def cKeys_orcs  : List (FuncId × Orc) := [(103, dMac_orc)]
def cKeys_book0  : Book := { Γ := gam, orc := orcsOf cKeys_orcs, hint := hintsOf [] }
def cKeys_lo (F : Nat) : List (LoE Unit) := []
def cKeys_book (F : Nat) : BookL Unit := { toBook := cKeys_book0, lo := losOf (cKeys_lo F), need := needsOf [] }
theorem cKeys_loOk (F : Nat) : LoOk prog (cKeys_book F) F := loOk_of (l := cKeys_lo F) rfl fz
theorem cKeys_run (F : Nat) (x : ArgsT cKeys_ps) (kend : List BV → ZO) : runFnL prog (cKeys_book F) F 20 55 (argsInst cKeys_ps x) [.d (.arr 32 (.int .u8)), .d (.arr 32 (.int .u8))] kend = cKeys F x.1 none (fun y0 y1 => kend [BV.d (.arr 32 (.int .u8)) y0, BV.d (.arr 32 (.int .u8)) y1]) := by kernel_rfl
theorem cKeys_contract  : Contract prog 55 cKeys_orc := con_of (B0 := cKeys_book0) zN zG mix_ok zT cKeys_run (orcsOf_ok (fa dMac_contract fz)) (by kernel_rfl) (fun _ => rfl) cKeys_loOk (fun x h => (cKeys_plain x.1 h).elim fun F hF => ⟨F, fun kend => hF none _⟩)
@[reducible] def cUsable_ps  : List PM := [.d (.slc (.int .u8))]
def cUsable_orc  : Orc := Orc.of cUsable_ps true 0 fun x => (true, [.d .bool (cUsable_r x.1)])
def cUsable_orcs  : List (FuncId × Orc) := []
def cUsable_book0  : Book := { Γ := gam, orc := orcsOf cUsable_orcs, hint := hintsOf [] }
def cUsable_lo (F : Nat) : List (LoE Unit) := []
def cUsable_book (F : Nat) : BookL Unit := { toBook := cUsable_book0, lo := losOf (cUsable_lo F), need := needsOf [] }
theorem cUsable_loOk (F : Nat) : LoOk prog (cUsable_book F) F := loOk_of (l := cUsable_lo F) rfl fz
theorem cUsable_run (F : Nat) (x : ArgsT cUsable_ps) (kend : List BV → ZO) : runFnL prog (cUsable_book F) F 20 54 (argsInst cUsable_ps x) [.d .bool] kend = cUsable F x.1 none (fun y0 => kend [BV.d .bool y0]) := by kernel_rfl
theorem cUsable_contract  : Contract prog 54 cUsable_orc := con_of (B0 := cUsable_book0) zN zG mix_ok zT cUsable_run (orcsOf_ok fz) (by kernel_rfl) (fun _ => rfl) cUsable_loOk (fun x _ => (cUsable_plain x.1).elim fun F hF => ⟨F, fun kend => hF none _⟩)
@[reducible] def cSeal_ps  : List PM := [.d (.slc (.int .u8)), .d (.int .i64), .d (.slc (.int .u8))]
def cSeal_orc  : Orc := Orc.of cSeal_ps true 1 fun x => (cSeal_P x.1 x.2.1 x.2.2.1, [.o 5 (.int .u8) (cSeal_r0 x.1 x.2.1 x.2.2.1), .d (.int .i64) (cSeal_r1 x.1 x.2.1 x.2.2.1)])
@[reducible] def cSeal_l1_T  : Tpl := { cur := ⟨[(1, .var (.int .i64)), (0, .row 0), (0, .ptr 1 []), (3, .row 2), (2, .var (.int .i64))], 17⟩, stk := [⟨[(0, .var (.slc (.int .u8))), (0, .var (.int .i64)), (0, .var (.slc (.int .u8))), (6, .ptr 3 []), (25, .row 0)], 5⟩, ⟨[], 0⟩], heap := [.row 5 (.int .u8) false, .box (.var (.arr 32 (.int .u8))), .row 5 (.int .u8) false, .box (.var (.arr 32 (.int .u8)))] }
def cSeal_orcs  : List (FuncId × Orc) := [(54, cUsable_orc), (55, cKeys_orc), (56, cStream_orc), (103, dMac_orc)]
def cSeal_book0  : Book := { Γ := gam, orc := orcsOf cSeal_orcs, hint := hintsOf [(57, { keep := some [1, 2, 3, 7, 10], keeps := [(3, [1, 2, 3, 7, 10])], own := [(7, 24)], dat := [], stk := [[0, 1, 2, 9, 35]] })] }
def cSeal_l1_G (F : Nat) (nx : cSeal_l1_T.T → ZO) (kq : ZK) (x : cSeal_l1_T.T) : ZO := cSeal_l1 F none (fun nonce s10 key nonce1 b b1 key1 l authenticate => nx ((nonce, ((), ((), ((), (s10, ()))))), (((key, (nonce1, (b, ((), ((), ()))))), ((), ())), (b1, (key1, (l, (authenticate, ()))))))) (fun y0 y1 y2 y3 y4 y5 y6 y7 y8 => kq (.exit 0) (cSeal_l1_T.inst ((y0, ((), ((), ((), (y1, ()))))), (((y2, (y3, (y4, ((), ((), ()))))), ((), ())), (y5, (y6, (y7, (y8, ())))))))) x.1.1 x.1.2.2.2.2.1 x.2.1.1.1 x.2.1.1.2.1 x.2.1.1.2.2.1 x.2.2.1 x.2.2.2.1 x.2.2.2.2.1 x.2.2.2.2.2.1
def cSeal_l1_R (F m : Nat) (x : cSeal_l1_T.T) (kq : ZK) : ZO := cSeal_l1F F none (fun y0 y1 y2 y3 y4 y5 y6 y7 y8 => kq (.exit 0) (cSeal_l1_T.inst ((y0, ((), ((), ((), (y1, ()))))), (((y2, (y3, (y4, ((), ((), ()))))), ((), ())), (y5, (y6, (y7, (y8, ())))))))) m x.1.1 x.1.2.2.2.2.1 x.2.1.1.1 x.2.1.1.2.1 x.2.1.1.2.2.1 x.2.2.1 x.2.2.2.1 x.2.2.2.2.1 x.2.2.2.2.2.1
def cSeal_lo (F : Nat) : List (LoE Unit) := [⟨57, 3, LO.of cSeal_l1_T (cSeal_l1_R F F)⟩]
def cSeal_book (F : Nat) : BookL Unit := { toBook := cSeal_book0, lo := losOf (cSeal_lo F), need := needsOf [] }
theorem cSeal_l1_step (F : Nat) : LStep prog (cSeal_book F) F 57 0 3 cSeal_l1_T (cSeal_l1_G F) := fun d x KQ => by kernel_rfl
theorem cSeal_loOk (F : Nat) : LoOk prog (cSeal_book F) F := loOk_of (l := cSeal_lo F) rfl (fa (loOne_of 0 (by kernel_rfl) (by kernel_rfl) (lstep_run (cSeal_l1_step F) (fun _ _ => rfl) (fun _ _ _ _ => rfl))) fz)
theorem cSeal_run (F : Nat) (x : ArgsT cSeal_ps) (kend : List BV → ZO) : runFnL prog (cSeal_book F) F 20 25 (argsInst cSeal_ps x) [.o 5 (.int .u8), .d (.int .i64)] kend = cSeal F x.1 x.2.1 x.2.2.1 none (fun y0 y1 => kend [BV.o 5 (.int .u8) y0, BV.d (.int .i64) y1]) := by kernel_rfl
theorem cSeal_contract  : Contract prog 25 cSeal_orc := con_of (B0 := cSeal_book0) zN zG mix_ok zT cSeal_run (orcsOf_ok (fa cUsable_contract (fa cKeys_contract (fa cStream_contract (fa dMac_contract fz))))) (by kernel_rfl) (fun _ => rfl) cSeal_loOk (fun x h => (cSeal_plain x.1 x.2.1 x.2.2.1 h).elim fun F hF => ⟨F, fun kend => hF none _⟩)
@[reducible] def rStream_ps  : List PM := [.d (.arr 32 (.int .u8)), .d (.int .i64), .d (.slc (.int .u8))]
def rStream_orc  : Orc := Orc.of rStream_ps true 1 fun x => (rStream_P x.1 x.2.1 x.2.2.1, [.o 5 (.int .u8) (rStream_r0 x.1 x.2.1 x.2.2.1), .d (.int .i64) (rStream_r1 x.1 x.2.1 x.2.2.1)])
@[reducible] def rStream_l1_T  : Tpl := { cur := ⟨[(1, .var (.int .i64)), (0, .var (.slc (.int .u8))), (0, .ptr 0 []), (4, .row 1), (0, .row 2), (0, .var (.int .i64))], 38⟩, stk := [⟨[], 0⟩], heap := [.box (.var (.arr 32 (.int .u8))), .row 5 (.int .u8) false, .row 5 (.int .u8) false] }
def rStream_orcs  : List (FuncId × Orc) := [(42, rNonces_orc), (91, rBlock_orc)]
def rStream_book0  : Book := { Γ := gam, orc := orcsOf rStream_orcs, hint := hintsOf [(45, { keep := some [1, 2, 3, 8, 9, 10], keeps := [(7, [1, 2, 3, 8, 9, 10])], own := [(8, 24), (9, 24)], dat := [], stk := [] })] }
def rStream_l1_G (F : Nat) (nx : rStream_l1_T.T → ZO) (kq : ZK) (x : rStream_l1_T.T) : ZO := rStream_l1 F none (fun nonce b i key out block => nx ((nonce, (b, ((), ((), ((), (i, ())))))), (((), ()), (key, (out, (block, ())))))) (fun y0 y1 y2 y3 y4 y5 => kq (.exit 0) (rStream_l1_T.inst ((y0, (y1, ((), ((), ((), (y2, ())))))), (((), ()), (y3, (y4, (y5, ()))))))) x.1.1 x.1.2.1 x.1.2.2.2.2.2.1 x.2.2.1 x.2.2.2.1 x.2.2.2.2.1
def rStream_l1_R (F m : Nat) (x : rStream_l1_T.T) (kq : ZK) : ZO := rStream_l1F F none (fun y0 y1 y2 y3 y4 y5 => kq (.exit 0) (rStream_l1_T.inst ((y0, (y1, ((), ((), ((), (y2, ())))))), (((), ()), (y3, (y4, (y5, ()))))))) m x.1.1 x.1.2.1 x.1.2.2.2.2.2.1 x.2.2.1 x.2.2.2.1 x.2.2.2.2.1
def rStream_lo (F : Nat) : List (LoE Unit) := [⟨45, 7, LO.of rStream_l1_T (rStream_l1_R F F)⟩]
def rStream_book (F : Nat) : BookL Unit := { toBook := rStream_book0, lo := losOf (rStream_lo F), need := needsOf [] }
theorem rStream_l1_step (F : Nat) : LStep prog (rStream_book F) F 45 0 7 rStream_l1_T (rStream_l1_G F) := fun d x KQ => by kernel_rfl
theorem rStream_loOk (F : Nat) : LoOk prog (rStream_book F) F := loOk_of (l := rStream_lo F) rfl (fa (loOne_of 0 (by kernel_rfl) (by kernel_rfl) (lstep_run (rStream_l1_step F) (fun _ _ => rfl) (fun _ _ _ _ => rfl))) fz)
theorem rStream_run (F : Nat) (x : ArgsT rStream_ps) (kend : List BV → ZO) : runFnL prog (rStream_book F) F 20 45 (argsInst rStream_ps x) [.o 5 (.int .u8), .d (.int .i64)] kend = rStream F x.1 x.2.1 x.2.2.1 none (fun y0 y1 => kend [BV.o 5 (.int .u8) y0, BV.d (.int .i64) y1]) := by kernel_rfl
theorem rStream_contract  : Contract prog 45 rStream_orc := con_of (B0 := rStream_book0) zN zG mix_ok zT rStream_run (orcsOf_ok (fa rNonces_contract (fa rBlock_contract fz))) (by kernel_rfl) (fun _ => rfl) rStream_loOk (fun x h => (rStream_plain x.1 x.2.1 x.2.2.1 h).elim fun F hF => ⟨F, fun kend => hF none _⟩)
@[reducible] def rKeys_ps  : List PM := [.d (.slc (.int .u8))]
def rKeys_orc  : Orc := Orc.of rKeys_ps true 0 fun x => (rKeys_P x.1, [.d (.arr 32 (.int .u8)) (rKeys_r0 x.1), .d (.arr 32 (.int .u8)) (rKeys_r1 x.1)])
def rKeys_orcs  : List (FuncId × Orc) := [(89, rMac_orc)]
def rKeys_book0  : Book := { Γ := gam, orc := orcsOf rKeys_orcs, hint := hintsOf [] }
def rKeys_lo (F : Nat) : List (LoE Unit) := []
def rKeys_book (F : Nat) : BookL Unit := { toBook := rKeys_book0, lo := losOf (rKeys_lo F), need := needsOf [] }
theorem rKeys_loOk (F : Nat) : LoOk prog (rKeys_book F) F := loOk_of (l := rKeys_lo F) rfl fz
theorem rKeys_run (F : Nat) (x : ArgsT rKeys_ps) (kend : List BV → ZO) : runFnL prog (rKeys_book F) F 20 43 (argsInst rKeys_ps x) [.d (.arr 32 (.int .u8)), .d (.arr 32 (.int .u8))] kend = rKeys F x.1 none (fun y0 y1 => kend [BV.d (.arr 32 (.int .u8)) y0, BV.d (.arr 32 (.int .u8)) y1]) := by kernel_rfl
theorem rKeys_contract  : Contract prog 43 rKeys_orc := con_of (B0 := rKeys_book0) zN zG mix_ok zT rKeys_run (orcsOf_ok (fa rMac_contract fz)) (by kernel_rfl) (fun _ => rfl) rKeys_loOk (fun x h => (rKeys_plain x.1 h).elim fun F hF => ⟨F, fun kend => hF none _⟩)
@[reducible] def rTag_ps  : List PM := [.d (.arr 32 (.int .u8)), .d (.int .i64), .d (.slc (.int .u8))]
def rTag_orc  : Orc := Orc.of rTag_ps true 1 fun x => (rTag_P x.1 x.2.1 x.2.2.1, [.o 5 (.int .u8) (rTag_r x.1 x.2.1 x.2.2.1)])
@[reducible] def rTag_l1_T  : Tpl := { cur := ⟨[(1, .var (.int .i64)), (0, .var (.slc (.int .u8))), (0, .ptr 0 []), (3, .row 1), (0, .var (.int .i64))], 30⟩, stk := [⟨[], 0⟩], heap := [.box (.var (.arr 32 (.int .u8))), .row 5 (.int .u8) false] }
@[reducible] def rTag_l2_T  : Tpl := { cur := ⟨[(9, .ptr 0 []), (0, .row 1), (0, .var (.int .i64))], 27⟩, stk := [⟨[], 0⟩], heap := [.box (.var (.arr 32 (.int .u8))), .row 5 (.int .u8) false] }
def rTag_orcs  : List (FuncId × Orc) := [(89, rMac_orc), (90, rLittle_orc)]
def rTag_book0  : Book := { Γ := gam, orc := orcsOf rTag_orcs, hint := hintsOf [(44, { keep := some [1, 2, 3, 7, 8, 9, 10, 11], keeps := [(3, [1, 2, 3, 7, 8]), (9, [9, 10, 11])], own := [(7, 24), (10, 24)], dat := [], stk := [] })] }
def rTag_l1_G (F : Nat) (nx : rTag_l1_T.T → ZO) (kq : ZK) (x : rTag_l1_T.T) : ZO := rTag_l1 F none (fun nonce b i key k => nx ((nonce, (b, ((), ((), (i, ()))))), (((), ()), (key, (k, ()))))) (fun y0 y1 y2 y3 y4 => kq (.exit 0) (rTag_l1_T.inst ((y0, (y1, ((), ((), (y2, ()))))), (((), ()), (y3, (y4, ())))))) x.1.1 x.1.2.1 x.1.2.2.2.2.1 x.2.2.1 x.2.2.2.1
def rTag_l1_R (F m : Nat) (x : rTag_l1_T.T) (kq : ZK) : ZO := rTag_l1F F none (fun y0 y1 y2 y3 y4 => kq (.exit 0) (rTag_l1_T.inst ((y0, (y1, ((), ((), (y2, ()))))), (((), ()), (y3, (y4, ())))))) m x.1.1 x.1.2.1 x.1.2.2.2.2.1 x.2.2.1 x.2.2.2.1
def rTag_l2_G (F : Nat) (nx : rTag_l2_T.T → ZO) (kq : ZK) (x : rTag_l2_T.T) : ZO := rTag_l2 F none (fun i d_ out => nx (((), ((), (i, ()))), (((), ()), (d_, (out, ()))))) (fun y0 y1 y2 => kq (.exit 2) (rTag_l2_T.inst (((), ((), (y0, ()))), (((), ()), (y1, (y2, ())))))) x.1.2.2.1 x.2.2.1 x.2.2.2.1
def rTag_l2_R (F m : Nat) (x : rTag_l2_T.T) (kq : ZK) : ZO := rTag_l2F F none (fun y0 y1 y2 => kq (.exit 2) (rTag_l2_T.inst (((), ((), (y0, ()))), (((), ()), (y1, (y2, ())))))) m x.1.2.2.1 x.2.2.1 x.2.2.2.1
def rTag_lo (F : Nat) : List (LoE Unit) := [⟨44, 3, LO.of rTag_l1_T (rTag_l1_R F F)⟩,
 ⟨44, 9, LO.of rTag_l2_T (rTag_l2_R F F)⟩]
def rTag_book (F : Nat) : BookL Unit := { toBook := rTag_book0, lo := losOf (rTag_lo F), need := needsOf [] }
theorem rTag_l1_step (F : Nat) : LStep prog (rTag_book F) F 44 0 3 rTag_l1_T (rTag_l1_G F) := fun d x KQ => by kernel_rfl
theorem rTag_l2_step (F : Nat) : LStep prog (rTag_book F) F 44 1 9 rTag_l2_T (rTag_l2_G F) := fun d x KQ => by kernel_rfl
theorem rTag_loOk (F : Nat) : LoOk prog (rTag_book F) F := loOk_of (l := rTag_lo F) rfl (fa (loOne_of 0 (by kernel_rfl) (by kernel_rfl) (lstep_run (rTag_l1_step F) (fun _ _ => rfl) (fun _ _ _ _ => rfl))) (fa (loOne_of 1 (by kernel_rfl) (by kernel_rfl) (lstep_run (rTag_l2_step F) (fun _ _ => rfl) (fun _ _ _ _ => rfl))) fz))
theorem rTag_run (F : Nat) (x : ArgsT rTag_ps) (kend : List BV → ZO) : runFnL prog (rTag_book F) F 20 44 (argsInst rTag_ps x) [.o 5 (.int .u8)] kend = rTag F x.1 x.2.1 x.2.2.1 none (fun y0 => kend [BV.o 5 (.int .u8) y0]) := by kernel_rfl
theorem rTag_contract  : Contract prog 44 rTag_orc := con_of (B0 := rTag_book0) zN zG mix_ok zT rTag_run (orcsOf_ok (fa rMac_contract (fa rLittle_contract fz))) (by kernel_rfl) (fun _ => rfl) rTag_loOk (fun x h => (rTag_plain x.1 x.2.1 x.2.2.1 h).elim fun F hF => ⟨F, fun kend => hF none _⟩)
@[reducible] def rSeal_ps  : List PM := [.d (.slc (.int .u8)), .d (.int .i64), .d (.slc (.int .u8))]
def rSeal_orc  : Orc := Orc.of rSeal_ps true 1 fun x => (rSeal_P x.1 x.2.1 x.2.2.1, [.o 5 (.int .u8) (rSeal_r0 x.1 x.2.1 x.2.2.1), .d (.int .i64) (rSeal_r1 x.1 x.2.1 x.2.2.1)])
def rSeal_orcs  : List (FuncId × Orc) := [(43, rKeys_orc), (44, rTag_orc), (45, rStream_orc)]
def rSeal_book0  : Book := { Γ := gam, orc := orcsOf rSeal_orcs, hint := hintsOf [] }
def rSeal_lo (F : Nat) : List (LoE Unit) := []
def rSeal_book (F : Nat) : BookL Unit := { toBook := rSeal_book0, lo := losOf (rSeal_lo F), need := needsOf [] }
theorem rSeal_loOk (F : Nat) : LoOk prog (rSeal_book F) F := loOk_of (l := rSeal_lo F) rfl fz
theorem rSeal_run (F : Nat) (x : ArgsT rSeal_ps) (kend : List BV → ZO) : runFnL prog (rSeal_book F) F 20 29 (argsInst rSeal_ps x) [.o 5 (.int .u8), .d (.int .i64)] kend = rSeal F x.1 x.2.1 x.2.2.1 none (fun y0 y1 => kend [BV.o 5 (.int .u8) y0, BV.d (.int .i64) y1]) := by kernel_rfl
theorem rSeal_contract  : Contract prog 29 rSeal_orc := con_of (B0 := rSeal_book0) zN zG mix_ok zT rSeal_run (orcsOf_ok (fa rKeys_contract (fa rTag_contract (fa rStream_contract fz)))) (by kernel_rfl) (fun _ => rfl) rSeal_loOk (fun x h => (rSeal_plain x.1 x.2.1 x.2.2.1 h).elim fun F hF => ⟨F, fun kend => hF none _⟩)
end Go.AI
namespace Go.AI
open Go
open Go.Proofs.Tryz (prog)
set_option linter.unusedVariables false
@[reducible] def rSamePages_ps  : List PM := [.d (.slc (.arr 16 (.int .u8))), .d (.slc (.arr 16 (.int .u8)))]
def rSamePages_orc  : Orc := Orc.of rSamePages_ps true 0 fun x => (rSamePages_P x.1 x.2.1, [.d .bool (rSamePages_r x.1 x.2.1)])
@[reducible] def rSamePages_l1_T  : Tpl := { cur := ⟨[(0, .var (.slc (.arr 16 (.int .u8)))), (0, .var (.slc (.arr 16 (.int .u8)))), (2, .var .bool), (0, .var (.int .i64))], 20⟩, stk := [⟨[], 0⟩], heap := [] }
def rSamePages_orcs  : List (FuncId × Orc) := []
def rSamePages_book0  : Book := { Γ := gam, orc := orcsOf rSamePages_orcs, hint := hintsOf [(31, { keep := some [0, 1, 4, 5], keeps := [(4, [0, 1, 4, 5])], own := [], dat := [], stk := [] })] }
def rSamePages_l1_G (F : Nat) (nx : rSamePages_l1_T.T → ZO) (kq : ZK) (x : rSamePages_l1_T.T) : ZO := rSamePages_l1 F none (fun a b s4 i => nx ((a, (b, (s4, (i, ())))), (((), ()), ()))) (fun y0 y1 y2 y3 => kq .ret (rSamePages_l1_T.inst ((y0, (y1, (y2, (y3, ())))), (((), ()), ())))) (fun y0 y1 y2 y3 => kq (.exit 0) (rSamePages_l1_T.inst ((y0, (y1, (y2, (y3, ())))), (((), ()), ())))) x.1.1 x.1.2.1 x.1.2.2.1 x.1.2.2.2.1
def rSamePages_l1_R (F m : Nat) (x : rSamePages_l1_T.T) (kq : ZK) : ZO := rSamePages_l1F F none (fun y0 y1 y2 y3 => kq .ret (rSamePages_l1_T.inst ((y0, (y1, (y2, (y3, ())))), (((), ()), ())))) (fun y0 y1 y2 y3 => kq (.exit 0) (rSamePages_l1_T.inst ((y0, (y1, (y2, (y3, ())))), (((), ()), ())))) m x.1.1 x.1.2.1 x.1.2.2.1 x.1.2.2.2.1
def rSamePages_lo (F : Nat) : List (LoE Unit) := [⟨31, 4, LO.of rSamePages_l1_T (rSamePages_l1_R F F)⟩]
def rSamePages_book (F : Nat) : BookL Unit := { toBook := rSamePages_book0, lo := losOf (rSamePages_lo F), need := needsOf [] }
theorem rSamePages_l1_step (F : Nat) : LStep prog (rSamePages_book F) F 31 0 4 rSamePages_l1_T (rSamePages_l1_G F) := fun d x KQ => by kernel_rfl
theorem rSamePages_loOk (F : Nat) : LoOk prog (rSamePages_book F) F := loOk_of (l := rSamePages_lo F) rfl (fa (loOne_of 0 (by kernel_rfl) (by kernel_rfl) (lstep_run (rSamePages_l1_step F) (fun _ _ => rfl) (fun _ _ _ _ => rfl))) fz)
theorem rSamePages_run (F : Nat) (x : ArgsT rSamePages_ps) (kend : List BV → ZO) : runFnL prog (rSamePages_book F) F 20 31 (argsInst rSamePages_ps x) [.d .bool] kend = rSamePages F x.1 x.2.1 none (fun y0 => kend [BV.d .bool y0]) := by kernel_rfl
theorem rSamePages_contract  : Contract prog 31 rSamePages_orc := con_of (B0 := rSamePages_book0) zN zG mix_ok zT rSamePages_run (orcsOf_ok fz) (by kernel_rfl) (fun _ => rfl) rSamePages_loOk (fun x h => (rSamePages_plain x.1 x.2.1 h).elim fun F hF => ⟨F, fun kend => hF none _⟩)
end Go.AI

namespace Go.AI
open Go
open Go.Proofs.Tryz (prog)
set_option linter.unusedVariables false
@[reducible] def rSameOps_ps  : List PM := [.d (.slc (.pair (.int .i64) (.pair (.int .i64) (.pair (.slc (.arr 16 (.int .u8))) .unit)))), .d (.slc (.pair (.int .i64) (.pair (.int .i64) (.pair (.slc (.arr 16 (.int .u8))) .unit))))]
def rSameOps_orc  : Orc := Orc.of rSameOps_ps true 0 fun x => (rSameOps_P x.1 x.2.1, [.d .bool (rSameOps_r x.1 x.2.1)])
@[reducible] def rSameOps_l1_T  : Tpl := { cur := ⟨[(0, .var (.slc (.pair (.int .i64) (.pair (.int .i64) (.pair (.slc (.arr 16 (.int .u8))) .unit))))), (0, .var (.slc (.pair (.int .i64) (.pair (.int .i64) (.pair (.slc (.arr 16 (.int .u8))) .unit))))), (2, .var .bool), (0, .var (.int .i64))], 49⟩, stk := [⟨[], 0⟩], heap := [] }
def rSameOps_orcs  : List (FuncId × Orc) := [(31, rSamePages_orc)]
def rSameOps_book0  : Book := { Γ := gam, orc := orcsOf rSameOps_orcs, hint := hintsOf [(12, { keep := some [0, 1, 4, 5], keeps := [(4, [0, 1, 4, 5])], own := [], dat := [], stk := [] })] }
def rSameOps_l1_G (F : Nat) (nx : rSameOps_l1_T.T → ZO) (kq : ZK) (x : rSameOps_l1_T.T) : ZO := rSameOps_l1 F none (fun a b s4 i => nx ((a, (b, (s4, (i, ())))), (((), ()), ()))) (fun y0 y1 y2 y3 => kq .ret (rSameOps_l1_T.inst ((y0, (y1, (y2, (y3, ())))), (((), ()), ())))) (fun y0 y1 y2 y3 => kq (.exit 0) (rSameOps_l1_T.inst ((y0, (y1, (y2, (y3, ())))), (((), ()), ())))) x.1.1 x.1.2.1 x.1.2.2.1 x.1.2.2.2.1
def rSameOps_l1_R (F m : Nat) (x : rSameOps_l1_T.T) (kq : ZK) : ZO := rSameOps_l1F F none (fun y0 y1 y2 y3 => kq .ret (rSameOps_l1_T.inst ((y0, (y1, (y2, (y3, ())))), (((), ()), ())))) (fun y0 y1 y2 y3 => kq (.exit 0) (rSameOps_l1_T.inst ((y0, (y1, (y2, (y3, ())))), (((), ()), ())))) m x.1.1 x.1.2.1 x.1.2.2.1 x.1.2.2.2.1
def rSameOps_lo (F : Nat) : List (LoE Unit) := [⟨12, 4, LO.of rSameOps_l1_T (rSameOps_l1_R F F)⟩]
def rSameOps_book (F : Nat) : BookL Unit := { toBook := rSameOps_book0, lo := losOf (rSameOps_lo F), need := needsOf [] }
theorem rSameOps_l1_step (F : Nat) : LStep prog (rSameOps_book F) F 12 0 4 rSameOps_l1_T (rSameOps_l1_G F) := fun d x KQ => by kernel_rfl
theorem rSameOps_loOk (F : Nat) : LoOk prog (rSameOps_book F) F := loOk_of (l := rSameOps_lo F) rfl (fa (loOne_of 0 (by kernel_rfl) (by kernel_rfl) (lstep_run (rSameOps_l1_step F) (fun _ _ => rfl) (fun _ _ _ _ => rfl))) fz)
theorem rSameOps_run (F : Nat) (x : ArgsT rSameOps_ps) (kend : List BV → ZO) : runFnL prog (rSameOps_book F) F 20 12 (argsInst rSameOps_ps x) [.d .bool] kend = rSameOps F x.1 x.2.1 none (fun y0 => kend [BV.d .bool y0]) := by kernel_rfl
theorem rSameOps_contract  : Contract prog 12 rSameOps_orc := con_of (B0 := rSameOps_book0) zN zG mix_ok zT rSameOps_run (orcsOf_ok (fa rSamePages_contract fz)) (by kernel_rfl) (fun _ => rfl) rSameOps_loOk (fun x h => (rSameOps_plain x.1 x.2.1 h).elim fun F hF => ⟨F, fun kend => hF none _⟩)
@[reducible] def shifted_ps  : List PM := [.d (.int .u32)]
def shifted_orc  : Orc := Orc.of shifted_ps true 0 fun x => (shifted_P x.1, [.d (.int .u32) (shifted_r x.1)])
@[reducible] def shifted_l1_T  : Tpl := { cur := ⟨[(0, .var (.int .u32)), (3, .var (.int .i64))], 11⟩, stk := [⟨[], 0⟩], heap := [] }
def shifted_orcs  : List (FuncId × Orc) := []
def shifted_book0  : Book := { Γ := gam, orc := orcsOf shifted_orcs, hint := hintsOf [(178, { keep := some [0, 4], keeps := [(2, [0, 4])], own := [], dat := [], stk := [] })] }
def shifted_l1_G (F : Nat) (nx : shifted_l1_T.T → ZO) (kq : ZK) (x : shifted_l1_T.T) : ZO := shifted_l1 F none (fun register s4 => nx ((register, (s4, ())), (((), ()), ()))) (fun y0 y1 => kq (.exit 0) (shifted_l1_T.inst ((y0, (y1, ())), (((), ()), ())))) x.1.1 x.1.2.1
def shifted_l1_R (F m : Nat) (x : shifted_l1_T.T) (kq : ZK) : ZO := shifted_l1F F none (fun y0 y1 => kq (.exit 0) (shifted_l1_T.inst ((y0, (y1, ())), (((), ()), ())))) m x.1.1 x.1.2.1
def shifted_lo (F : Nat) : List (LoE Unit) := [⟨178, 2, LO.of shifted_l1_T (shifted_l1_R F F)⟩]
def shifted_book (F : Nat) : BookL Unit := { toBook := shifted_book0, lo := losOf (shifted_lo F), need := needsOf [] }
theorem shifted_l1_step (F : Nat) : LStep prog (shifted_book F) F 178 0 2 shifted_l1_T (shifted_l1_G F) := fun d x KQ => by kernel_rfl
theorem shifted_loOk (F : Nat) : LoOk prog (shifted_book F) F := loOk_of (l := shifted_lo F) rfl (fa (loOne_of 0 (by kernel_rfl) (by kernel_rfl) (lstep_run (shifted_l1_step F) (fun _ _ => rfl) (fun _ _ _ _ => rfl))) fz)
theorem shifted_run (F : Nat) (x : ArgsT shifted_ps) (kend : List BV → ZO) : runFnL prog (shifted_book F) F 20 178 (argsInst shifted_ps x) [.d (.int .u32)] kend = shifted F x.1 none (fun y0 => kend [BV.d (.int .u32) y0]) := by kernel_rfl
theorem shifted_contract  : Contract prog 178 shifted_orc := con_of (B0 := shifted_book0) zN zG mix_ok zT shifted_run (orcsOf_ok fz) (by kernel_rfl) (fun _ => rfl) shifted_loOk (fun x h => (shifted_plain x.1 h).elim fun F hF => ⟨F, fun kend => hF none _⟩)
@[reducible] def ctable_ps  : List PM := []
def ctable_orc  : Orc := Orc.of ctable_ps true 0 fun x => (ctable_P, [.d (.arr 256 (.int .u32)) (ctable_r)])
@[reducible] def ctable_l1_T  : Tpl := { cur := ⟨[(0, .ptr 0 []), (0, .ptr 1 []), (1, .var (.int .i64))], 9⟩, stk := [⟨[], 0⟩], heap := [.box (.var (.arr 256 (.int .u32))), .box (.var (.arr 256 (.int .u32)))] }
def ctable_orcs  : List (FuncId × Orc) := [(178, shifted_orc)]
def ctable_book0  : Book := { Γ := gam, orc := orcsOf ctable_orcs, hint := hintsOf [(170, { keep := some [0, 1, 3], keeps := [(3, [0, 1, 3])], own := [], dat := [], stk := [] })] }
def ctable_l1_G (F : Nat) (nx : ctable_l1_T.T → ZO) (kq : ZK) (x : ctable_l1_T.T) : ZO := ctable_l1 F none (fun s3 s0 out => nx (((), ((), (s3, ()))), (((), ()), (s0, (out, ()))))) (fun y0 y1 y2 => kq (.exit 0) (ctable_l1_T.inst (((), ((), (y0, ()))), (((), ()), (y1, (y2, ())))))) x.1.2.2.1 x.2.2.1 x.2.2.2.1
def ctable_l1_R (F m : Nat) (x : ctable_l1_T.T) (kq : ZK) : ZO := ctable_l1F F none (fun y0 y1 y2 => kq (.exit 0) (ctable_l1_T.inst (((), ((), (y0, ()))), (((), ()), (y1, (y2, ())))))) m x.1.2.2.1 x.2.2.1 x.2.2.2.1
def ctable_lo (F : Nat) : List (LoE Unit) := [⟨170, 3, LO.of ctable_l1_T (ctable_l1_R F F)⟩]
def ctable_book (F : Nat) : BookL Unit := { toBook := ctable_book0, lo := losOf (ctable_lo F), need := needsOf [] }
theorem ctable_l1_step (F : Nat) : LStep prog (ctable_book F) F 170 0 3 ctable_l1_T (ctable_l1_G F) := fun d x KQ => by kernel_rfl
theorem ctable_loOk (F : Nat) : LoOk prog (ctable_book F) F := loOk_of (l := ctable_lo F) rfl (fa (loOne_of 0 (by kernel_rfl) (by kernel_rfl) (lstep_run (ctable_l1_step F) (fun _ _ => rfl) (fun _ _ _ _ => rfl))) fz)
theorem ctable_run (F : Nat) (x : ArgsT ctable_ps) (kend : List BV → ZO) : runFnL prog (ctable_book F) F 20 170 (argsInst ctable_ps x) [.d (.arr 256 (.int .u32))] kend = ctable F  none (fun y0 => kend [BV.d (.arr 256 (.int .u32)) y0]) := by kernel_rfl
theorem ctable_contract  : Contract prog 170 ctable_orc := con_of (B0 := ctable_book0) zN zG mix_ok zT ctable_run (orcsOf_ok (fa shifted_contract fz)) (by kernel_rfl) (fun _ => rfl) ctable_loOk (fun x h => (ctable_plain  h).elim fun F hF => ⟨F, fun kend => hF none _⟩)
@[reducible] def cUpd_ps  : List PM := [.d (.int .u32), .d (.slc (.int .u8))]
def cUpd_orc  : Orc := Orc.of cUpd_ps true 0 fun x => (cUpd_P x.1 x.2.1, [.d (.int .u32) (cUpd_r x.1 x.2.1)])
@[reducible] def cUpd_l1_T  : Tpl := { cur := ⟨[(0, .hnd .yield 0), (4, .var (.slc (.int .u8))), (0, .var (.int .i64)), (0, .var (.int .i64))], 8⟩, stk := [⟨[(0, .hnd .yield 0)], 0⟩, ⟨[(1, .fn 171 (.pr (.ptr 3 []) (.un))), (0, .ptr 1 []), (1, .var (.int .u32))], 15⟩, ⟨[(6, .var (.int .u32))], 4⟩, ⟨[], 0⟩], heap := [.lp 159 3 ⟨[(2, .ptr 1 []), (2, .ptr 2 [])], 14⟩ .ready, .box (.var (.int .u32)), .box (.var (.arr 256 (.int .u32))), .box (.var (.slc (.int .u8)))] }
def cUpd_orcs  : List (FuncId × Orc) := [(170, ctable_orc)]
def cUpd_book0  : Book := { Γ := gam, orc := orcsOf cUpd_orcs, hint := hintsOf [(171, { keep := some [0, 5, 6, 7], keeps := [(1, [0, 5, 6, 7])], own := [], dat := [], stk := [[0], [1, 2, 4, 6, 9], [6]] })] }
def cUpd_l1_G (F : Nat) (nx : cUpd_l1_T.T → ZO) (kq : ZK) (x : cUpd_l1_T.T) : ZO := cUpd_l1 F none (fun s5 s6 s7 s4 s61 register t bytes => nx (((), (s5, (s6, (s7, ())))), ((((), ()), ((((), ()), ((), (s4, ()))), ((s61, ()), ((), ())))), (((), ((), ())), (register, (t, (bytes, ()))))))) (fun y0 y1 y2 y3 y4 y5 y6 y7 => kq (.exit 0) (cUpd_l1_T.inst (((), (y0, (y1, (y2, ())))), ((((), ()), ((((), ()), ((), (y3, ()))), ((y4, ()), ((), ())))), (((), ((), ())), (y5, (y6, (y7, ())))))))) x.1.2.1 x.1.2.2.1 x.1.2.2.2.1 x.2.1.2.1.2.2.1 x.2.1.2.2.1.1 x.2.2.2.1 x.2.2.2.2.1 x.2.2.2.2.2.1
def cUpd_l1_R (F m : Nat) (x : cUpd_l1_T.T) (kq : ZK) : ZO := cUpd_l1F F none (fun y0 y1 y2 y3 y4 y5 y6 y7 => kq (.exit 0) (cUpd_l1_T.inst (((), (y0, (y1, (y2, ())))), ((((), ()), ((((), ()), ((), (y3, ()))), ((y4, ()), ((), ())))), (((), ((), ())), (y5, (y6, (y7, ())))))))) m x.1.2.1 x.1.2.2.1 x.1.2.2.2.1 x.2.1.2.1.2.2.1 x.2.1.2.2.1.1 x.2.2.2.1 x.2.2.2.2.1 x.2.2.2.2.2.1
def cUpd_lo (F : Nat) : List (LoE Unit) := [⟨171, 1, LO.of cUpd_l1_T (cUpd_l1_R F F)⟩]
def cUpd_book (F : Nat) : BookL Unit := { toBook := cUpd_book0, lo := losOf (cUpd_lo F), need := needsOf [(171, 1)] }
theorem cUpd_l1_step (F : Nat) : LStep prog (cUpd_book F) F 171 0 1 cUpd_l1_T (cUpd_l1_G F) := fun d x KQ => by kernel_rfl
theorem cUpd_loOk (F : Nat) : LoOk prog (cUpd_book F) F := loOk_of (l := cUpd_lo F) rfl (fa (loOne_of 0 (by kernel_rfl) (by kernel_rfl) (lstep_run (cUpd_l1_step F) (fun _ _ => rfl) (fun _ _ _ _ => rfl))) fz)
theorem cUpd_run (F : Nat) (x : ArgsT cUpd_ps) (kend : List BV → ZO) : runFnL prog (cUpd_book F) F 20 145 (argsInst cUpd_ps x) [.d (.int .u32)] kend = cUpd F x.1 x.2.1 none (fun y0 => kend [BV.d (.int .u32) y0]) := by kernel_rfl
theorem cUpd_contract  : Contract prog 145 cUpd_orc := con_of (B0 := cUpd_book0) zN zG mix_ok zT cUpd_run (orcsOf_ok (fa ctable_contract fz)) (by kernel_rfl) (fun _ => rfl) cUpd_loOk (fun x h => (cUpd_plain x.1 x.2.1 h).elim fun F hF => ⟨F, fun kend => hF none _⟩)
@[reducible] def cSum_ps  : List PM := [.d (.slc (.int .u8))]
def cSum_orc  : Orc := Orc.of cSum_ps true 0 fun x => (cSum_P x.1, [.d (.int .u32) (cSum_r x.1)])
def cSum_orcs  : List (FuncId × Orc) := [(145, cUpd_orc)]
def cSum_book0  : Book := { Γ := gam, orc := orcsOf cSum_orcs, hint := hintsOf [] }
def cSum_lo (F : Nat) : List (LoE Unit) := []
def cSum_book (F : Nat) : BookL Unit := { toBook := cSum_book0, lo := losOf (cSum_lo F), need := needsOf [] }
theorem cSum_loOk (F : Nat) : LoOk prog (cSum_book F) F := loOk_of (l := cSum_lo F) rfl fz
theorem cSum_run (F : Nat) (x : ArgsT cSum_ps) (kend : List BV → ZO) : runFnL prog (cSum_book F) F 20 110 (argsInst cSum_ps x) [.d (.int .u32)] kend = cSum F x.1 none (fun y0 => kend [BV.d (.int .u32) y0]) := by kernel_rfl
theorem cSum_contract  : Contract prog 110 cSum_orc := con_of (B0 := cSum_book0) zN zG mix_ok zT cSum_run (orcsOf_ok (fa cUpd_contract fz)) (by kernel_rfl) (fun _ => rfl) cSum_loOk (fun x h => (cSum_plain x.1 h).elim fun F hF => ⟨F, fun kend => hF none _⟩)
@[reducible] def kReg_ps  : List PM := [.d (.int .u32), .d (.int .u8)]
def kReg_orc  : Orc := Orc.of kReg_ps true 0 fun x => (kReg_P x.1 x.2.1, [.d (.int .u32) (kReg_r x.1 x.2.1)])
@[reducible] def kReg_l1_T  : Tpl := { cur := ⟨[(0, .var (.int .u32)), (4, .var (.int .i64))], 17⟩, stk := [⟨[], 0⟩], heap := [] }
def kReg_orcs  : List (FuncId × Orc) := []
def kReg_book0  : Book := { Γ := gam, orc := orcsOf kReg_orcs, hint := hintsOf [(161, { keep := some [0, 5], keeps := [(3, [0, 5])], own := [], dat := [], stk := [] })] }
def kReg_l1_G (F : Nat) (nx : kReg_l1_T.T → ZO) (kq : ZK) (x : kReg_l1_T.T) : ZO := kReg_l1 F none (fun r i => nx ((r, (i, ())), (((), ()), ()))) (fun y0 y1 => kq (.exit 0) (kReg_l1_T.inst ((y0, (y1, ())), (((), ()), ())))) x.1.1 x.1.2.1
def kReg_l1_R (F m : Nat) (x : kReg_l1_T.T) (kq : ZK) : ZO := kReg_l1F F none (fun y0 y1 => kq (.exit 0) (kReg_l1_T.inst ((y0, (y1, ())), (((), ()), ())))) m x.1.1 x.1.2.1
def kReg_lo (F : Nat) : List (LoE Unit) := [⟨161, 3, LO.of kReg_l1_T (kReg_l1_R F F)⟩]
def kReg_book (F : Nat) : BookL Unit := { toBook := kReg_book0, lo := losOf (kReg_lo F), need := needsOf [] }
theorem kReg_l1_step (F : Nat) : LStep prog (kReg_book F) F 161 0 3 kReg_l1_T (kReg_l1_G F) := fun d x KQ => by kernel_rfl
theorem kReg_loOk (F : Nat) : LoOk prog (kReg_book F) F := loOk_of (l := kReg_lo F) rfl (fa (loOne_of 0 (by kernel_rfl) (by kernel_rfl) (lstep_run (kReg_l1_step F) (fun _ _ => rfl) (fun _ _ _ _ => rfl))) fz)
theorem kReg_run (F : Nat) (x : ArgsT kReg_ps) (kend : List BV → ZO) : runFnL prog (kReg_book F) F 20 161 (argsInst kReg_ps x) [.d (.int .u32)] kend = kReg F x.1 x.2.1 none (fun y0 => kend [BV.d (.int .u32) y0]) := by kernel_rfl
theorem kReg_contract  : Contract prog 161 kReg_orc := con_of (B0 := kReg_book0) zN zG mix_ok zT kReg_run (orcsOf_ok fz) (by kernel_rfl) (fun _ => rfl) kReg_loOk (fun x h => (kReg_plain x.1 x.2.1 h).elim fun F hF => ⟨F, fun kend => hF none _⟩)
@[reducible] def kUpd_ps  : List PM := [.d (.int .u32), .d (.slc (.int .u8))]
def kUpd_orc  : Orc := Orc.of kUpd_ps true 0 fun x => (kUpd_P x.1 x.2.1, [.d (.int .u32) (kUpd_r x.1 x.2.1)])
@[reducible] def kUpd_l1_T  : Tpl := { cur := ⟨[(1, .var (.slc (.int .u8))), (3, .var (.int .u32)), (0, .var (.int .i64))], 16⟩, stk := [⟨[], 0⟩], heap := [] }
def kUpd_orcs  : List (FuncId × Orc) := [(161, kReg_orc)]
def kUpd_book0  : Book := { Γ := gam, orc := orcsOf kUpd_orcs, hint := hintsOf [(146, { keep := some [1, 5, 6], keeps := [(3, [1, 5, 6])], own := [], dat := [], stk := [] })] }
def kUpd_l1_G (F : Nat) (nx : kUpd_l1_T.T → ZO) (kq : ZK) (x : kUpd_l1_T.T) : ZO := kUpd_l1 F none (fun b r i => nx ((b, (r, (i, ()))), (((), ()), ()))) (fun y0 y1 y2 => kq (.exit 0) (kUpd_l1_T.inst ((y0, (y1, (y2, ()))), (((), ()), ())))) x.1.1 x.1.2.1 x.1.2.2.1
def kUpd_l1_R (F m : Nat) (x : kUpd_l1_T.T) (kq : ZK) : ZO := kUpd_l1F F none (fun y0 y1 y2 => kq (.exit 0) (kUpd_l1_T.inst ((y0, (y1, (y2, ()))), (((), ()), ())))) m x.1.1 x.1.2.1 x.1.2.2.1
def kUpd_lo (F : Nat) : List (LoE Unit) := [⟨146, 3, LO.of kUpd_l1_T (kUpd_l1_R F F)⟩]
def kUpd_book (F : Nat) : BookL Unit := { toBook := kUpd_book0, lo := losOf (kUpd_lo F), need := needsOf [] }
theorem kUpd_l1_step (F : Nat) : LStep prog (kUpd_book F) F 146 0 3 kUpd_l1_T (kUpd_l1_G F) := fun d x KQ => by kernel_rfl
theorem kUpd_loOk (F : Nat) : LoOk prog (kUpd_book F) F := loOk_of (l := kUpd_lo F) rfl (fa (loOne_of 0 (by kernel_rfl) (by kernel_rfl) (lstep_run (kUpd_l1_step F) (fun _ _ => rfl) (fun _ _ _ _ => rfl))) fz)
theorem kUpd_run (F : Nat) (x : ArgsT kUpd_ps) (kend : List BV → ZO) : runFnL prog (kUpd_book F) F 20 146 (argsInst kUpd_ps x) [.d (.int .u32)] kend = kUpd F x.1 x.2.1 none (fun y0 => kend [BV.d (.int .u32) y0]) := by kernel_rfl
theorem kUpd_contract  : Contract prog 146 kUpd_orc := con_of (B0 := kUpd_book0) zN zG mix_ok zT kUpd_run (orcsOf_ok (fa kReg_contract fz)) (by kernel_rfl) (fun _ => rfl) kUpd_loOk (fun x h => (kUpd_plain x.1 x.2.1 h).elim fun F hF => ⟨F, fun kend => hF none _⟩)
@[reducible] def kSum_ps  : List PM := [.d (.slc (.int .u8))]
def kSum_orc  : Orc := Orc.of kSum_ps true 0 fun x => (kSum_P x.1, [.d (.int .u32) (kSum_r x.1)])
def kSum_orcs  : List (FuncId × Orc) := [(146, kUpd_orc)]
def kSum_book0  : Book := { Γ := gam, orc := orcsOf kSum_orcs, hint := hintsOf [] }
def kSum_lo (F : Nat) : List (LoE Unit) := []
def kSum_book (F : Nat) : BookL Unit := { toBook := kSum_book0, lo := losOf (kSum_lo F), need := needsOf [] }
theorem kSum_loOk (F : Nat) : LoOk prog (kSum_book F) F := loOk_of (l := kSum_lo F) rfl fz
theorem kSum_run (F : Nat) (x : ArgsT kSum_ps) (kend : List BV → ZO) : runFnL prog (kSum_book F) F 20 116 (argsInst kSum_ps x) [.d (.int .u32)] kend = kSum F x.1 none (fun y0 => kend [BV.d (.int .u32) y0]) := by kernel_rfl
theorem kSum_contract  : Contract prog 116 kSum_orc := con_of (B0 := kSum_book0) zN zG mix_ok zT kSum_run (orcsOf_ok (fa kUpd_contract fz)) (by kernel_rfl) (fun _ => rfl) kSum_loOk (fun x h => (kSum_plain x.1 h).elim fun F hF => ⟨F, fun kend => hF none _⟩)
@[reducible] def needed_ps  : List PM := [.d (.int .i64)]
def needed_orc  : Orc := Orc.of needed_ps true 0 fun x => (needed_P x.1, [.d (.int .i64) (needed_r x.1)])
def needed_orcs  : List (FuncId × Orc) := []
def needed_book0  : Book := { Γ := gam, orc := orcsOf needed_orcs, hint := hintsOf [] }
def needed_lo (F : Nat) : List (LoE Unit) := []
def needed_book (F : Nat) : BookL Unit := { toBook := needed_book0, lo := losOf (needed_lo F), need := needsOf [] }
theorem needed_loOk (F : Nat) : LoOk prog (needed_book F) F := loOk_of (l := needed_lo F) rfl fz
theorem needed_run (F : Nat) (x : ArgsT needed_ps) (kend : List BV → ZO) : runFnL prog (needed_book F) F 20 107 (argsInst needed_ps x) [.d (.int .i64)] kend = needed F x.1 none (fun y0 => kend [BV.d (.int .i64) y0]) := by kernel_rfl
theorem needed_contract  : Contract prog 107 needed_orc := con_of (B0 := needed_book0) zN zG mix_ok zT needed_run (orcsOf_ok fz) (by kernel_rfl) (fun _ => rfl) needed_loOk (fun x h => (needed_plain x.1 h).elim fun F hF => ⟨F, fun kend => hF none _⟩)
@[reducible] def lPages_ps  : List PM := [.d (.int .i64)]
def lPages_orc  : Orc := Orc.of lPages_ps true 0 fun x => (lPages_P x.1, [.d (.int .i64) (lPages_r x.1)])
def lPages_orcs  : List (FuncId × Orc) := [(107, needed_orc)]
def lPages_book0  : Book := { Γ := gam, orc := orcsOf lPages_orcs, hint := hintsOf [] }
def lPages_lo (F : Nat) : List (LoE Unit) := []
def lPages_book (F : Nat) : BookL Unit := { toBook := lPages_book0, lo := losOf (lPages_lo F), need := needsOf [] }
theorem lPages_loOk (F : Nat) : LoOk prog (lPages_book F) F := loOk_of (l := lPages_lo F) rfl fz
theorem lPages_run (F : Nat) (x : ArgsT lPages_ps) (kend : List BV → ZO) : runFnL prog (lPages_book F) F 20 58 (argsInst lPages_ps x) [.d (.int .i64)] kend = lPages F x.1 none (fun y0 => kend [BV.d (.int .i64) y0]) := by kernel_rfl
theorem lPages_contract  : Contract prog 58 lPages_orc := con_of (B0 := lPages_book0) zN zG mix_ok zT lPages_run (orcsOf_ok (fa needed_contract fz)) (by kernel_rfl) (fun _ => rfl) lPages_loOk (fun x h => (lPages_plain x.1 h).elim fun F hF => ⟨F, fun kend => hF none _⟩)
@[reducible] def lCheck_ps  : List PM := [.d (.pair (.int .i64) (.pair (.int .i64) (.pair (.int .i64) .unit)))]
def lCheck_orc  : Orc := Orc.of lCheck_ps true 0 fun x => (true, [.d (.int .i64) (lCheck_r x.1)])
def lCheck_orcs  : List (FuncId × Orc) := []
def lCheck_book0  : Book := { Γ := gam, orc := orcsOf lCheck_orcs, hint := hintsOf [] }
def lCheck_lo (F : Nat) : List (LoE Unit) := []
def lCheck_book (F : Nat) : BookL Unit := { toBook := lCheck_book0, lo := losOf (lCheck_lo F), need := needsOf [] }
theorem lCheck_loOk (F : Nat) : LoOk prog (lCheck_book F) F := loOk_of (l := lCheck_lo F) rfl fz
theorem lCheck_run (F : Nat) (x : ArgsT lCheck_ps) (kend : List BV → ZO) : runFnL prog (lCheck_book F) F 20 24 (argsInst lCheck_ps x) [.d (.int .i64)] kend = lCheck F x.1 none (fun y0 => kend [BV.d (.int .i64) y0]) := by kernel_rfl
theorem lCheck_contract  : Contract prog 24 lCheck_orc := con_of (B0 := lCheck_book0) zN zG mix_ok zT lCheck_run (orcsOf_ok fz) (by kernel_rfl) (fun _ => rfl) lCheck_loOk (fun x _ => (lCheck_plain x.1).elim fun F hF => ⟨F, fun kend => hF none _⟩)
@[reducible] def lEnd_ps  : List PM := [.d (.slc (.int .u8)), .d (.int .i64)]
def lEnd_orc  : Orc := Orc.of lEnd_ps true 0 fun x => (lEnd_P x.1 x.2.1, [.d (.arr 16 (.int .u8)) (lEnd_r x.1 x.2.1)])
@[reducible] def lEnd_l1_T  : Tpl := { cur := ⟨[(0, .sl 0), (0, .var (.int .i64)), (4, .var (.int .i64)), (0, .var (.int .i64))], 15⟩, stk := [⟨[(0, .var (.slc (.int .u8))), (3, .ptr 1 []), (0, .ptr 0 [])], 19⟩, ⟨[], 0⟩], heap := [.box (.var (.arr 16 (.int .u8))), .box (.var (.arr 16 (.int .u8)))] }
@[reducible] def lEnd_l2_T  : Tpl := { cur := ⟨[(0, .sl 0), (0, .var (.int .i64)), (4, .var (.int .i64)), (0, .var (.int .i64))], 15⟩, stk := [⟨[(0, .var (.slc (.int .u8))), (3, .ptr 1 []), (0, .ptr 0 []), (4, .sl 0)], 14⟩, ⟨[], 0⟩], heap := [.box (.var (.arr 16 (.int .u8))), .box (.var (.arr 16 (.int .u8)))] }
@[reducible] def lEnd_l3_T  : Tpl := { cur := ⟨[(0, .sl 0), (0, .var (.int .i64)), (4, .var (.int .i64)), (0, .var (.int .i64))], 15⟩, stk := [⟨[(0, .var (.slc (.int .u8))), (3, .ptr 1 []), (0, .ptr 0 []), (4, .sl 0), (8, .sl 0)], 5⟩, ⟨[], 0⟩], heap := [.box (.var (.arr 16 (.int .u8))), .box (.var (.arr 16 (.int .u8)))] }
def lEnd_orcs  : List (FuncId × Orc) := [(107, needed_orc), (110, cSum_orc)]
def lEnd_book0  : Book := { Γ := gam, orc := orcsOf lEnd_orcs, hint := hintsOf [(109, { keep := some [0, 1, 6, 7], keeps := [(1, [0, 1, 6, 7])], own := [], dat := [], stk := [[0, 4, 5, 10, 19]] })] }
def lEnd_l1_G (F : Nat) (nx : lEnd_l1_T.T → ZO) (kq : ZK) (x : lEnd_l1_T.T) : ZO := lEnd_l1 F none (fun to_i to_n n s6 s7 payload to s4 => nx (((to_i, to_n), (n, (s6, (s7, ())))), (((payload, ((), ((), ()))), ((), ())), (to, (s4, ()))))) (fun y0 y1 y2 y3 y4 y5 y6 y7 => kq (.exit 0) (lEnd_l1_T.inst (((y0, y1), (y2, (y3, (y4, ())))), (((y5, ((), ((), ()))), ((), ())), (y6, (y7, ())))))) x.1.1.1 x.1.1.2 x.1.2.1 x.1.2.2.1 x.1.2.2.2.1 x.2.1.1.1 x.2.2.1 x.2.2.2.1
def lEnd_l1_R (F m : Nat) (x : lEnd_l1_T.T) (kq : ZK) : ZO := lEnd_l1F F none (fun y0 y1 y2 y3 y4 y5 y6 y7 => kq (.exit 0) (lEnd_l1_T.inst (((y0, y1), (y2, (y3, (y4, ())))), (((y5, ((), ((), ()))), ((), ())), (y6, (y7, ())))))) m x.1.1.1 x.1.1.2 x.1.2.1 x.1.2.2.1 x.1.2.2.2.1 x.2.1.1.1 x.2.2.1 x.2.2.2.1
def lEnd_l2_G (F : Nat) (nx : lEnd_l2_T.T → ZO) (kq : ZK) (x : lEnd_l2_T.T) : ZO := lEnd_l2 F none (fun to_i to_n n s6 s7 payload s10_i s10_n to s4 => nx (((to_i, to_n), (n, (s6, (s7, ())))), (((payload, ((), ((), ((s10_i, s10_n), ())))), ((), ())), (to, (s4, ()))))) (fun y0 y1 y2 y3 y4 y5 y6 y7 y8 y9 => kq (.exit 0) (lEnd_l2_T.inst (((y0, y1), (y2, (y3, (y4, ())))), (((y5, ((), ((), ((y6, y7), ())))), ((), ())), (y8, (y9, ())))))) x.1.1.1 x.1.1.2 x.1.2.1 x.1.2.2.1 x.1.2.2.2.1 x.2.1.1.1 x.2.1.1.2.2.2.1.1 x.2.1.1.2.2.2.1.2 x.2.2.1 x.2.2.2.1
def lEnd_l2_R (F m : Nat) (x : lEnd_l2_T.T) (kq : ZK) : ZO := lEnd_l2F F none (fun y0 y1 y2 y3 y4 y5 y6 y7 y8 y9 => kq (.exit 0) (lEnd_l2_T.inst (((y0, y1), (y2, (y3, (y4, ())))), (((y5, ((), ((), ((y6, y7), ())))), ((), ())), (y8, (y9, ())))))) m x.1.1.1 x.1.1.2 x.1.2.1 x.1.2.2.1 x.1.2.2.2.1 x.2.1.1.1 x.2.1.1.2.2.2.1.1 x.2.1.1.2.2.2.1.2 x.2.2.1 x.2.2.2.1
def lEnd_l3_G (F : Nat) (nx : lEnd_l3_T.T → ZO) (kq : ZK) (x : lEnd_l3_T.T) : ZO := lEnd_l3 F none (fun to_i to_n n s6 s7 payload s10_i s10_n s19_i s19_n to s4 => nx (((to_i, to_n), (n, (s6, (s7, ())))), (((payload, ((), ((), ((s10_i, s10_n), ((s19_i, s19_n), ()))))), ((), ())), (to, (s4, ()))))) (fun y0 y1 y2 y3 y4 y5 y6 y7 y8 y9 y10 y11 => kq (.exit 0) (lEnd_l3_T.inst (((y0, y1), (y2, (y3, (y4, ())))), (((y5, ((), ((), ((y6, y7), ((y8, y9), ()))))), ((), ())), (y10, (y11, ())))))) x.1.1.1 x.1.1.2 x.1.2.1 x.1.2.2.1 x.1.2.2.2.1 x.2.1.1.1 x.2.1.1.2.2.2.1.1 x.2.1.1.2.2.2.1.2 x.2.1.1.2.2.2.2.1.1 x.2.1.1.2.2.2.2.1.2 x.2.2.1 x.2.2.2.1
def lEnd_l3_R (F m : Nat) (x : lEnd_l3_T.T) (kq : ZK) : ZO := lEnd_l3F F none (fun y0 y1 y2 y3 y4 y5 y6 y7 y8 y9 y10 y11 => kq (.exit 0) (lEnd_l3_T.inst (((y0, y1), (y2, (y3, (y4, ())))), (((y5, ((), ((), ((y6, y7), ((y8, y9), ()))))), ((), ())), (y10, (y11, ())))))) m x.1.1.1 x.1.1.2 x.1.2.1 x.1.2.2.1 x.1.2.2.2.1 x.2.1.1.1 x.2.1.1.2.2.2.1.1 x.2.1.1.2.2.2.1.2 x.2.1.1.2.2.2.2.1.1 x.2.1.1.2.2.2.2.1.2 x.2.2.1 x.2.2.2.1
def lEnd_lo (F : Nat) : List (LoE Unit) := [⟨109, 1, LO.orT lEnd_l1_T (lEnd_l1_R F F) (LO.orT lEnd_l2_T (lEnd_l2_R F F) (LO.of lEnd_l3_T (lEnd_l3_R F F)))⟩]
def lEnd_book (F : Nat) : BookL Unit := { toBook := lEnd_book0, lo := losOf (lEnd_lo F), need := needsOf [] }
theorem lEnd_l1_step (F : Nat) : LStep prog (lEnd_book F) F 109 0 1 lEnd_l1_T (lEnd_l1_G F) := fun d x KQ => by kernel_rfl
theorem lEnd_l2_step (F : Nat) : LStep prog (lEnd_book F) F 109 0 1 lEnd_l2_T (lEnd_l2_G F) := fun d x KQ => by kernel_rfl
theorem lEnd_l3_step (F : Nat) : LStep prog (lEnd_book F) F 109 0 1 lEnd_l3_T (lEnd_l3_G F) := fun d x KQ => by kernel_rfl
theorem lEnd_loOk (F : Nat) : LoOk prog (lEnd_book F) F := loOk_of (l := lEnd_lo F) rfl (fa (loOne_of 0 (by kernel_rfl) (by kernel_rfl) (loIs_orT (lstep_run (lEnd_l1_step F) (fun _ _ => rfl) (fun _ _ _ _ => rfl)) (loIs_orT (lstep_run (lEnd_l2_step F) (fun _ _ => rfl) (fun _ _ _ _ => rfl)) (lstep_run (lEnd_l3_step F) (fun _ _ => rfl) (fun _ _ _ _ => rfl))))) fz)
theorem lEnd_run (F : Nat) (x : ArgsT lEnd_ps) (kend : List BV → ZO) : runFnL prog (lEnd_book F) F 20 62 (argsInst lEnd_ps x) [.d (.arr 16 (.int .u8))] kend = lEnd F x.1 x.2.1 none (fun y0 => kend [BV.d (.arr 16 (.int .u8)) y0]) := by kernel_rfl
theorem lEnd_contract  : Contract prog 62 lEnd_orc := con_of (B0 := lEnd_book0) zN zG mix_ok zT lEnd_run (orcsOf_ok (fa needed_contract (fa cSum_contract fz))) (by kernel_rfl) (fun _ => rfl) lEnd_loOk (fun x h => (lEnd_plain x.1 x.2.1 h).elim fun F hF => ⟨F, fun kend => hF none _⟩)
@[reducible] def lWrite_ps  : List PM := [.d (.int .i64), .d (.slc (.arr 16 (.int .u8)))]
def lWrite_orc  : Orc := Orc.of lWrite_ps false 0 fun x => (lWrite_P x.1 x.2.1, [.d (.pair (.int .i64) (.pair (.int .i64) (.pair (.slc (.arr 16 (.int .u8))) .unit))) (lWrite_r x.1 x.2.1)])
def lWrite_orcs  : List (FuncId × Orc) := []
def lWrite_book0  : Book := { Γ := gam, orc := orcsOf lWrite_orcs, hint := hintsOf [] }
def lWrite_lo (F : Nat) : List (LoE Unit) := []
def lWrite_book (F : Nat) : BookL Unit := { toBook := lWrite_book0, lo := losOf (lWrite_lo F), need := needsOf [] }
theorem lWrite_loOk (F : Nat) : LoOk prog (lWrite_book F) F := loOk_of (l := lWrite_lo F) rfl fz
theorem lWrite_run (F : Nat) (x : ArgsT lWrite_ps) (kend : List BV → ZO) : runFnL prog (lWrite_book F) F 20 60 (argsInst lWrite_ps x) [.d (.pair (.int .i64) (.pair (.int .i64) (.pair (.slc (.arr 16 (.int .u8))) .unit)))] kend = lWrite F x.1 x.2.1 none (fun y0 => kend [BV.d (.pair (.int .i64) (.pair (.int .i64) (.pair (.slc (.arr 16 (.int .u8))) .unit))) y0]) := by kernel_rfl
theorem lWrite_contract  : Contract prog 60 lWrite_orc := con_of (B0 := lWrite_book0) zN zG mix_ok zT lWrite_run (orcsOf_ok fz) (by kernel_rfl) (fun _ => rfl) lWrite_loOk (fun x h => (lWrite_plain x.1 x.2.1 h).elim fun F hF => ⟨F, fun kend => hF none _⟩)
@[reducible] def lSync_ps  : List PM := []
def lSync_orc  : Orc := Orc.of lSync_ps false 0 fun x => (lSync_P, [.d (.pair (.int .i64) (.pair (.int .i64) (.pair (.slc (.arr 16 (.int .u8))) .unit))) (lSync_r)])
def lSync_orcs  : List (FuncId × Orc) := []
def lSync_book0  : Book := { Γ := gam, orc := orcsOf lSync_orcs, hint := hintsOf [] }
def lSync_lo (F : Nat) : List (LoE Unit) := []
def lSync_book (F : Nat) : BookL Unit := { toBook := lSync_book0, lo := losOf (lSync_lo F), need := needsOf [] }
theorem lSync_loOk (F : Nat) : LoOk prog (lSync_book F) F := loOk_of (l := lSync_lo F) rfl fz
theorem lSync_run (F : Nat) (x : ArgsT lSync_ps) (kend : List BV → ZO) : runFnL prog (lSync_book F) F 20 61 (argsInst lSync_ps x) [.d (.pair (.int .i64) (.pair (.int .i64) (.pair (.slc (.arr 16 (.int .u8))) .unit)))] kend = lSync F  none (fun y0 => kend [BV.d (.pair (.int .i64) (.pair (.int .i64) (.pair (.slc (.arr 16 (.int .u8))) .unit))) y0]) := by kernel_rfl
theorem lSync_contract  : Contract prog 61 lSync_orc := con_of (B0 := lSync_book0) zN zG mix_ok zT lSync_run (orcsOf_ok fz) (by kernel_rfl) (fun _ => rfl) lSync_loOk (fun x h => (lSync_plain  h).elim fun F hF => ⟨F, fun kend => hF none _⟩)
@[reducible] def lAppend_ps  : List PM := [.d (.pair (.int .i64) (.pair (.int .i64) (.pair (.int .i64) .unit))), .d (.slc (.int .u8))]
def lAppend_orc  : Orc := Orc.of lAppend_ps false 0 fun x => (lAppend_P x.1 x.2.1, [.d (.pair (.int .i64) (.pair (.int .i64) (.pair (.int .i64) .unit))) (lAppend_r0 x.1 x.2.1), .d (.slc (.pair (.int .i64) (.pair (.int .i64) (.pair (.slc (.arr 16 (.int .u8))) .unit)))) (lAppend_r1 x.1 x.2.1), .d (.int .i64) (lAppend_r2 x.1 x.2.1)])
@[reducible] def lAppend_l1_T  : Tpl := { cur := ⟨[(0, .hnd .yield 0), (0, .ptr 5 []), (0, .ptr 6 []), (1, .var (.int .i64))], 26⟩, stk := [⟨[(0, .hnd .yield 0)], 0⟩, ⟨[(2, .ptr 1 [])], 13⟩, ⟨[(0, .hnd .yield 2)], 0⟩, ⟨[(1, .var (.slc (.int .u8))), (0, .ptr 7 []), (1, .ptr 8 []), (0, .nils), (0, .var (.int .i64)), (1, .var (.int .i64)), (0, .nils), (0, .ptr 3 [])], 66⟩, ⟨[], 0⟩], heap := [.lp 108 2 ⟨[(2, .ptr 1 [])], 13⟩ .ready, .box (.hnd .yield 2), .lp 26 13 ⟨[(10, .ptr 3 [])], 66⟩ .ready, .box (.row 4), .row 93 (.arr 16 (.int .u8)) false, .box (.var (.slc (.int .u8))), .box (.var (.int .i64)), .box (.var (.pair (.int .i64) (.pair (.int .i64) (.pair (.int .i64) .unit)))), .box (.var (.pair (.int .i64) (.pair (.int .i64) (.pair (.int .i64) .unit))))] }
def lAppend_orcs  : List (FuncId × Orc) := [(24, lCheck_orc), (58, lPages_orc), (60, lWrite_orc), (61, lSync_orc), (62, lEnd_orc)]
def lAppend_book0  : Book := { Γ := gam, orc := orcsOf lAppend_orcs, hint := hintsOf [(26, { keep := some [], keeps := [], own := [], dat := [], stk := [], rgb := [(5012, [(10, 0, 36)])] }), (142, { keep := some [0, 1, 2, 4], keeps := [(1, [0, 1, 2, 4])], own := [], dat := [], stk := [[0], [2, 3, 4, 7, 15], [0], [1, 2, 4, 5, 6, 8, 9, 10, 11, 40, 45, 49, 63, 64, 67, 73]] })] }
def lAppend_l1_G (F : Nat) (nx : lAppend_l1_T.T → ZO) (kq : ZK) (x : lAppend_l1_T.T) : ZO := lAppend_l1 F none (fun i payload s6 n parts s1 s2 l s4 => nx (((), ((), ((), (i, ())))), ((((), ()), (((), ()), (((), ()), ((payload, ((), ((), ((), (s6, (n, ((), ((), ())))))))), ((), ()))))), (((), ()), ((), (((), ()), ((), (parts, (s1, (s2, (l, (s4, ())))))))))))) (fun y0 y1 y2 y3 y4 y5 y6 y7 y8 => kq (.exit 0) (lAppend_l1_T.inst (((), ((), ((), (y0, ())))), ((((), ()), (((), ()), (((), ()), ((y1, ((), ((), ((), (y2, (y3, ((), ((), ())))))))), ((), ()))))), (((), ()), ((), (((), ()), ((), (y4, (y5, (y6, (y7, (y8, ()))))))))))))) x.1.2.2.2.1 x.2.1.2.2.2.1.1 x.2.1.2.2.2.1.2.2.2.2.1 x.2.1.2.2.2.1.2.2.2.2.2.1 x.2.2.2.2.2.2.1 x.2.2.2.2.2.2.2.1 x.2.2.2.2.2.2.2.2.1 x.2.2.2.2.2.2.2.2.2.1 x.2.2.2.2.2.2.2.2.2.2.1
def lAppend_l1_R (F m : Nat) (x : lAppend_l1_T.T) (kq : ZK) : ZO := lAppend_l1F F none (fun y0 y1 y2 y3 y4 y5 y6 y7 y8 => kq (.exit 0) (lAppend_l1_T.inst (((), ((), ((), (y0, ())))), ((((), ()), (((), ()), (((), ()), ((y1, ((), ((), ((), (y2, (y3, ((), ((), ())))))))), ((), ()))))), (((), ()), ((), (((), ()), ((), (y4, (y5, (y6, (y7, (y8, ()))))))))))))) m x.1.2.2.2.1 x.2.1.2.2.2.1.1 x.2.1.2.2.2.1.2.2.2.2.1 x.2.1.2.2.2.1.2.2.2.2.2.1 x.2.2.2.2.2.2.1 x.2.2.2.2.2.2.2.1 x.2.2.2.2.2.2.2.2.1 x.2.2.2.2.2.2.2.2.2.1 x.2.2.2.2.2.2.2.2.2.2.1
def lAppend_lo (F : Nat) : List (LoE Unit) := [⟨142, 1, LO.of lAppend_l1_T (lAppend_l1_R F F)⟩]
def lAppend_book (F : Nat) : BookL Unit := { toBook := lAppend_book0, lo := losOf (lAppend_lo F), need := needsOf [(142, 2)] }
theorem lAppend_l1_step (F : Nat) : LStep prog (lAppend_book F) F 142 0 1 lAppend_l1_T (lAppend_l1_G F) := fun d x KQ => by kernel_rfl
theorem lAppend_loOk (F : Nat) : LoOk prog (lAppend_book F) F := loOk_of (l := lAppend_lo F) rfl (fa (loOne_of 0 (by kernel_rfl) (by kernel_rfl) (lstep_run (lAppend_l1_step F) (fun _ _ => rfl) (fun _ _ _ _ => rfl))) fz)
theorem lAppend_run (F : Nat) (x : ArgsT lAppend_ps) (kend : List BV → ZO) : runFnL prog (lAppend_book F) F 20 26 (argsInst lAppend_ps x) [.d (.pair (.int .i64) (.pair (.int .i64) (.pair (.int .i64) .unit))), .d (.slc (.pair (.int .i64) (.pair (.int .i64) (.pair (.slc (.arr 16 (.int .u8))) .unit)))), .d (.int .i64)] kend = lAppend F x.1 x.2.1 none (fun y0 y1 y2 => kend [BV.d (.pair (.int .i64) (.pair (.int .i64) (.pair (.int .i64) .unit))) y0, BV.d (.slc (.pair (.int .i64) (.pair (.int .i64) (.pair (.slc (.arr 16 (.int .u8))) .unit)))) y1, BV.d (.int .i64) y2]) := by kernel_rfl
theorem lAppend_contract  : Contract prog 26 lAppend_orc := con_of (B0 := lAppend_book0) zN zG mix_ok zT lAppend_run (orcsOf_ok (fa lCheck_contract (fa lPages_contract (fa lWrite_contract (fa lSync_contract (fa lEnd_contract fz)))))) (by kernel_rfl) (fun _ => rfl) lAppend_loOk (fun x h => (lAppend_plain x.1 x.2.1 h).elim fun F hF => ⟨F, fun kend => hF none _⟩)
@[reducible] def qDataPages_ps  : List PM := [.d (.int .i64)]
def qDataPages_orc  : Orc := Orc.of qDataPages_ps true 0 fun x => (qDataPages_P x.1, [.d (.int .i64) (qDataPages_r x.1)])
def qDataPages_orcs  : List (FuncId × Orc) := []
def qDataPages_book0  : Book := { Γ := gam, orc := orcsOf qDataPages_orcs, hint := hintsOf [] }
def qDataPages_lo (F : Nat) : List (LoE Unit) := []
def qDataPages_book (F : Nat) : BookL Unit := { toBook := qDataPages_book0, lo := losOf (qDataPages_lo F), need := needsOf [] }
theorem qDataPages_loOk (F : Nat) : LoOk prog (qDataPages_book F) F := loOk_of (l := qDataPages_lo F) rfl fz
theorem qDataPages_run (F : Nat) (x : ArgsT qDataPages_ps) (kend : List BV → ZO) : runFnL prog (qDataPages_book F) F 20 114 (argsInst qDataPages_ps x) [.d (.int .i64)] kend = qDataPages F x.1 none (fun y0 => kend [BV.d (.int .i64) y0]) := by kernel_rfl
theorem qDataPages_contract  : Contract prog 114 qDataPages_orc := con_of (B0 := qDataPages_book0) zN zG mix_ok zT qDataPages_run (orcsOf_ok fz) (by kernel_rfl) (fun _ => rfl) qDataPages_loOk (fun x h => (qDataPages_plain x.1 h).elim fun F hF => ⟨F, fun kend => hF none _⟩)
@[reducible] def qPages_ps  : List PM := [.d (.int .i64)]
def qPages_orc  : Orc := Orc.of qPages_ps true 0 fun x => (qPages_P x.1, [.d (.int .i64) (qPages_r x.1)])
def qPages_orcs  : List (FuncId × Orc) := [(114, qDataPages_orc)]
def qPages_book0  : Book := { Γ := gam, orc := orcsOf qPages_orcs, hint := hintsOf [] }
def qPages_lo (F : Nat) : List (LoE Unit) := []
def qPages_book (F : Nat) : BookL Unit := { toBook := qPages_book0, lo := losOf (qPages_lo F), need := needsOf [] }
theorem qPages_loOk (F : Nat) : LoOk prog (qPages_book F) F := loOk_of (l := qPages_lo F) rfl fz
theorem qPages_run (F : Nat) (x : ArgsT qPages_ps) (kend : List BV → ZO) : runFnL prog (qPages_book F) F 20 66 (argsInst qPages_ps x) [.d (.int .i64)] kend = qPages F x.1 none (fun y0 => kend [BV.d (.int .i64) y0]) := by kernel_rfl
theorem qPages_contract  : Contract prog 66 qPages_orc := con_of (B0 := qPages_book0) zN zG mix_ok zT qPages_run (orcsOf_ok (fa qDataPages_contract fz)) (by kernel_rfl) (fun _ => rfl) qPages_loOk (fun x h => (qPages_plain x.1 h).elim fun F hF => ⟨F, fun kend => hF none _⟩)
@[reducible] def qLCheck_ps  : List PM := [.d (.pair (.int .i64) (.pair (.int .i64) (.pair (.int .i64) .unit)))]
def qLCheck_orc  : Orc := Orc.of qLCheck_ps true 0 fun x => (true, [.d (.int .i64) (qLCheck_r x.1)])
def qLCheck_orcs  : List (FuncId × Orc) := []
def qLCheck_book0  : Book := { Γ := gam, orc := orcsOf qLCheck_orcs, hint := hintsOf [] }
def qLCheck_lo (F : Nat) : List (LoE Unit) := []
def qLCheck_book (F : Nat) : BookL Unit := { toBook := qLCheck_book0, lo := losOf (qLCheck_lo F), need := needsOf [] }
theorem qLCheck_loOk (F : Nat) : LoOk prog (qLCheck_book F) F := loOk_of (l := qLCheck_lo F) rfl fz
theorem qLCheck_run (F : Nat) (x : ArgsT qLCheck_ps) (kend : List BV → ZO) : runFnL prog (qLCheck_book F) F 20 27 (argsInst qLCheck_ps x) [.d (.int .i64)] kend = qLCheck F x.1 none (fun y0 => kend [BV.d (.int .i64) y0]) := by kernel_rfl
theorem qLCheck_contract  : Contract prog 27 qLCheck_orc := con_of (B0 := qLCheck_book0) zN zG mix_ok zT qLCheck_run (orcsOf_ok fz) (by kernel_rfl) (fun _ => rfl) qLCheck_loOk (fun x _ => (qLCheck_plain x.1).elim fun F hF => ⟨F, fun kend => hF none _⟩)
@[reducible] def qData_ps  : List PM := [.d (.slc (.int .u8))]
def qData_orc  : Orc := Orc.of qData_ps false 0 fun x => (qData_P x.1, [.d (.slc (.arr 16 (.int .u8))) (qData_r x.1)])
@[reducible] def qData_l1_T  : Tpl := { cur := ⟨[(0, .var (.slc (.int .u8))), (2, .row 0), (0, .var (.int .i64))], 34⟩, stk := [⟨[], 0⟩], heap := [.row 93 (.arr 16 (.int .u8)) false] }
@[reducible] def qData_l2_T  : Tpl := { cur := ⟨[(0, .var (.slc (.int .u8))), (2, .row 0), (1, .var (.int .i64))], 33⟩, stk := [⟨[], 0⟩], heap := [.row 93 (.arr 16 (.int .u8)) false] }
def qData_orcs  : List (FuncId × Orc) := [(114, qDataPages_orc)]
def qData_book0  : Book := { Γ := gam, orc := orcsOf qData_orcs, hint := hintsOf [(67, { keep := some [0, 3, 4, 5], keeps := [(3, [0, 3, 4]), (7, [0, 3, 5])], own := [], dat := [], stk := [] })] }
def qData_l1_G (F : Nat) (nx : qData_l1_T.T → ZO) (kq : ZK) (x : qData_l1_T.T) : ZO := qData_l1 F none (fun payload i out => nx ((payload, ((), (i, ()))), (((), ()), (out, ())))) (fun y0 y1 y2 => kq (.exit 0) (qData_l1_T.inst ((y0, ((), (y1, ()))), (((), ()), (y2, ()))))) x.1.1 x.1.2.2.1 x.2.2.1
def qData_l1_R (F m : Nat) (x : qData_l1_T.T) (kq : ZK) : ZO := qData_l1F F none (fun y0 y1 y2 => kq (.exit 0) (qData_l1_T.inst ((y0, ((), (y1, ()))), (((), ()), (y2, ()))))) m x.1.1 x.1.2.2.1 x.2.2.1
def qData_l2_G (F : Nat) (nx : qData_l2_T.T → ZO) (kq : ZK) (x : qData_l2_T.T) : ZO := qData_l2 F none (fun payload i out => nx ((payload, ((), (i, ()))), (((), ()), (out, ())))) (fun y0 y1 y2 => kq (.exit 2) (qData_l2_T.inst ((y0, ((), (y1, ()))), (((), ()), (y2, ()))))) x.1.1 x.1.2.2.1 x.2.2.1
def qData_l2_R (F m : Nat) (x : qData_l2_T.T) (kq : ZK) : ZO := qData_l2F F none (fun y0 y1 y2 => kq (.exit 2) (qData_l2_T.inst ((y0, ((), (y1, ()))), (((), ()), (y2, ()))))) m x.1.1 x.1.2.2.1 x.2.2.1
def qData_lo (F : Nat) : List (LoE Unit) := [⟨67, 3, LO.of qData_l1_T (qData_l1_R F F)⟩,
 ⟨67, 7, LO.of qData_l2_T (qData_l2_R F F)⟩]
def qData_book (F : Nat) : BookL Unit := { toBook := qData_book0, lo := losOf (qData_lo F), need := needsOf [] }
theorem qData_l1_step (F : Nat) : LStep prog (qData_book F) F 67 0 3 qData_l1_T (qData_l1_G F) := fun d x KQ => by kernel_rfl
theorem qData_l2_step (F : Nat) : LStep prog (qData_book F) F 67 1 7 qData_l2_T (qData_l2_G F) := fun d x KQ => by kernel_rfl
theorem qData_loOk (F : Nat) : LoOk prog (qData_book F) F := loOk_of (l := qData_lo F) rfl (fa (loOne_of 0 (by kernel_rfl) (by kernel_rfl) (lstep_run (qData_l1_step F) (fun _ _ => rfl) (fun _ _ _ _ => rfl))) (fa (loOne_of 1 (by kernel_rfl) (by kernel_rfl) (lstep_run (qData_l2_step F) (fun _ _ => rfl) (fun _ _ _ _ => rfl))) fz))
theorem qData_run (F : Nat) (x : ArgsT qData_ps) (kend : List BV → ZO) : runFnL prog (qData_book F) F 20 67 (argsInst qData_ps x) [.d (.slc (.arr 16 (.int .u8)))] kend = qData F x.1 none (fun y0 => kend [BV.d (.slc (.arr 16 (.int .u8))) y0]) := by kernel_rfl
theorem qData_contract  : Contract prog 67 qData_orc := con_of (B0 := qData_book0) zN zG mix_ok zT qData_run (orcsOf_ok (fa qDataPages_contract fz)) (by kernel_rfl) (fun _ => rfl) qData_loOk (fun x h => (qData_plain x.1 h).elim fun F hF => ⟨F, fun kend => hF none _⟩)
@[reducible] def qPut_ps  : List PM := [.d (.arr 16 (.int .u8)), .d (.int .i64), .d (.int .i64), .d (.int .i64)]
def qPut_orc  : Orc := Orc.of qPut_ps true 0 fun x => (qPut_P x.1 x.2.1 x.2.2.1 x.2.2.2.1, [.d (.arr 16 (.int .u8)) (qPut_r x.1 x.2.1 x.2.2.1 x.2.2.2.1)])
@[reducible] def qPut_l1_T  : Tpl := { cur := ⟨[(1, .var (.int .i64)), (1, .var (.int .i64)), (0, .ptr 0 []), (3, .ptr 1 []), (0, .var (.int .i64))], 16⟩, stk := [⟨[], 0⟩], heap := [.box (.var (.arr 16 (.int .u8))), .box (.var (.arr 16 (.int .u8)))] }
def qPut_orcs  : List (FuncId × Orc) := []
def qPut_book0  : Book := { Γ := gam, orc := orcsOf qPut_orcs, hint := hintsOf [(115, { keep := some [1, 3, 4, 8, 9], keeps := [(2, [1, 3, 4, 8, 9])], own := [], dat := [], stk := [] })] }
def qPut_l1_G (F : Nat) (nx : qPut_l1_T.T → ZO) (kq : ZK) (x : qPut_l1_T.T) : ZO := qPut_l1 F none (fun at_ n i p s8 => nx ((at_, (n, ((), ((), (i, ()))))), (((), ()), (p, (s8, ()))))) (fun y0 y1 y2 y3 y4 => kq (.exit 0) (qPut_l1_T.inst ((y0, (y1, ((), ((), (y2, ()))))), (((), ()), (y3, (y4, ())))))) x.1.1 x.1.2.1 x.1.2.2.2.2.1 x.2.2.1 x.2.2.2.1
def qPut_l1_R (F m : Nat) (x : qPut_l1_T.T) (kq : ZK) : ZO := qPut_l1F F none (fun y0 y1 y2 y3 y4 => kq (.exit 0) (qPut_l1_T.inst ((y0, (y1, ((), ((), (y2, ()))))), (((), ()), (y3, (y4, ())))))) m x.1.1 x.1.2.1 x.1.2.2.2.2.1 x.2.2.1 x.2.2.2.1
def qPut_lo (F : Nat) : List (LoE Unit) := [⟨115, 2, LO.of qPut_l1_T (qPut_l1_R F F)⟩]
def qPut_book (F : Nat) : BookL Unit := { toBook := qPut_book0, lo := losOf (qPut_lo F), need := needsOf [] }
theorem qPut_l1_step (F : Nat) : LStep prog (qPut_book F) F 115 0 2 qPut_l1_T (qPut_l1_G F) := fun d x KQ => by kernel_rfl
theorem qPut_loOk (F : Nat) : LoOk prog (qPut_book F) F := loOk_of (l := qPut_lo F) rfl (fa (loOne_of 0 (by kernel_rfl) (by kernel_rfl) (lstep_run (qPut_l1_step F) (fun _ _ => rfl) (fun _ _ _ _ => rfl))) fz)
theorem qPut_run (F : Nat) (x : ArgsT qPut_ps) (kend : List BV → ZO) : runFnL prog (qPut_book F) F 20 115 (argsInst qPut_ps x) [.d (.arr 16 (.int .u8))] kend = qPut F x.1 x.2.1 x.2.2.1 x.2.2.2.1 none (fun y0 => kend [BV.d (.arr 16 (.int .u8)) y0]) := by kernel_rfl
theorem qPut_contract  : Contract prog 115 qPut_orc := con_of (B0 := qPut_book0) zN zG mix_ok zT qPut_run (orcsOf_ok fz) (by kernel_rfl) (fun _ => rfl) qPut_loOk (fun x h => (qPut_plain x.1 x.2.1 x.2.2.1 x.2.2.2.1 h).elim fun F hF => ⟨F, fun kend => hF none _⟩)
@[reducible] def qCommit_ps  : List PM := [.d (.slc (.int .u8)), .d (.int .i64)]
def qCommit_orc  : Orc := Orc.of qCommit_ps true 0 fun x => (qCommit_P x.1 x.2.1, [.d (.arr 16 (.int .u8)) (qCommit_r x.1 x.2.1)])
def qCommit_orcs  : List (FuncId × Orc) := [(114, qDataPages_orc), (115, qPut_orc), (116, kSum_orc)]
def qCommit_book0  : Book := { Γ := gam, orc := orcsOf qCommit_orcs, hint := hintsOf [] }
def qCommit_lo (F : Nat) : List (LoE Unit) := []
def qCommit_book (F : Nat) : BookL Unit := { toBook := qCommit_book0, lo := losOf (qCommit_lo F), need := needsOf [] }
theorem qCommit_loOk (F : Nat) : LoOk prog (qCommit_book F) F := loOk_of (l := qCommit_lo F) rfl fz
theorem qCommit_run (F : Nat) (x : ArgsT qCommit_ps) (kend : List BV → ZO) : runFnL prog (qCommit_book F) F 20 68 (argsInst qCommit_ps x) [.d (.arr 16 (.int .u8))] kend = qCommit F x.1 x.2.1 none (fun y0 => kend [BV.d (.arr 16 (.int .u8)) y0]) := by kernel_rfl
theorem qCommit_contract  : Contract prog 68 qCommit_orc := con_of (B0 := qCommit_book0) zN zG mix_ok zT qCommit_run (orcsOf_ok (fa qDataPages_contract (fa qPut_contract (fa kSum_contract fz)))) (by kernel_rfl) (fun _ => rfl) qCommit_loOk (fun x h => (qCommit_plain x.1 x.2.1 h).elim fun F hF => ⟨F, fun kend => hF none _⟩)
@[reducible] def qAppend_ps  : List PM := [.d (.pair (.int .i64) (.pair (.int .i64) (.pair (.int .i64) .unit))), .d (.slc (.int .u8))]
def qAppend_orc  : Orc := Orc.of qAppend_ps false 0 fun x => (qAppend_P x.1 x.2.1, [.d (.pair (.int .i64) (.pair (.int .i64) (.pair (.int .i64) .unit))) (qAppend_r0 x.1 x.2.1), .d (.slc (.pair (.int .i64) (.pair (.int .i64) (.pair (.slc (.arr 16 (.int .u8))) .unit)))) (qAppend_r1 x.1 x.2.1), .d (.int .i64) (qAppend_r2 x.1 x.2.1)])
def qAppend_orcs  : List (FuncId × Orc) := [(27, qLCheck_orc), (66, qPages_orc), (67, qData_orc), (68, qCommit_orc)]
def qAppend_book0  : Book := { Γ := gam, orc := orcsOf qAppend_orcs, hint := hintsOf [] }
def qAppend_lo (F : Nat) : List (LoE Unit) := []
def qAppend_book (F : Nat) : BookL Unit := { toBook := qAppend_book0, lo := losOf (qAppend_lo F), need := needsOf [] }
theorem qAppend_loOk (F : Nat) : LoOk prog (qAppend_book F) F := loOk_of (l := qAppend_lo F) rfl fz
theorem qAppend_run (F : Nat) (x : ArgsT qAppend_ps) (kend : List BV → ZO) : runFnL prog (qAppend_book F) F 20 30 (argsInst qAppend_ps x) [.d (.pair (.int .i64) (.pair (.int .i64) (.pair (.int .i64) .unit))), .d (.slc (.pair (.int .i64) (.pair (.int .i64) (.pair (.slc (.arr 16 (.int .u8))) .unit)))), .d (.int .i64)] kend = qAppend F x.1 x.2.1 none (fun y0 y1 y2 => kend [BV.d (.pair (.int .i64) (.pair (.int .i64) (.pair (.int .i64) .unit))) y0, BV.d (.slc (.pair (.int .i64) (.pair (.int .i64) (.pair (.slc (.arr 16 (.int .u8))) .unit)))) y1, BV.d (.int .i64) y2]) := by kernel_rfl
theorem qAppend_contract  : Contract prog 30 qAppend_orc := con_of (B0 := qAppend_book0) zN zG mix_ok zT qAppend_run (orcsOf_ok (fa qLCheck_contract (fa qPages_contract (fa qData_contract (fa qCommit_contract fz))))) (by kernel_rfl) (fun _ => rfl) qAppend_loOk (fun x h => (qAppend_plain x.1 x.2.1 h).elim fun F hF => ⟨F, fun kend => hF none _⟩)
end Go.AI
namespace Go.AI
open Go
open Go.Proofs.Tryz (prog)
set_option linter.unusedVariables false
@[reducible] def tCheck_ps  : List PM := [.d (.slc (.pair (.int .i64) (.pair (.slc (.int .u8)) .unit)))]
def tCheck_orc  : Orc := Orc.of tCheck_ps true 0 fun x => (tCheck_P x.1, [.d (.int .i64) (tCheck_r x.1)])
@[reducible] def tCheck_l1_T  : Tpl := { cur := ⟨[(2, .var (.int .i64)), (5, .var (.slc (.pair (.int .i64) (.pair (.slc (.int .u8)) .unit)))), (0, .var (.int .i64)), (0, .var (.int .i64))], 14⟩, stk := [⟨[], 0⟩], heap := [] }
def tCheck_orcs  : List (FuncId × Orc) := []
def tCheck_book0  : Book := { Γ := gam, orc := orcsOf tCheck_orcs, hint := hintsOf [(37, { keep := some [2, 8, 9, 10], keeps := [(4, [2, 8, 9, 10])], own := [], dat := [], stk := [] })] }
def tCheck_l1_G (F : Nat) (nx : tCheck_l1_T.T → ZO) (kq : ZK) (x : tCheck_l1_T.T) : ZO := tCheck_l1 F none (fun s2 s8 s9 s10 => nx ((s2, (s8, (s9, (s10, ())))), (((), ()), ()))) (fun y0 y1 y2 y3 => kq .ret (tCheck_l1_T.inst ((y0, (y1, (y2, (y3, ())))), (((), ()), ())))) (fun y0 y1 y2 y3 => kq (.exit 0) (tCheck_l1_T.inst ((y0, (y1, (y2, (y3, ())))), (((), ()), ())))) x.1.1 x.1.2.1 x.1.2.2.1 x.1.2.2.2.1
def tCheck_l1_R (F m : Nat) (x : tCheck_l1_T.T) (kq : ZK) : ZO := tCheck_l1F F none (fun y0 y1 y2 y3 => kq .ret (tCheck_l1_T.inst ((y0, (y1, (y2, (y3, ())))), (((), ()), ())))) (fun y0 y1 y2 y3 => kq (.exit 0) (tCheck_l1_T.inst ((y0, (y1, (y2, (y3, ())))), (((), ()), ())))) m x.1.1 x.1.2.1 x.1.2.2.1 x.1.2.2.2.1
def tCheck_lo (F : Nat) : List (LoE Unit) := [⟨37, 4, LO.of tCheck_l1_T (tCheck_l1_R F F)⟩]
def tCheck_book (F : Nat) : BookL Unit := { toBook := tCheck_book0, lo := losOf (tCheck_lo F), need := needsOf [(37, 1)] }
theorem tCheck_l1_step (F : Nat) : LStep prog (tCheck_book F) F 37 0 4 tCheck_l1_T (tCheck_l1_G F) := fun d x KQ => by kernel_rfl
theorem tCheck_loOk (F : Nat) : LoOk prog (tCheck_book F) F := loOk_of (l := tCheck_lo F) rfl (fa (loOne_of 0 (by kernel_rfl) (by kernel_rfl) (lstep_run (tCheck_l1_step F) (fun _ _ => rfl) (fun _ _ _ _ => rfl))) fz)
theorem tCheck_run (F : Nat) (x : ArgsT tCheck_ps) (kend : List BV → ZO) : runFnL prog (tCheck_book F) F 20 37 (argsInst tCheck_ps x) [.d (.int .i64)] kend = tCheck F x.1 none (fun y0 => kend [BV.d (.int .i64) y0]) := by kernel_rfl
theorem tCheck_contract  : Contract prog 37 tCheck_orc := con_of (B0 := tCheck_book0) zN zG mix_ok zT tCheck_run (orcsOf_ok fz) (by kernel_rfl) (fun _ => rfl) tCheck_loOk (fun x h => (tCheck_plain x.1 h).elim fun F hF => ⟨F, fun kend => hF none _⟩)
def tputI_0_orcs  : List (FuncId × Orc) := [(51, wire_PutInt_orc)]
def tputI_0_book0  : Book := { Γ := gam, orc := orcsOf tputI_0_orcs, hint := hintsOf [] }
def tputI_0_lo (F : Nat) : List (LoE Unit) := []
def tputI_0_book (F : Nat) : BookL Unit := { toBook := tputI_0_book0, lo := losOf (tputI_0_lo F), need := needsOf [] }
theorem tputI_0_loOk (F : Nat) : LoOk prog (tputI_0_book F) F := loOk_of (l := tputI_0_lo F) rfl fz
theorem tputI_0_run (F : Nat) (b : ZB) (x_ : Int) (kend : List BV → ZO) : runFnL prog (tputI_0_book F) F 20 50 [.d (.slc (.int .u8)) b, .f 51, .d (.int .i64) x_] [.o 5 (.int .u8)] kend = tputI_0 F b x_ none (fun y0 => kend [BV.o 5 (.int .u8) y0]) := by kernel_rfl
theorem tputI_0_contract  : Contract prog 50 (Orc.of [.d (.slc (.int .u8)), .f, .d (.int .i64)] true 1 fun x => ((Nat.beq x.2.1 51) && tputI_P x.1 x.2.1 x.2.2.1, [.o 5 (.int .u8) (tputI_r x.1 x.2.1 x.2.2.1)])) := contract_of_runL (B0 := tputI_0_book0) zN zG mix_ok zT (orcsOf_ok (fa wire_PutInt_contract fz)) (by kernel_rfl) (fun x h => by
 obtain ⟨x0, x1, x2, _⟩ := x
 simp only [Bool.and_eq_true] at h
 obtain ⟨e, h⟩ := h
 have e := Nat.eq_of_beq_eq_true e
 subst e
 obtain ⟨F, hF⟩ := tputI_0_plain x0 x2 h
 exact ⟨F, 20, tputI_0_book F, rfl, tputI_0_loOk F, fun kend => (tputI_0_run F x0 x2 kend).trans (hF none (fun y0 => kend [BV.o 5 (.int .u8) y0]))⟩)
def tputI_orc  : Orc := Orc.of [.d (.slc (.int .u8)), .f, .d (.int .i64)] true 1 fun x => ((Nat.beq x.2.1 51) && tputI_P x.1 x.2.1 x.2.2.1, [.o 5 (.int .u8) (tputI_r x.1 x.2.1 x.2.2.1)])
theorem tputI_contract  : Contract prog 50 tputI_orc := contract_cases tputI_0_contract.1 (fun x h => by
 obtain ⟨x0, x1, x2, _⟩ := x
 simp only [Bool.and_eq_true] at h
 obtain ⟨e, _⟩ := h
 rcases e with e
 ·have e := Nat.eq_of_beq_eq_true e
  subst e
  exact ⟨_, tputI_0_contract, rfl⟩)
def tputB_0_orcs  : List (FuncId × Orc) := [(53, wire_PutBytes_orc)]
def tputB_0_book0  : Book := { Γ := gam, orc := orcsOf tputB_0_orcs, hint := hintsOf [] }
def tputB_0_lo (F : Nat) : List (LoE Unit) := []
def tputB_0_book (F : Nat) : BookL Unit := { toBook := tputB_0_book0, lo := losOf (tputB_0_lo F), need := needsOf [] }
theorem tputB_0_loOk (F : Nat) : LoOk prog (tputB_0_book F) F := loOk_of (l := tputB_0_lo F) rfl fz
theorem tputB_0_run (F : Nat) (b x_ : ZB) (kend : List BV → ZO) : runFnL prog (tputB_0_book F) F 20 52 [.d (.slc (.int .u8)) b, .f 53, .d (.slc (.int .u8)) x_] [.o 5 (.int .u8)] kend = tputB_0 F b x_ none (fun y0 => kend [BV.o 5 (.int .u8) y0]) := by kernel_rfl
theorem tputB_0_contract  : Contract prog 52 (Orc.of [.d (.slc (.int .u8)), .f, .d (.slc (.int .u8))] true 1 fun x => ((Nat.beq x.2.1 53) && tputB_P x.1 x.2.1 x.2.2.1, [.o 5 (.int .u8) (tputB_r x.1 x.2.1 x.2.2.1)])) := contract_of_runL (B0 := tputB_0_book0) zN zG mix_ok zT (orcsOf_ok (fa wire_PutBytes_contract fz)) (by kernel_rfl) (fun x h => by
 obtain ⟨x0, x1, x2, _⟩ := x
 simp only [Bool.and_eq_true] at h
 obtain ⟨e, h⟩ := h
 have e := Nat.eq_of_beq_eq_true e
 subst e
 obtain ⟨F, hF⟩ := tputB_0_plain x0 x2 h
 exact ⟨F, 20, tputB_0_book F, rfl, tputB_0_loOk F, fun kend => (tputB_0_run F x0 x2 kend).trans (hF none (fun y0 => kend [BV.o 5 (.int .u8) y0]))⟩)
def tputB_orc  : Orc := Orc.of [.d (.slc (.int .u8)), .f, .d (.slc (.int .u8))] true 1 fun x => ((Nat.beq x.2.1 53) && tputB_P x.1 x.2.1 x.2.2.1, [.o 5 (.int .u8) (tputB_r x.1 x.2.1 x.2.2.1)])
theorem tputB_contract  : Contract prog 52 tputB_orc := contract_cases tputB_0_contract.1 (fun x h => by
 obtain ⟨x0, x1, x2, _⟩ := x
 simp only [Bool.and_eq_true] at h
 obtain ⟨e, _⟩ := h
 rcases e with e
 ·have e := Nat.eq_of_beq_eq_true e
  subst e
  exact ⟨_, tputB_0_contract, rfl⟩)
@[reducible] def tEncode_ps  : List PM := [.d (.slc (.pair (.int .i64) (.pair (.slc (.int .u8)) .unit)))]
def tEncode_orc  : Orc := Orc.of tEncode_ps true 1 fun x => (tEncode_P x.1, [.o 5 (.int .u8) (tEncode_r0 x.1), .d (.int .i64) (tEncode_r1 x.1)])
@[reducible] def tEncode_l1_T  : Tpl := { cur := ⟨[(5, .row 0), (10, .var (.slc (.pair (.int .i64) (.pair (.slc (.int .u8)) .unit)))), (0, .var (.int .i64)), (0, .var (.int .i64))], 15⟩, stk := [⟨[], 0⟩], heap := [.row 5 (.int .u8) false] }
def tEncode_orcs  : List (FuncId × Orc) := [(37, tCheck_orc), (50, tputI_orc), (52, tputB_orc)]
def tEncode_book0  : Book := { Γ := gam, orc := orcsOf tEncode_orcs, hint := hintsOf [(23, { keep := some [5, 16, 17, 18], keeps := [(6, [5, 16, 17, 18])], own := [], dat := [], stk := [] })] }
def tEncode_l1_G (F : Nat) (nx : tEncode_l1_T.T → ZO) (kq : ZK) (x : tEncode_l1_T.T) : ZO := tEncode_l1 F none (fun s16 s17 s18 b => nx (((), (s16, (s17, (s18, ())))), (((), ()), (b, ())))) (fun y0 y1 y2 y3 => kq (.exit 0) (tEncode_l1_T.inst (((), (y0, (y1, (y2, ())))), (((), ()), (y3, ()))))) x.1.2.1 x.1.2.2.1 x.1.2.2.2.1 x.2.2.1
def tEncode_l1_R (F m : Nat) (x : tEncode_l1_T.T) (kq : ZK) : ZO := tEncode_l1F F none (fun y0 y1 y2 y3 => kq (.exit 0) (tEncode_l1_T.inst (((), (y0, (y1, (y2, ())))), (((), ()), (y3, ()))))) m x.1.2.1 x.1.2.2.1 x.1.2.2.2.1 x.2.2.1
def tEncode_lo (F : Nat) : List (LoE Unit) := [⟨23, 6, LO.of tEncode_l1_T (tEncode_l1_R F F)⟩]
def tEncode_book (F : Nat) : BookL Unit := { toBook := tEncode_book0, lo := losOf (tEncode_lo F), need := needsOf [] }
def tEncode_l1_z (tCheck_Pz : (List ZR) → Bool) (tCheck_rz : (List ZR) → Int) (tputI_Pz : ZB → Nat → Int → Bool) (tputI_rz : ZB → Nat → Int → ZB) (tputB_Pz : ZB → Nat → ZB → Bool) (tputB_rz : ZB → Nat → ZB → ZB) {X : Type} (F : Nat) (fail : X) (next ex0 : List ZR → Int → Int → ZB → X) (s16 : List ZR) (s17 s18 : Int) (b : ZB) : X :=
 bif (decide (s18 < s17)) then
  bif ((decide ((0 : Int) ≤ s18)) && (decide (s18 < ((s16.length : Nat) : Int)))) then
  bif (tputI_Pz b (51 : Nat) (List.getD s16 (s18).toNat ((0 : Int), (([] : ZB), ()))).1) then
  bif (tputB_Pz (tputI_rz b (51 : Nat) (List.getD s16 (s18).toNat ((0 : Int), (([] : ZB), ()))).1) (53 : Nat) (List.getD s16 (s18).toNat ((0 : Int), (([] : ZB), ()))).2.1) then
  next s16 s17 (addI s18 (1 : Int)) (tputB_rz (tputI_rz b (51 : Nat) (List.getD s16 (s18).toNat ((0 : Int), (([] : ZB), ()))).1) (53 : Nat) (List.getD s16 (s18).toNat ((0 : Int), (([] : ZB), ()))).2.1)
  else fail
  else fail
  else fail
 else
 ex0 s16 s17 s18 b
def tEncode_z (tCheck_Pz : (List ZR) → Bool) (tCheck_rz : (List ZR) → Int) (tputI_Pz : ZB → Nat → Int → Bool) (tputI_rz : ZB → Nat → Int → ZB) (tputB_Pz : ZB → Nat → ZB → Bool) (tputB_rz : ZB → Nat → ZB → ZB) {X : Type} (F : Nat) (l : List ZR) (fail : X) (ret : ZB → Int → X) : X :=
 bif (tCheck_Pz l) then
 bif ((tCheck_rz l) != (0 : Int)) then
  ret ([] : ZB) (tCheck_rz l)
 else
 bif (tputI_Pz ([] : ZB) (51 : Nat) ((l.length : Nat) : Int)) then
 tEncode_l1F F fail
  (fun (s16 : List ZR) (s17 : Int) (s18 : Int) (b : ZB) =>
   bif (decide (((b.length : Nat) : Int) > (65536 : Int))) then
    ret ([] : ZB) (5 : Int)
   else
   ret b (0 : Int))
  F l ((l.length : Nat) : Int) (0 : Int) (tputI_rz ([] : ZB) (51 : Nat) ((l.length : Nat) : Int))
 else fail
 else fail
def tEncode_orcs_z (tCheck_Pz : (List ZR) → Bool) (tCheck_rz : (List ZR) → Int) (tputI_Pz : ZB → Nat → Int → Bool) (tputI_rz : ZB → Nat → Int → ZB) (tputB_Pz : ZB → Nat → ZB → Bool) (tputB_rz : ZB → Nat → ZB → ZB) : List (FuncId × Orc) := [(37, Orc.of tCheck_ps true 0 fun x => (tCheck_Pz x.1, [.d (.int .i64) (tCheck_rz x.1)])), (50, Orc.of [.d (.slc (.int .u8)), .f, .d (.int .i64)] true 1 fun x => ((Nat.beq x.2.1 51) && tputI_Pz x.1 x.2.1 x.2.2.1, [.o 5 (.int .u8) (tputI_rz x.1 x.2.1 x.2.2.1)])), (52, Orc.of [.d (.slc (.int .u8)), .f, .d (.slc (.int .u8))] true 1 fun x => ((Nat.beq x.2.1 53) && tputB_Pz x.1 x.2.1 x.2.2.1, [.o 5 (.int .u8) (tputB_rz x.1 x.2.1 x.2.2.1)]))]
def tEncode_book0_z (tCheck_Pz : (List ZR) → Bool) (tCheck_rz : (List ZR) → Int) (tputI_Pz : ZB → Nat → Int → Bool) (tputI_rz : ZB → Nat → Int → ZB) (tputB_Pz : ZB → Nat → ZB → Bool) (tputB_rz : ZB → Nat → ZB → ZB) : Book := { Γ := gam, orc := orcsOf (tEncode_orcs_z tCheck_Pz tCheck_rz tputI_Pz tputI_rz tputB_Pz tputB_rz), hint := hintsOf [(23, { keep := some [5, 16, 17, 18], keeps := [(6, [5, 16, 17, 18])], own := [], dat := [], stk := [] })] }
def tEncode_book_z (tCheck_Pz : (List ZR) → Bool) (tCheck_rz : (List ZR) → Int) (tputI_Pz : ZB → Nat → Int → Bool) (tputI_rz : ZB → Nat → Int → ZB) (tputB_Pz : ZB → Nat → ZB → Bool) (tputB_rz : ZB → Nat → ZB → ZB) (F : Nat) : BookL Unit := { toBook := tEncode_book0_z tCheck_Pz tCheck_rz tputI_Pz tputI_rz tputB_Pz tputB_rz, lo := losOf (tEncode_lo F), need := needsOf [] }
def tEncode_l1_G_z (tCheck_Pz : (List ZR) → Bool) (tCheck_rz : (List ZR) → Int) (tputI_Pz : ZB → Nat → Int → Bool) (tputI_rz : ZB → Nat → Int → ZB) (tputB_Pz : ZB → Nat → ZB → Bool) (tputB_rz : ZB → Nat → ZB → ZB) (F : Nat) (nx : tEncode_l1_T.T → ZO) (kq : ZK) (x : tEncode_l1_T.T) : ZO := tEncode_l1_z tCheck_Pz tCheck_rz tputI_Pz tputI_rz tputB_Pz tputB_rz F none (fun s16 s17 s18 b => nx (((), (s16, (s17, (s18, ())))), (((), ()), (b, ())))) (fun y0 y1 y2 y3 => kq (.exit 0) (tEncode_l1_T.inst (((), (y0, (y1, (y2, ())))), (((), ()), (y3, ()))))) x.1.2.1 x.1.2.2.1 x.1.2.2.2.1 x.2.2.1
theorem tEncode_l1_step_z (tCheck_Pz : (List ZR) → Bool) (tCheck_rz : (List ZR) → Int) (tputI_Pz : ZB → Nat → Int → Bool) (tputI_rz : ZB → Nat → Int → ZB) (tputB_Pz : ZB → Nat → ZB → Bool) (tputB_rz : ZB → Nat → ZB → ZB) (F : Nat) : LStep prog (tEncode_book_z tCheck_Pz tCheck_rz tputI_Pz tputI_rz tputB_Pz tputB_rz F) F 23 0 6 tEncode_l1_T (tEncode_l1_G_z tCheck_Pz tCheck_rz tputI_Pz tputI_rz tputB_Pz tputB_rz F) := fun d x KQ => by kernel_rfl
theorem tEncode_run_z (tCheck_Pz : (List ZR) → Bool) (tCheck_rz : (List ZR) → Int) (tputI_Pz : ZB → Nat → Int → Bool) (tputI_rz : ZB → Nat → Int → ZB) (tputB_Pz : ZB → Nat → ZB → Bool) (tputB_rz : ZB → Nat → ZB → ZB) (F : Nat) (x : ArgsT tEncode_ps) (kend : List BV → ZO) : runFnL prog (tEncode_book_z tCheck_Pz tCheck_rz tputI_Pz tputI_rz tputB_Pz tputB_rz F) F 20 23 (argsInst tEncode_ps x) [.o 5 (.int .u8), .d (.int .i64)] kend = tEncode_z tCheck_Pz tCheck_rz tputI_Pz tputI_rz tputB_Pz tputB_rz F x.1 none (fun y0 y1 => kend [BV.o 5 (.int .u8) y0, BV.d (.int .i64) y1]) := by kernel_rfl
theorem tEncode_l1_step (F : Nat) : LStep prog (tEncode_book F) F 23 0 6 tEncode_l1_T (tEncode_l1_G F) := tEncode_l1_step_z tCheck_P tCheck_r tputI_P tputI_r tputB_P tputB_r F
theorem tEncode_loOk (F : Nat) : LoOk prog (tEncode_book F) F := loOk_of (l := tEncode_lo F) rfl (fa (loOne_of 0 (by kernel_rfl) (by kernel_rfl) (lstep_run (tEncode_l1_step F) (fun _ _ => rfl) (fun _ _ _ _ => rfl))) fz)
theorem tEncode_run (F : Nat) (x : ArgsT tEncode_ps) (kend : List BV → ZO) : runFnL prog (tEncode_book F) F 20 23 (argsInst tEncode_ps x) [.o 5 (.int .u8), .d (.int .i64)] kend = tEncode F x.1 none (fun y0 y1 => kend [BV.o 5 (.int .u8) y0, BV.d (.int .i64) y1]) := tEncode_run_z tCheck_P tCheck_r tputI_P tputI_r tputB_P tputB_r F x kend
theorem tEncode_contract  : Contract prog 23 tEncode_orc := con_of (B0 := tEncode_book0) zN zG mix_ok zT tEncode_run (orcsOf_ok (fa tCheck_contract (fa tputI_contract (fa tputB_contract fz)))) (by kernel_rfl) (fun _ => rfl) tEncode_loOk (fun x h => (tEncode_plain x.1 h).elim fun F hF => ⟨F, fun kend => hF none _⟩)
end Go.AI
namespace Go.AI
open Go
open Go.Proofs.Tryz (prog)
set_option linter.unusedVariables false
@[reducible] def tCommit_ps  : List PM := [.d (.pair (.int .i64) (.pair (.int .i64) (.pair (.int .i64) .unit))), .d (.slc (.int .u8)), .d (.slc (.pair (.int .i64) (.pair (.slc (.int .u8)) .unit)))]
def tCommit_orc  : Orc := Orc.of tCommit_ps false 0 fun x => (tCommit_P x.1 x.2.1 x.2.2.1, [.d (.pair (.int .i64) (.pair (.int .i64) (.pair (.int .i64) .unit))) (tCommit_r0 x.1 x.2.1 x.2.2.1), .d (.slc (.pair (.int .i64) (.pair (.int .i64) (.pair (.slc (.arr 16 (.int .u8))) .unit)))) (tCommit_r1 x.1 x.2.1 x.2.2.1), .d (.int .i64) (tCommit_r2 x.1 x.2.1 x.2.2.1)])
def tCommit_orcs  : List (FuncId × Orc) := [(23, tEncode_orc), (24, lCheck_orc), (25, cSeal_orc), (26, lAppend_orc)]
def tCommit_book0  : Book := { Γ := gam, orc := orcsOf tCommit_orcs, hint := hintsOf [] }
def tCommit_lo (F : Nat) : List (LoE Unit) := []
def tCommit_book (F : Nat) : BookL Unit := { toBook := tCommit_book0, lo := losOf (tCommit_lo F), need := needsOf [] }
theorem tCommit_loOk (F : Nat) : LoOk prog (tCommit_book F) F := loOk_of (l := tCommit_lo F) rfl fz
theorem tCommit_run (F : Nat) (x : ArgsT tCommit_ps) (kend : List BV → ZO) : runFnL prog (tCommit_book F) F 20 10 (argsInst tCommit_ps x) [.d (.pair (.int .i64) (.pair (.int .i64) (.pair (.int .i64) .unit))), .d (.slc (.pair (.int .i64) (.pair (.int .i64) (.pair (.slc (.arr 16 (.int .u8))) .unit)))), .d (.int .i64)] kend = tCommit F x.1 x.2.1 x.2.2.1 none (fun y0 y1 y2 => kend [BV.d (.pair (.int .i64) (.pair (.int .i64) (.pair (.int .i64) .unit))) y0, BV.d (.slc (.pair (.int .i64) (.pair (.int .i64) (.pair (.slc (.arr 16 (.int .u8))) .unit)))) y1, BV.d (.int .i64) y2]) := by kernel_rfl
theorem tCommit_contract  : Contract prog 10 tCommit_orc := con_of (B0 := tCommit_book0) zN zG mix_ok zT tCommit_run (orcsOf_ok (fa tEncode_contract (fa lCheck_contract (fa cSeal_contract (fa lAppend_contract fz))))) (by kernel_rfl) (fun _ => rfl) tCommit_loOk (fun x h => (tCommit_plain x.1 x.2.1 x.2.2.1 h).elim fun F hF => ⟨F, fun kend => hF none _⟩)
@[reducible] def law50_awake_ps  : List PM := []
def law50_awake_orc  : Orc := Orc.of law50_awake_ps true 0 fun x => (true, [.d .bool (law50_awake_r)])
def law50_awake_orcs  : List (FuncId × Orc) := [(10, tCommit_orc), (23, tEncode_orc)]
def law50_awake_book0  : Book := { Γ := gam, orc := orcsOf law50_awake_orcs, hint := hintsOf [] }
def law50_awake_lo (F : Nat) : List (LoE Unit) := []
def law50_awake_book (F : Nat) : BookL Unit := { toBook := law50_awake_book0, lo := losOf (law50_awake_lo F), need := needsOf [] }
theorem law50_awake_loOk (F : Nat) : LoOk prog (law50_awake_book F) F := loOk_of (l := law50_awake_lo F) rfl fz
theorem law50_awake_run (F : Nat) (x : ArgsT law50_awake_ps) (kend : List BV → ZO) : runFnL prog (law50_awake_book F) F 20 9 (argsInst law50_awake_ps x) [.d .bool] kend = law50_awake F  none (fun y0 => kend [BV.d .bool y0]) := by kernel_rfl
theorem law50_awake_contract  : Contract prog 9 law50_awake_orc := con_of (B0 := law50_awake_book0) zN zG mix_ok zT law50_awake_run (orcsOf_ok (fa tCommit_contract (fa tEncode_contract fz))) (by kernel_rfl) (fun _ => rfl) law50_awake_loOk (fun x _ => (law50_awake_plain ).elim fun F hF => ⟨F, fun kend => hF none _⟩)
end Go.AI
namespace Go.AI
open Go
open Go.Proofs.Tryz (prog)
set_option linter.unusedVariables false
@[reducible] def uKind_ps  : List PM := [.d (.int .i64)]
def uKind_orc  : Orc := Orc.of uKind_ps true 0 fun x => (true, [.d (.int .i64) (uKind_r x.1)])
def uKind_orcs  : List (FuncId × Orc) := []
def uKind_book0  : Book := { Γ := gam, orc := orcsOf uKind_orcs, hint := hintsOf [] }
def uKind_lo (F : Nat) : List (LoE Unit) := []
def uKind_book (F : Nat) : BookL Unit := { toBook := uKind_book0, lo := losOf (uKind_lo F), need := needsOf [] }
theorem uKind_loOk (F : Nat) : LoOk prog (uKind_book F) F := loOk_of (l := uKind_lo F) rfl fz
theorem uKind_run (F : Nat) (x : ArgsT uKind_ps) (kend : List BV → ZO) : runFnL prog (uKind_book F) F 20 81 (argsInst uKind_ps x) [.d (.int .i64)] kend = uKind F x.1 none (fun y0 => kend [BV.d (.int .i64) y0]) := by kernel_rfl
theorem uKind_contract  : Contract prog 81 uKind_orc := con_of (B0 := uKind_book0) zN zG mix_ok zT uKind_run (orcsOf_ok fz) (by kernel_rfl) (fun _ => rfl) uKind_loOk (fun x _ => (uKind_plain x.1).elim fun F hF => ⟨F, fun kend => hF none _⟩)
@[reducible] def uCheck_ps  : List PM := [.d (.slc (.pair (.int .i64) (.pair (.slc (.int .u8)) .unit)))]
def uCheck_orc  : Orc := Orc.of uCheck_ps true 0 fun x => (uCheck_P x.1, [.d (.int .i64) (uCheck_r x.1)])
@[reducible] def uCheck_l1_T  : Tpl := { cur := ⟨[(0, .var (.slc (.pair (.int .i64) (.pair (.slc (.int .u8)) .unit)))), (1, .var (.int .i64)), (0, .var (.int .i64))], 26⟩, stk := [⟨[], 0⟩], heap := [] }
def uCheck_orcs  : List (FuncId × Orc) := [(81, uKind_orc)]
def uCheck_book0  : Book := { Γ := gam, orc := orcsOf uCheck_orcs, hint := hintsOf [(63, { keep := some [0, 2, 3], keeps := [(4, [0, 2, 3])], own := [], dat := [], stk := [] })] }
def uCheck_l1_G (F : Nat) (nx : uCheck_l1_T.T → ZO) (kq : ZK) (x : uCheck_l1_T.T) : ZO := uCheck_l1 F none (fun l s2 i => nx ((l, (s2, (i, ()))), (((), ()), ()))) (fun y0 y1 y2 => kq .ret (uCheck_l1_T.inst ((y0, (y1, (y2, ()))), (((), ()), ())))) (fun y0 y1 y2 => kq (.exit 0) (uCheck_l1_T.inst ((y0, (y1, (y2, ()))), (((), ()), ())))) x.1.1 x.1.2.1 x.1.2.2.1
def uCheck_l1_R (F m : Nat) (x : uCheck_l1_T.T) (kq : ZK) : ZO := uCheck_l1F F none (fun y0 y1 y2 => kq .ret (uCheck_l1_T.inst ((y0, (y1, (y2, ()))), (((), ()), ())))) (fun y0 y1 y2 => kq (.exit 0) (uCheck_l1_T.inst ((y0, (y1, (y2, ()))), (((), ()), ())))) m x.1.1 x.1.2.1 x.1.2.2.1
def uCheck_lo (F : Nat) : List (LoE Unit) := [⟨63, 4, LO.of uCheck_l1_T (uCheck_l1_R F F)⟩]
def uCheck_book (F : Nat) : BookL Unit := { toBook := uCheck_book0, lo := losOf (uCheck_lo F), need := needsOf [] }
theorem uCheck_l1_step (F : Nat) : LStep prog (uCheck_book F) F 63 0 4 uCheck_l1_T (uCheck_l1_G F) := fun d x KQ => by kernel_rfl
theorem uCheck_loOk (F : Nat) : LoOk prog (uCheck_book F) F := loOk_of (l := uCheck_lo F) rfl (fa (loOne_of 0 (by kernel_rfl) (by kernel_rfl) (lstep_run (uCheck_l1_step F) (fun _ _ => rfl) (fun _ _ _ _ => rfl))) fz)
theorem uCheck_run (F : Nat) (x : ArgsT uCheck_ps) (kend : List BV → ZO) : runFnL prog (uCheck_book F) F 20 63 (argsInst uCheck_ps x) [.d (.int .i64)] kend = uCheck F x.1 none (fun y0 => kend [BV.d (.int .i64) y0]) := by kernel_rfl
theorem uCheck_contract  : Contract prog 63 uCheck_orc := con_of (B0 := uCheck_book0) zN zG mix_ok zT uCheck_run (orcsOf_ok (fa uKind_contract fz)) (by kernel_rfl) (fun _ => rfl) uCheck_loOk (fun x h => (uCheck_plain x.1 h).elim fun F hF => ⟨F, fun kend => hF none _⟩)
@[reducible] def uEncode_ps  : List PM := [.d (.slc (.pair (.int .i64) (.pair (.slc (.int .u8)) .unit)))]
def uEncode_orc  : Orc := Orc.of uEncode_ps true 1 fun x => (uEncode_P x.1, [.o 5 (.int .u8) (uEncode_r0 x.1), .d (.int .i64) (uEncode_r1 x.1)])
@[reducible] def uEncode_l1_T  : Tpl := { cur := ⟨[(0, .var (.slc (.pair (.int .i64) (.pair (.slc (.int .u8)) .unit)))), (1, .nils), (0, .var (.int .i64)), (1, .row 0), (0, .var (.int .i64))], 31⟩, stk := [⟨[], 0⟩], heap := [.row 5 (.int .u8) false] }
def uEncode_orcs  : List (FuncId × Orc) := [(63, uCheck_orc), (64, ref02_PutInt_orc), (65, ref02_PutBytes_orc)]
def uEncode_book0  : Book := { Γ := gam, orc := orcsOf uEncode_orcs, hint := hintsOf [(28, { keep := some [0, 2, 3, 5, 6], keeps := [(6, [0, 2, 3, 5, 6])], own := [], dat := [], stk := [] })] }
def uEncode_l1_G (F : Nat) (nx : uEncode_l1_T.T → ZO) (kq : ZK) (x : uEncode_l1_T.T) : ZO := uEncode_l1 F none (fun l s3 i b => nx ((l, ((), (s3, ((), (i, ()))))), (((), ()), (b, ())))) (fun y0 y1 y2 y3 => kq .ret (uEncode_l1_T.inst ((y0, ((), (y1, ((), (y2, ()))))), (((), ()), (y3, ()))))) (fun y0 y1 y2 y3 => kq (.exit 0) (uEncode_l1_T.inst ((y0, ((), (y1, ((), (y2, ()))))), (((), ()), (y3, ()))))) x.1.1 x.1.2.2.1 x.1.2.2.2.2.1 x.2.2.1
def uEncode_l1_R (F m : Nat) (x : uEncode_l1_T.T) (kq : ZK) : ZO := uEncode_l1F F none (fun y0 y1 y2 y3 => kq .ret (uEncode_l1_T.inst ((y0, ((), (y1, ((), (y2, ()))))), (((), ()), (y3, ()))))) (fun y0 y1 y2 y3 => kq (.exit 0) (uEncode_l1_T.inst ((y0, ((), (y1, ((), (y2, ()))))), (((), ()), (y3, ()))))) m x.1.1 x.1.2.2.1 x.1.2.2.2.2.1 x.2.2.1
def uEncode_lo (F : Nat) : List (LoE Unit) := [⟨28, 6, LO.of uEncode_l1_T (uEncode_l1_R F F)⟩]
def uEncode_book (F : Nat) : BookL Unit := { toBook := uEncode_book0, lo := losOf (uEncode_lo F), need := needsOf [] }
def uEncode_l1_z (uCheck_Pz : (List ZR) → Bool) (uCheck_rz : (List ZR) → Int) (ref02_PutInt_Pz : ZB → Int → Bool) (ref02_PutInt_rz : ZB → Int → ZB) (ref02_PutBytes_Pz : ZB → ZB → Bool) (ref02_PutBytes_rz : ZB → ZB → ZB) {X : Type} (F : Nat) (fail : X) (next ex0 ex1 : List ZR → Int → Int → ZB → X) (l : List ZR) (s3 i : Int) (b : ZB) : X :=
 bif (decide (i < ((l.length : Nat) : Int))) then
  bif ((decide ((0 : Int) ≤ i)) && (decide (i < ((l.length : Nat) : Int)))) then
  bif (ref02_PutInt_Pz b (List.getD l (i).toNat ((0 : Int), (([] : ZB), ()))).1) then
  bif ((decide ((0 : Int) ≤ i)) && (decide (i < ((l.length : Nat) : Int)))) then
  bif (ref02_PutBytes_Pz (ref02_PutInt_rz b (List.getD l (i).toNat ((0 : Int), (([] : ZB), ()))).1) (List.getD l (i).toNat ((0 : Int), (([] : ZB), ()))).2.1) then
  bif (decide ((((ref02_PutBytes_rz (ref02_PutInt_rz b (List.getD l (i).toNat ((0 : Int), (([] : ZB), ()))).1) (List.getD l (i).toNat ((0 : Int), (([] : ZB), ()))).2.1).length : Nat) : Int) > (65536 : Int))) then
   ex0 l (5 : Int) i (ref02_PutBytes_rz (ref02_PutInt_rz b (List.getD l (i).toNat ((0 : Int), (([] : ZB), ()))).1) (List.getD l (i).toNat ((0 : Int), (([] : ZB), ()))).2.1)
  else
  next l s3 (addI i (1 : Int)) (ref02_PutBytes_rz (ref02_PutInt_rz b (List.getD l (i).toNat ((0 : Int), (([] : ZB), ()))).1) (List.getD l (i).toNat ((0 : Int), (([] : ZB), ()))).2.1)
  else fail
  else fail
  else fail
  else fail
 else
 ex1 l s3 i b
def uEncode_z (uCheck_Pz : (List ZR) → Bool) (uCheck_rz : (List ZR) → Int) (ref02_PutInt_Pz : ZB → Int → Bool) (ref02_PutInt_rz : ZB → Int → ZB) (ref02_PutBytes_Pz : ZB → ZB → Bool) (ref02_PutBytes_rz : ZB → ZB → ZB) {X : Type} (F : Nat) (l : List ZR) (fail : X) (ret : ZB → Int → X) : X :=
 bif (uCheck_Pz l) then
 bif ((uCheck_rz l) != (0 : Int)) then
  ret ([] : ZB) (uCheck_rz l)
 else
 bif (ref02_PutInt_Pz ([] : ZB) ((l.length : Nat) : Int)) then
 uEncode_l1F F fail
  (fun (l1 : List ZR) (s3 : Int) (i : Int) (b : ZB) =>
   ret ([] : ZB) s3)
  (fun (l2 : List ZR) (s31 : Int) (i1 : Int) (b1 : ZB) =>
   ret b1 (0 : Int))
  F l (0 : Int) (0 : Int) (ref02_PutInt_rz ([] : ZB) ((l.length : Nat) : Int))
 else fail
 else fail
def uEncode_orcs_z (uCheck_Pz : (List ZR) → Bool) (uCheck_rz : (List ZR) → Int) (ref02_PutInt_Pz : ZB → Int → Bool) (ref02_PutInt_rz : ZB → Int → ZB) (ref02_PutBytes_Pz : ZB → ZB → Bool) (ref02_PutBytes_rz : ZB → ZB → ZB) : List (FuncId × Orc) := [(63, Orc.of uCheck_ps true 0 fun x => (uCheck_Pz x.1, [.d (.int .i64) (uCheck_rz x.1)])), (64, Orc.of ref02_PutInt_ps true 1 fun x => (ref02_PutInt_Pz x.1 x.2.1, [.o 5 (.int .u8) (ref02_PutInt_rz x.1 x.2.1)])), (65, Orc.of ref02_PutBytes_ps true 1 fun x => (ref02_PutBytes_Pz x.1 x.2.1, [.o 5 (.int .u8) (ref02_PutBytes_rz x.1 x.2.1)]))]
def uEncode_book0_z (uCheck_Pz : (List ZR) → Bool) (uCheck_rz : (List ZR) → Int) (ref02_PutInt_Pz : ZB → Int → Bool) (ref02_PutInt_rz : ZB → Int → ZB) (ref02_PutBytes_Pz : ZB → ZB → Bool) (ref02_PutBytes_rz : ZB → ZB → ZB) : Book := { Γ := gam, orc := orcsOf (uEncode_orcs_z uCheck_Pz uCheck_rz ref02_PutInt_Pz ref02_PutInt_rz ref02_PutBytes_Pz ref02_PutBytes_rz), hint := hintsOf [(28, { keep := some [0, 2, 3, 5, 6], keeps := [(6, [0, 2, 3, 5, 6])], own := [], dat := [], stk := [] })] }
def uEncode_book_z (uCheck_Pz : (List ZR) → Bool) (uCheck_rz : (List ZR) → Int) (ref02_PutInt_Pz : ZB → Int → Bool) (ref02_PutInt_rz : ZB → Int → ZB) (ref02_PutBytes_Pz : ZB → ZB → Bool) (ref02_PutBytes_rz : ZB → ZB → ZB) (F : Nat) : BookL Unit := { toBook := uEncode_book0_z uCheck_Pz uCheck_rz ref02_PutInt_Pz ref02_PutInt_rz ref02_PutBytes_Pz ref02_PutBytes_rz, lo := losOf (uEncode_lo F), need := needsOf [] }
def uEncode_l1_G_z (uCheck_Pz : (List ZR) → Bool) (uCheck_rz : (List ZR) → Int) (ref02_PutInt_Pz : ZB → Int → Bool) (ref02_PutInt_rz : ZB → Int → ZB) (ref02_PutBytes_Pz : ZB → ZB → Bool) (ref02_PutBytes_rz : ZB → ZB → ZB) (F : Nat) (nx : uEncode_l1_T.T → ZO) (kq : ZK) (x : uEncode_l1_T.T) : ZO := uEncode_l1_z uCheck_Pz uCheck_rz ref02_PutInt_Pz ref02_PutInt_rz ref02_PutBytes_Pz ref02_PutBytes_rz F none (fun l s3 i b => nx ((l, ((), (s3, ((), (i, ()))))), (((), ()), (b, ())))) (fun y0 y1 y2 y3 => kq .ret (uEncode_l1_T.inst ((y0, ((), (y1, ((), (y2, ()))))), (((), ()), (y3, ()))))) (fun y0 y1 y2 y3 => kq (.exit 0) (uEncode_l1_T.inst ((y0, ((), (y1, ((), (y2, ()))))), (((), ()), (y3, ()))))) x.1.1 x.1.2.2.1 x.1.2.2.2.2.1 x.2.2.1
theorem uEncode_l1_step_z (uCheck_Pz : (List ZR) → Bool) (uCheck_rz : (List ZR) → Int) (ref02_PutInt_Pz : ZB → Int → Bool) (ref02_PutInt_rz : ZB → Int → ZB) (ref02_PutBytes_Pz : ZB → ZB → Bool) (ref02_PutBytes_rz : ZB → ZB → ZB) (F : Nat) : LStep prog (uEncode_book_z uCheck_Pz uCheck_rz ref02_PutInt_Pz ref02_PutInt_rz ref02_PutBytes_Pz ref02_PutBytes_rz F) F 28 0 6 uEncode_l1_T (uEncode_l1_G_z uCheck_Pz uCheck_rz ref02_PutInt_Pz ref02_PutInt_rz ref02_PutBytes_Pz ref02_PutBytes_rz F) := fun d x KQ => by kernel_rfl
theorem uEncode_run_z (uCheck_Pz : (List ZR) → Bool) (uCheck_rz : (List ZR) → Int) (ref02_PutInt_Pz : ZB → Int → Bool) (ref02_PutInt_rz : ZB → Int → ZB) (ref02_PutBytes_Pz : ZB → ZB → Bool) (ref02_PutBytes_rz : ZB → ZB → ZB) (F : Nat) (x : ArgsT uEncode_ps) (kend : List BV → ZO) : runFnL prog (uEncode_book_z uCheck_Pz uCheck_rz ref02_PutInt_Pz ref02_PutInt_rz ref02_PutBytes_Pz ref02_PutBytes_rz F) F 20 28 (argsInst uEncode_ps x) [.o 5 (.int .u8), .d (.int .i64)] kend = uEncode_z uCheck_Pz uCheck_rz ref02_PutInt_Pz ref02_PutInt_rz ref02_PutBytes_Pz ref02_PutBytes_rz F x.1 none (fun y0 y1 => kend [BV.o 5 (.int .u8) y0, BV.d (.int .i64) y1]) := by kernel_rfl
theorem uEncode_l1_step (F : Nat) : LStep prog (uEncode_book F) F 28 0 6 uEncode_l1_T (uEncode_l1_G F) := uEncode_l1_step_z uCheck_P uCheck_r ref02_PutInt_P ref02_PutInt_r ref02_PutBytes_P ref02_PutBytes_r F
theorem uEncode_loOk (F : Nat) : LoOk prog (uEncode_book F) F := loOk_of (l := uEncode_lo F) rfl (fa (loOne_of 0 (by kernel_rfl) (by kernel_rfl) (lstep_run (uEncode_l1_step F) (fun _ _ => rfl) (fun _ _ _ _ => rfl))) fz)
theorem uEncode_run (F : Nat) (x : ArgsT uEncode_ps) (kend : List BV → ZO) : runFnL prog (uEncode_book F) F 20 28 (argsInst uEncode_ps x) [.o 5 (.int .u8), .d (.int .i64)] kend = uEncode F x.1 none (fun y0 y1 => kend [BV.o 5 (.int .u8) y0, BV.d (.int .i64) y1]) := uEncode_run_z uCheck_P uCheck_r ref02_PutInt_P ref02_PutInt_r ref02_PutBytes_P ref02_PutBytes_r F x kend
theorem uEncode_contract  : Contract prog 28 uEncode_orc := con_of (B0 := uEncode_book0) zN zG mix_ok zT uEncode_run (orcsOf_ok (fa uCheck_contract (fa ref02_PutInt_contract (fa ref02_PutBytes_contract fz)))) (by kernel_rfl) (fun _ => rfl) uEncode_loOk (fun x h => (uEncode_plain x.1 h).elim fun F hF => ⟨F, fun kend => hF none _⟩)
end Go.AI
namespace Go.AI
open Go
open Go.Proofs.Tryz (prog)
set_option linter.unusedVariables false
@[reducible] def uCommit_ps  : List PM := [.d (.pair (.int .i64) (.pair (.int .i64) (.pair (.int .i64) .unit))), .d (.slc (.int .u8)), .d (.slc (.pair (.int .i64) (.pair (.slc (.int .u8)) .unit)))]
def uCommit_orc  : Orc := Orc.of uCommit_ps false 0 fun x => (uCommit_P x.1 x.2.1 x.2.2.1, [.d (.pair (.int .i64) (.pair (.int .i64) (.pair (.int .i64) .unit))) (uCommit_r0 x.1 x.2.1 x.2.2.1), .d (.slc (.pair (.int .i64) (.pair (.int .i64) (.pair (.slc (.arr 16 (.int .u8))) .unit)))) (uCommit_r1 x.1 x.2.1 x.2.2.1), .d (.int .i64) (uCommit_r2 x.1 x.2.1 x.2.2.1)])
def uCommit_orcs  : List (FuncId × Orc) := [(27, qLCheck_orc), (28, uEncode_orc), (29, rSeal_orc), (30, qAppend_orc)]
def uCommit_book0  : Book := { Γ := gam, orc := orcsOf uCommit_orcs, hint := hintsOf [] }
def uCommit_lo (F : Nat) : List (LoE Unit) := []
def uCommit_book (F : Nat) : BookL Unit := { toBook := uCommit_book0, lo := losOf (uCommit_lo F), need := needsOf [] }
theorem uCommit_loOk (F : Nat) : LoOk prog (uCommit_book F) F := loOk_of (l := uCommit_lo F) rfl fz
theorem uCommit_run (F : Nat) (x : ArgsT uCommit_ps) (kend : List BV → ZO) : runFnL prog (uCommit_book F) F 20 11 (argsInst uCommit_ps x) [.d (.pair (.int .i64) (.pair (.int .i64) (.pair (.int .i64) .unit))), .d (.slc (.pair (.int .i64) (.pair (.int .i64) (.pair (.slc (.arr 16 (.int .u8))) .unit)))), .d (.int .i64)] kend = uCommit F x.1 x.2.1 x.2.2.1 none (fun y0 y1 y2 => kend [BV.d (.pair (.int .i64) (.pair (.int .i64) (.pair (.int .i64) .unit))) y0, BV.d (.slc (.pair (.int .i64) (.pair (.int .i64) (.pair (.slc (.arr 16 (.int .u8))) .unit)))) y1, BV.d (.int .i64) y2]) := by kernel_rfl
theorem uCommit_contract  : Contract prog 11 uCommit_orc := con_of (B0 := uCommit_book0) zN zG mix_ok zT uCommit_run (orcsOf_ok (fa qLCheck_contract (fa uEncode_contract (fa rSeal_contract (fa qAppend_contract fz))))) (by kernel_rfl) (fun _ => rfl) uCommit_loOk (fun x h => (uCommit_plain x.1 x.2.1 x.2.2.1 h).elim fun F hF => ⟨F, fun kend => hF none _⟩)
end Go.AI
namespace Go.AI
open Go
open Go.Proofs.Tryz (prog)
set_option linter.unusedVariables false
@[reducible] def uFew_ps  : List PM := [.d (.slc (.pair (.int .i64) (.pair (.slc (.int .u8)) .unit)))]
def uFew_orc  : Orc := Orc.of uFew_ps true 0 fun x => (uFew_P x.1, [.d .bool (uFew_r x.1)])
@[reducible] def uFew_l1_T  : Tpl := { cur := ⟨[(0, .var (.slc (.pair (.int .i64) (.pair (.slc (.int .u8)) .unit)))), (1, .var .bool), (0, .var (.int .i64))], 20⟩, stk := [⟨[], 0⟩], heap := [] }
def uFew_orcs  : List (FuncId × Orc) := []
def uFew_book0  : Book := { Γ := gam, orc := orcsOf uFew_orcs, hint := hintsOf [(8, { keep := some [0, 2, 3], keeps := [(2, [0, 2, 3])], own := [], dat := [], stk := [] })] }
def uFew_l1_G (F : Nat) (nx : uFew_l1_T.T → ZO) (kq : ZK) (x : uFew_l1_T.T) : ZO := uFew_l1 F none (fun l s2 i => nx ((l, (s2, (i, ()))), (((), ()), ()))) (fun y0 y1 y2 => kq .ret (uFew_l1_T.inst ((y0, (y1, (y2, ()))), (((), ()), ())))) (fun y0 y1 y2 => kq (.exit 0) (uFew_l1_T.inst ((y0, (y1, (y2, ()))), (((), ()), ())))) x.1.1 x.1.2.1 x.1.2.2.1
def uFew_l1_R (F m : Nat) (x : uFew_l1_T.T) (kq : ZK) : ZO := uFew_l1F F none (fun y0 y1 y2 => kq .ret (uFew_l1_T.inst ((y0, (y1, (y2, ()))), (((), ()), ())))) (fun y0 y1 y2 => kq (.exit 0) (uFew_l1_T.inst ((y0, (y1, (y2, ()))), (((), ()), ())))) m x.1.1 x.1.2.1 x.1.2.2.1
def uFew_lo (F : Nat) : List (LoE Unit) := [⟨8, 2, LO.of uFew_l1_T (uFew_l1_R F F)⟩]
def uFew_book (F : Nat) : BookL Unit := { toBook := uFew_book0, lo := losOf (uFew_lo F), need := needsOf [] }
theorem uFew_l1_step (F : Nat) : LStep prog (uFew_book F) F 8 0 2 uFew_l1_T (uFew_l1_G F) := fun d x KQ => by kernel_rfl
theorem uFew_loOk (F : Nat) : LoOk prog (uFew_book F) F := loOk_of (l := uFew_lo F) rfl (fa (loOne_of 0 (by kernel_rfl) (by kernel_rfl) (lstep_run (uFew_l1_step F) (fun _ _ => rfl) (fun _ _ _ _ => rfl))) fz)
theorem uFew_run (F : Nat) (x : ArgsT uFew_ps) (kend : List BV → ZO) : runFnL prog (uFew_book F) F 20 8 (argsInst uFew_ps x) [.d .bool] kend = uFew F x.1 none (fun y0 => kend [BV.d .bool y0]) := by kernel_rfl
theorem uFew_contract  : Contract prog 8 uFew_orc := con_of (B0 := uFew_book0) zN zG mix_ok zT uFew_run (orcsOf_ok fz) (by kernel_rfl) (fun _ => rfl) uFew_loOk (fun x h => (uFew_plain x.1 h).elim fun F hF => ⟨F, fun kend => hF none _⟩)
end Go.AI
namespace Go.AI
open Go
open Go.Proofs.Tryz (prog)
set_option linter.unusedVariables false
@[reducible] def TransactionCommits_ps  : List PM := [.d (.pair (.int .i64) (.pair (.int .i64) (.pair (.int .i64) .unit))), .d (.slc (.int .u8)), .d (.slc (.pair (.int .i64) (.pair (.slc (.int .u8)) .unit)))]
def TransactionCommits_orc  : Orc := Orc.of TransactionCommits_ps true 0 fun x => (TransactionCommits_P x.1 x.2.1 x.2.2.1, [.d .bool (TransactionCommits_r x.1 x.2.1 x.2.2.1)])
def TransactionCommits_orcs  : List (FuncId × Orc) := [(8, uFew_orc), (9, law50_awake_orc), (10, tCommit_orc), (11, uCommit_orc), (12, rSameOps_orc)]
def TransactionCommits_book0  : Book := { Γ := gam, orc := orcsOf TransactionCommits_orcs, hint := hintsOf [] }
def TransactionCommits_lo (F : Nat) : List (LoE Unit) := []
def TransactionCommits_book (F : Nat) : BookL Unit := { toBook := TransactionCommits_book0, lo := losOf (TransactionCommits_lo F), need := needsOf [] }
theorem TransactionCommits_loOk (F : Nat) : LoOk prog (TransactionCommits_book F) F := loOk_of (l := TransactionCommits_lo F) rfl fz
theorem TransactionCommits_run (F : Nat) (x : ArgsT TransactionCommits_ps) (kend : List BV → ZO) : runFnL prog (TransactionCommits_book F) F 20 3 (argsInst TransactionCommits_ps x) [.d .bool] kend = TransactionCommits F x.1 x.2.1 x.2.2.1 none (fun y0 => kend [BV.d .bool y0]) := by kernel_rfl
theorem TransactionCommits_contract  : Contract prog 3 TransactionCommits_orc := con_of (B0 := TransactionCommits_book0) zN zG mix_ok zT TransactionCommits_run (orcsOf_ok (fa uFew_contract (fa law50_awake_contract (fa tCommit_contract (fa uCommit_contract (fa rSameOps_contract fz)))))) (by kernel_rfl) (fun _ => rfl) TransactionCommits_loOk (fun x h => (TransactionCommits_plain x.1 x.2.1 x.2.2.1 h).elim fun F hF => ⟨F, fun kend => hF none _⟩)
end Go.AI
namespace Go.AI
open Go
abbrev rcS : Sch := .slc (.pair (.int .i64) (.pair (.slc (.int .u8)) .unit))
abbrev lgS : Sch := .pair (.int .i64) (.pair (.int .i64) (.pair (.int .i64) .unit))
theorem TransactionCommits_wf (x : LawT [lgS, .slc (.int .u8), rcS]) (_ : WfArgs [lgS, .slc (.int .u8), rcS] x) : TransactionCommits_P x.1 x.2.1 x.2.2.1 = true := rfl
end Go.AI
