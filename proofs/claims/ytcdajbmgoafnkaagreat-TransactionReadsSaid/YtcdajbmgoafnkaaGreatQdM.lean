/- Texts of the proof, joined: Types WireM WireM2 DigestM DigestM2 CipherM CipherM2 DiskM LogR LogM TransM TransM4 TransM6 TransM2 TransM8 TransL8 TransW8. -/
import Derived.Test.YtcdajbmgoafnkaaGreatProg
import Derived.Test.YtcdajbmgoafnkaaGreatQdA5
import Derived.KernelRfl
import Derived.Test.YtcdajbmgoafnkaaGreatQdWireP
import Derived.Test.YtcdajbmgoafnkaaGreatQdWireP2
import Derived.Test.YtcdajbmgoafnkaaGreatQdDigestP3
import Derived.Test.YtcdajbmgoafnkaaGreatQdDigestP4
import Derived.Test.YtcdajbmgoafnkaaGreatQdCipherP4
import Derived.Test.YtcdajbmgoafnkaaGreatQdDiskP3
import Derived.RecoverIn
import Derived.Tactics
import Derived.Tactics2
import Derived.TacticsInMore
import Derived.RegionIn
import Derived.Laws.Pointers
import Derived.Test.YtcdajbmgoafnkaaGreatQdLogP7
import Derived.Test.YtcdajbmgoafnkaaGreatQdTransP
import Derived.Test.YtcdajbmgoafnkaaGreatQdTransP2
import Derived.Test.YtcdajbmgoafnkaaGreatQdTransP5
import Derived.Test.YtcdajbmgoafnkaaGreatQdTransP7
import Derived.Test.YtcdajbmgoafnkaaGreatQdTransP8
set_option maxRecDepth 100000
namespace Go.AI
abbrev ZO := Option Unit
abbrev ZK := AExit → ASt → ZO
end Go.AI
namespace Go.AI
open Go
def gam  : Gam := [
 none,
 some ⟨.func, 1, none, false⟩,
 some ⟨.other, 1, some (.int .i64), false⟩,
 some ⟨.other, 1, some (.int .i64), false⟩,
 some ⟨.other, 1, some .bool, false⟩,
 some ⟨.other, 1, some (.int .u8), false⟩,
 some ⟨.other, 1, some (.int .u8), false⟩,
 some ⟨(.struct [(0, 2), (1, 3), (2, 4), (3, 6)]), 4, some (.pair (.int .i64) (.pair (.int .i64) (.pair .bool (.pair (.int .u8) .unit)))), false⟩,
 some ⟨(.struct [(0, 2), (1, 3), (2, 4), (3, 6)]), 4, some (.pair (.int .i64) (.pair (.int .i64) (.pair .bool (.pair (.int .u8) .unit)))), false⟩,
 some ⟨.other, 1, some .str, false⟩,
 some ⟨.other, 1, some .str, false⟩,
 some ⟨.other, 1, some .str, false⟩,
 some ⟨.other, 1, some (.int .u64), false⟩,
 some ⟨(.struct [(0, 9), (1, 12)]), 2, some (.pair .str (.pair (.int .u64) .unit)), false⟩,
 some ⟨(.struct [(0, 9), (1, 12)]), 2, some (.pair .str (.pair (.int .u64) .unit)), false⟩,
 some ⟨(.ptr 250), 1, none, false⟩,
 some ⟨(.ptr 253), 1, none, false⟩,
 some ⟨(.ptr 262), 1, none, false⟩,
 some ⟨(.struct [(0, 17)]), 1, none, false⟩,
 some ⟨(.struct [(0, 17)]), 1, none, false⟩,
 some ⟨.other, 1, none, false⟩,
 some ⟨.other, 1, some (.int .i32), false⟩,
 some ⟨(.struct [(0, 3), (1, 3), (2, 3)]), 3, some (.pair (.int .i64) (.pair (.int .i64) (.pair (.int .i64) .unit))), true⟩,
 some ⟨(.struct [(0, 3), (1, 3), (2, 3)]), 3, some (.pair (.int .i64) (.pair (.int .i64) (.pair (.int .i64) .unit))), true⟩,
 some ⟨(.slice 5), 1, some (.slc (.int .u8)), false⟩,
 some ⟨(.slice 66), 1, some (.slc (.pair (.int .i64) (.pair (.slc (.int .u8)) .unit))), false⟩,
 some ⟨.func, 1, none, false⟩,
 some ⟨.func, 1, none, false⟩,
 some ⟨(.slice 70), 1, some (.slc (.pair (.int .i64) (.pair (.int .i64) (.pair (.slc (.arr 16 (.int .u8))) .unit)))), false⟩,
 some ⟨.other, 1, some (.int .i64), false⟩,
 none,
 some ⟨.func, 1, none, false⟩,
 none,
 some ⟨.func, 1, none, false⟩,
 some ⟨.func, 1, none, false⟩,
 some ⟨.func, 1, none, false⟩,
 some ⟨(.slice 93), 1, some (.slc (.arr 16 (.int .u8))), false⟩,
 some ⟨(.slice 155), 1, some (.slc (.pair (.int .i64) (.pair (.arr 16 (.int .u8)) .unit))), false⟩,
 some ⟨(.struct [(0, 36), (1, 37)]), 2, some (.pair (.slc (.arr 16 (.int .u8))) (.pair (.slc (.pair (.int .i64) (.pair (.arr 16 (.int .u8)) .unit))) .unit)), false⟩,
 some ⟨(.struct [(0, 36), (1, 37)]), 2, some (.pair (.slc (.arr 16 (.int .u8))) (.pair (.slc (.pair (.int .i64) (.pair (.arr 16 (.int .u8)) .unit))) .unit)), false⟩,
 some ⟨.func, 1, none, false⟩,
 some ⟨(.slice 25), 1, some (.slc (.slc (.pair (.int .i64) (.pair (.slc (.int .u8)) .unit)))), false⟩,
 none,
 some ⟨.func, 1, none, false⟩,
 none,
 some ⟨.func, 1, none, false⟩,
 some ⟨.func, 1, none, false⟩,
 some ⟨.func, 1, none, false⟩,
 some ⟨.func, 1, none, false⟩,
 none,
 some ⟨.func, 1, none, false⟩,
 some ⟨(.slice 24), 1, some (.slc (.slc (.int .u8))), false⟩,
 none,
 some ⟨.func, 1, none, false⟩,
 none,
 some ⟨.func, 1, none, false⟩,
 some ⟨.func, 1, none, false⟩,
 some ⟨(.slice 3), 1, some (.slc (.int .i64)), false⟩,
 some ⟨(.struct [(0, 5), (1, 57)]), 2, some (.pair (.int .u8) (.pair (.slc (.int .i64)) .unit)), false⟩,
 some ⟨(.struct [(0, 5), (1, 57)]), 2, some (.pair (.int .u8) (.pair (.slc (.int .i64)) .unit)), false⟩,
 none,
 some ⟨.func, 1, none, false⟩,
 none,
 some ⟨.func, 1, none, false⟩,
 some ⟨.func, 1, none, false⟩,
 some ⟨(.struct [(0, 3), (1, 24)]), 2, some (.pair (.int .i64) (.pair (.slc (.int .u8)) .unit)), false⟩,
 some ⟨(.struct [(0, 3), (1, 24)]), 2, some (.pair (.int .i64) (.pair (.slc (.int .u8)) .unit)), false⟩,
 none,
 some ⟨.func, 1, none, false⟩,
 some ⟨(.struct [(0, 3), (1, 3), (2, 36)]), 3, some (.pair (.int .i64) (.pair (.int .i64) (.pair (.slc (.arr 16 (.int .u8))) .unit))), false⟩,
 some ⟨(.struct [(0, 3), (1, 3), (2, 36)]), 3, some (.pair (.int .i64) (.pair (.int .i64) (.pair (.slc (.arr 16 (.int .u8))) .unit))), false⟩,
 some ⟨.func, 1, none, false⟩,
 some ⟨.func, 1, none, false⟩,
 some ⟨.func, 1, none, false⟩,
 some ⟨.func, 1, none, false⟩,
 some ⟨.func, 1, none, false⟩,
 some ⟨.func, 1, none, false⟩,
 some ⟨.func, 1, none, false⟩,
 some ⟨.func, 1, none, false⟩,
 some ⟨.func, 1, none, false⟩,
 some ⟨.func, 1, none, false⟩,
 none,
 some ⟨.func, 1, none, false⟩,
 none,
 some ⟨.func, 1, none, false⟩,
 none,
 some ⟨.func, 1, none, false⟩,
 some ⟨.func, 1, none, false⟩,
 some ⟨.func, 1, none, false⟩,
 some ⟨.func, 1, none, false⟩,
 none,
 some ⟨.func, 1, none, false⟩,
 some ⟨(.array 16 5), 16, some (.arr 16 (.int .u8)), true⟩,
 some ⟨(.array 16 5), 16, some (.arr 16 (.int .u8)), true⟩,
 some ⟨.func, 1, none, false⟩,
 none,
 some ⟨.func, 1, none, false⟩,
 some ⟨.func, 1, none, false⟩,
 some ⟨(.array 32 5), 32, some (.arr 32 (.int .u8)), true⟩,
 some ⟨(.array 32 5), 32, some (.arr 32 (.int .u8)), true⟩,
 none,
 some ⟨.func, 1, none, false⟩,
 some ⟨.func, 1, none, false⟩,
 some ⟨.func, 1, none, false⟩,
 some ⟨.func, 1, none, false⟩,
 some ⟨.func, 1, none, false⟩,
 some ⟨.func, 1, none, false⟩,
 some ⟨.func, 1, none, false⟩,
 some ⟨(.array 2 107), 2, none, false⟩,
 some ⟨.func, 1, none, false⟩,
 some ⟨(.ptr 39), 1, none, false⟩,
 some ⟨.func, 1, none, false⟩,
 some ⟨.func, 1, none, false⟩,
 some ⟨.func, 1, none, false⟩,
 some ⟨.func, 1, none, false⟩,
 some ⟨.func, 1, none, false⟩,
 some ⟨.func, 1, none, false⟩,
 some ⟨.func, 1, none, false⟩,
 some ⟨.func, 1, none, false⟩,
 some ⟨.func, 1, none, false⟩,
 some ⟨.func, 1, none, false⟩,
 some ⟨.func, 1, none, false⟩,
 some ⟨.func, 1, none, false⟩,
 some ⟨.func, 1, none, false⟩,
 some ⟨.func, 1, none, false⟩,
 some ⟨.func, 1, none, false⟩,
 some ⟨.func, 1, none, false⟩,
 some ⟨.func, 1, none, false⟩,
 some ⟨(.ptr 24), 1, none, false⟩,
 some ⟨.func, 1, none, false⟩,
 some ⟨(.ptr 3), 1, none, false⟩,
 some ⟨.func, 1, none, false⟩,
 some ⟨.func, 1, none, false⟩,
 some ⟨.func, 1, none, false⟩,
 none,
 some ⟨.func, 1, none, false⟩,
 none,
 some ⟨.func, 1, none, false⟩,
 none,
 some ⟨.func, 1, none, false⟩,
 some ⟨.func, 1, none, false⟩,
 none,
 some ⟨.func, 1, none, false⟩,
 some ⟨.func, 1, none, false⟩,
 some ⟨.func, 1, none, false⟩,
 some ⟨.func, 1, none, false⟩,
 some ⟨(.ptr 148), 1, none, false⟩,
 some ⟨(.struct [(0, 36)]), 1, some (.pair (.slc (.arr 16 (.int .u8))) .unit), false⟩,
 some ⟨(.struct [(0, 36)]), 1, some (.pair (.slc (.arr 16 (.int .u8))) .unit), false⟩,
 none,
 some ⟨.func, 1, none, false⟩,
 some ⟨.func, 1, none, false⟩,
 some ⟨.func, 1, none, false⟩,
 some ⟨.func, 1, none, false⟩,
 some ⟨(.struct [(0, 3), (1, 93)]), 17, some (.pair (.int .i64) (.pair (.arr 16 (.int .u8)) .unit)), true⟩,
 some ⟨(.struct [(0, 3), (1, 93)]), 17, some (.pair (.int .i64) (.pair (.arr 16 (.int .u8)) .unit)), true⟩,
 some ⟨.func, 1, none, false⟩,
 some ⟨.func, 1, none, false⟩,
 some ⟨(.map 3 36), 1, none, true⟩,
 none,
 some ⟨.func, 1, none, false⟩,
 some ⟨.func, 1, none, false⟩,
 some ⟨.func, 1, none, false⟩,
 some ⟨.func, 1, none, false⟩,
 some ⟨.func, 1, none, false⟩,
 some ⟨(.struct [(0, 164)]), 1, none, false⟩,
 some ⟨(.struct [(0, 164)]), 1, none, false⟩,
 some ⟨.func, 1, none, false⟩,
 some ⟨.func, 1, none, false⟩,
 some ⟨.func, 1, none, false⟩,
 some ⟨.func, 1, none, false⟩,
 some ⟨.func, 1, none, false⟩,
 some ⟨.func, 1, none, false⟩,
 some ⟨.other, 1, some (.int .u32), false⟩,
 some ⟨.func, 1, none, false⟩,
 some ⟨.func, 1, none, false⟩,
 some ⟨.func, 1, none, false⟩,
 none,
 some ⟨.func, 1, none, false⟩,
 some ⟨.other, 1, some (.int .u64), false⟩,
 none,
 some ⟨.func, 1, none, false⟩,
 some ⟨.func, 1, none, false⟩,
 none,
 some ⟨.func, 1, none, false⟩,
 some ⟨(.struct []), 0, none, false⟩,
 some ⟨(.struct []), 0, none, false⟩,
 none,
 some ⟨.func, 1, none, false⟩,
 some ⟨.func, 1, none, false⟩,
 some ⟨.func, 1, none, false⟩,
 some ⟨.func, 1, none, false⟩,
 some ⟨(.array 64 5), 64, some (.arr 64 (.int .u8)), true⟩,
 some ⟨.func, 1, none, false⟩,
 some ⟨(.slice 173), 1, some (.slc (.int .u32)), false⟩,
 some ⟨.func, 1, none, false⟩,
 some ⟨.func, 1, none, false⟩,
 some ⟨.func, 1, none, false⟩,
 some ⟨.func, 1, none, false⟩,
 some ⟨(.array 8 173), 8, some (.arr 8 (.int .u32)), true⟩,
 some ⟨(.struct [(0, 199), (8, 24), (9, 3)]), 10, some (.pair (.arr 8 (.int .u32)) (.pair (.slc (.int .u8)) (.pair (.int .i64) .unit))), false⟩,
 some ⟨(.struct [(0, 199), (8, 24), (9, 3)]), 10, some (.pair (.arr 8 (.int .u32)) (.pair (.slc (.int .u8)) (.pair (.int .i64) .unit))), false⟩,
 some ⟨.func, 1, none, false⟩,
 some ⟨.func, 1, none, false⟩,
 some ⟨(.array 16 173), 16, some (.arr 16 (.int .u32)), true⟩,
 some ⟨(.array 16 173), 16, some (.arr 16 (.int .u32)), true⟩,
 some ⟨.func, 1, none, false⟩,
 some ⟨.func, 1, none, false⟩,
 some ⟨.func, 1, none, false⟩,
 some ⟨.func, 1, none, false⟩,
 some ⟨.func, 1, none, false⟩,
 none,
 some ⟨.func, 1, none, false⟩,
 some ⟨.func, 1, none, false⟩,
 some ⟨.other, 1, some (.int .u64), false⟩,
 some ⟨.other, 1, some (.int .u32), false⟩,
 some ⟨(.array 8 215), 8, some (.arr 8 (.int .u32)), true⟩,
 some ⟨(.array 8 215), 8, some (.arr 8 (.int .u32)), true⟩,
 some ⟨.func, 1, none, false⟩,
 some ⟨(.ptr 205), 1, none, false⟩,
 some ⟨.func, 1, none, false⟩,
 some ⟨.func, 1, none, false⟩,
 some ⟨.func, 1, none, false⟩,
 some ⟨.func, 1, none, false⟩,
 some ⟨.func, 1, none, false⟩,
 some ⟨.func, 1, none, false⟩,
 some ⟨.func, 1, none, false⟩,
 some ⟨.func, 1, none, false⟩,
 some ⟨.func, 1, none, false⟩,
 some ⟨.func, 1, none, false⟩,
 some ⟨.func, 1, none, false⟩,
 some ⟨.func, 1, none, false⟩,
 some ⟨.func, 1, none, false⟩,
 some ⟨.func, 1, none, false⟩,
 some ⟨.func, 1, none, false⟩,
 some ⟨.func, 1, none, false⟩,
 some ⟨(.struct [(0, 3), (1, 3), (2, 3), (3, 3)]), 4, some (.pair (.int .i64) (.pair (.int .i64) (.pair (.int .i64) (.pair (.int .i64) .unit)))), true⟩,
 some ⟨(.array 4 236), 16, some (.arr 4 (.pair (.int .i64) (.pair (.int .i64) (.pair (.int .i64) (.pair (.int .i64) .unit))))), true⟩,
 some ⟨(.array 256 173), 256, some (.arr 256 (.int .u32)), true⟩,
 some ⟨.func, 1, none, false⟩,
 some ⟨(.array 64 173), 64, some (.arr 64 (.int .u32)), true⟩,
 some ⟨.func, 1, none, false⟩,
 some ⟨.func, 1, none, false⟩,
 some ⟨.func, 1, none, false⟩,
 some ⟨(.array 16 215), 16, some (.arr 16 (.int .u32)), true⟩,
 some ⟨(.array 64 215), 64, some (.arr 64 (.int .u32)), true⟩,
 some ⟨.func, 1, none, false⟩,
 some ⟨.func, 1, none, false⟩,
 some ⟨.func, 1, none, false⟩,
 some ⟨(.struct [(0, 17), (1, 17), (2, 17), (3, 9)]), 4, none, false⟩,
 some ⟨(.struct [(0, 17), (1, 17), (2, 17), (3, 9)]), 4, none, false⟩,
 some ⟨(.array 0 16), 0, none, false⟩,
 some ⟨(.struct [(0, 251)]), 0, none, false⟩,
 some ⟨(.struct [(0, 251)]), 0, none, false⟩,
 some ⟨.func, 1, none, false⟩,
 some ⟨.other, 1, some (.int .u8), false⟩,
 some ⟨.other, 1, some (.int .u8), false⟩,
 some ⟨.func, 1, none, false⟩,
 some ⟨(.ptr 5), 1, none, false⟩,
 some ⟨.other, 1, some (.int .i32), false⟩,
 some ⟨.other, 1, some (.int .i32), false⟩,
 some ⟨(.struct [(0, 12), (1, 12), (2, 173), (3, 255), (4, 5), (5, 5), (6, 256), (7, 257), (8, 258), (9, 259), (10, 260)]), 11, none, false⟩,
 some ⟨(.struct [(0, 12), (1, 12), (2, 173), (3, 255), (4, 5), (5, 5), (6, 256), (7, 257), (8, 258), (9, 259), (10, 260)]), 11, none, false⟩,
 some ⟨.other, 1, none, false⟩]
theorem gam_ok  : gamB Go.Proofs.Tryz.prog gam = true := by kernel_rfl
theorem num_ok  : noNumB Go.Proofs.Tryz.prog = true := by kernel_rfl
theorem rng_ok  : rangesB Go.Proofs.Tryz.prog = true := by kernel_rfl
theorem mix_ok  : Go.Proofs.Tryz.prog.follows .mixedOrders = true := by kernel_rfl
theorem zN  : NoNum Go.Proofs.Tryz.prog := noNumB_ok num_ok
theorem zG  : RangesOk Go.Proofs.Tryz.prog := rangesB_ok rng_ok
theorem zT  : GamOk Go.Proofs.Tryz.prog gam := gamB_ok gam_ok
end Go.AI
namespace Go.AI
open Go
open Go.Proofs.Tryz (prog)
set_option linter.unusedVariables false
@[reducible] def bits_Len64_ps  : List PM := [.d (.int .u64)]
def bits_Len64_orc  : Orc := Orc.of bits_Len64_ps true 0 fun x => (bits_Len64_P x.1, [.d (.int .i64) (bits_Len64_r x.1)])
def bits_Len64_orcs  : List (FuncId × Orc) := []
def bits_Len64_book0  : Book := { Γ := gam, orc := orcsOf bits_Len64_orcs, hint := hintsOf [] }
def bits_Len64_lo (F : Nat) : List (LoE Unit) := []
def bits_Len64_book (F : Nat) : BookL Unit := { toBook := bits_Len64_book0, lo := losOf (bits_Len64_lo F), need := needsOf [] }
theorem bits_Len64_loOk (F : Nat) : LoOk prog (bits_Len64_book F) F := loOk_of (l := bits_Len64_lo F) rfl fz
theorem bits_Len64_run (F : Nat) (x : ArgsT bits_Len64_ps) (kend : List BV → ZO) : runFnL prog (bits_Len64_book F) F 20 163 (argsInst bits_Len64_ps x) [.d (.int .i64)] kend = bits_Len64 F x.1 none (fun y0 => kend [BV.d (.int .i64) y0]) := by kernel_rfl
theorem bits_Len64_contract  : Contract prog 163 bits_Len64_orc := con_of (B0 := bits_Len64_book0) zN zG mix_ok zT bits_Len64_run (orcsOf_ok fz) (by kernel_rfl) (fun _ => rfl) bits_Len64_loOk (fun x h => (bits_Len64_plain x.1 h).elim fun F hF => ⟨F, fun kend => hF none _⟩)
@[reducible] def bits_Len8_ps  : List PM := [.d (.int .u8)]
def bits_Len8_orc  : Orc := Orc.of bits_Len8_ps true 0 fun x => (true, [.d (.int .i64) (bits_Len8_r x.1)])
def bits_Len8_orcs  : List (FuncId × Orc) := []
def bits_Len8_book0  : Book := { Γ := gam, orc := orcsOf bits_Len8_orcs, hint := hintsOf [] }
def bits_Len8_lo (F : Nat) : List (LoE Unit) := []
def bits_Len8_book (F : Nat) : BookL Unit := { toBook := bits_Len8_book0, lo := losOf (bits_Len8_lo F), need := needsOf [] }
theorem bits_Len8_loOk (F : Nat) : LoOk prog (bits_Len8_book F) F := loOk_of (l := bits_Len8_lo F) rfl fz
theorem bits_Len8_run (F : Nat) (x : ArgsT bits_Len8_ps) (kend : List BV → ZO) : runFnL prog (bits_Len8_book F) F 20 147 (argsInst bits_Len8_ps x) [.d (.int .i64)] kend = bits_Len8 F x.1 none (fun y0 => kend [BV.d (.int .i64) y0]) := by kernel_rfl
theorem bits_Len8_contract  : Contract prog 147 bits_Len8_orc := con_of (B0 := bits_Len8_book0) zN zG mix_ok zT bits_Len8_run (orcsOf_ok fz) (by kernel_rfl) (fun _ => rfl) bits_Len8_loOk (fun x _ => (bits_Len8_plain x.1).elim fun F hF => ⟨F, fun kend => hF none _⟩)
@[reducible] def bits_Len_ps  : List PM := [.d (.int .u64)]
def bits_Len_orc  : Orc := Orc.of bits_Len_ps true 0 fun x => (bits_Len_P x.1, [.d (.int .i64) (bits_Len_r x.1)])
def bits_Len_orcs  : List (FuncId × Orc) := [(163, bits_Len64_orc)]
def bits_Len_book0  : Book := { Γ := gam, orc := orcsOf bits_Len_orcs, hint := hintsOf [] }
def bits_Len_lo (F : Nat) : List (LoE Unit) := []
def bits_Len_book (F : Nat) : BookL Unit := { toBook := bits_Len_book0, lo := losOf (bits_Len_lo F), need := needsOf [] }
theorem bits_Len_loOk (F : Nat) : LoOk prog (bits_Len_book F) F := loOk_of (l := bits_Len_lo F) rfl fz
theorem bits_Len_run (F : Nat) (x : ArgsT bits_Len_ps) (kend : List BV → ZO) : runFnL prog (bits_Len_book F) F 20 148 (argsInst bits_Len_ps x) [.d (.int .i64)] kend = bits_Len F x.1 none (fun y0 => kend [BV.d (.int .i64) y0]) := by kernel_rfl
theorem bits_Len_contract  : Contract prog 148 bits_Len_orc := con_of (B0 := bits_Len_book0) zN zG mix_ok zT bits_Len_run (orcsOf_ok (fa bits_Len64_contract fz)) (by kernel_rfl) (fun _ => rfl) bits_Len_loOk (fun x h => (bits_Len_plain x.1 h).elim fun F hF => ⟨F, fun kend => hF none _⟩)
@[reducible] def bits_LeadingZeros8_ps  : List PM := [.d (.int .u8)]
def bits_LeadingZeros8_orc  : Orc := Orc.of bits_LeadingZeros8_ps true 0 fun x => (true, [.d (.int .i64) (bits_LeadingZeros8_r x.1)])
def bits_LeadingZeros8_orcs  : List (FuncId × Orc) := [(147, bits_Len8_orc)]
def bits_LeadingZeros8_book0  : Book := { Γ := gam, orc := orcsOf bits_LeadingZeros8_orcs, hint := hintsOf [] }
def bits_LeadingZeros8_lo (F : Nat) : List (LoE Unit) := []
def bits_LeadingZeros8_book (F : Nat) : BookL Unit := { toBook := bits_LeadingZeros8_book0, lo := losOf (bits_LeadingZeros8_lo F), need := needsOf [] }
theorem bits_LeadingZeros8_loOk (F : Nat) : LoOk prog (bits_LeadingZeros8_book F) F := loOk_of (l := bits_LeadingZeros8_lo F) rfl fz
theorem bits_LeadingZeros8_run (F : Nat) (x : ArgsT bits_LeadingZeros8_ps) (kend : List BV → ZO) : runFnL prog (bits_LeadingZeros8_book F) F 20 118 (argsInst bits_LeadingZeros8_ps x) [.d (.int .i64)] kend = bits_LeadingZeros8 F x.1 none (fun y0 => kend [BV.d (.int .i64) y0]) := by kernel_rfl
theorem bits_LeadingZeros8_contract  : Contract prog 118 bits_LeadingZeros8_orc := con_of (B0 := bits_LeadingZeros8_book0) zN zG mix_ok zT bits_LeadingZeros8_run (orcsOf_ok (fa bits_Len8_contract fz)) (by kernel_rfl) (fun _ => rfl) bits_LeadingZeros8_loOk (fun x _ => (bits_LeadingZeros8_plain x.1).elim fun F hF => ⟨F, fun kend => hF none _⟩)
@[reducible] def wire_number_ps  : List PM := [.d (.int .i64)]
def wire_number_orc  : Orc := Orc.of wire_number_ps true 0 fun x => (true, [.d (.int .i64) (wire_number_r x.1)])
def wire_number_orcs  : List (FuncId × Orc) := []
def wire_number_book0  : Book := { Γ := gam, orc := orcsOf wire_number_orcs, hint := hintsOf [] }
def wire_number_lo (F : Nat) : List (LoE Unit) := []
def wire_number_book (F : Nat) : BookL Unit := { toBook := wire_number_book0, lo := losOf (wire_number_lo F), need := needsOf [] }
theorem wire_number_loOk (F : Nat) : LoOk prog (wire_number_book F) F := loOk_of (l := wire_number_lo F) rfl fz
theorem wire_number_run (F : Nat) (x : ArgsT wire_number_ps) (kend : List BV → ZO) : runFnL prog (wire_number_book F) F 20 137 (argsInst wire_number_ps x) [.d (.int .i64)] kend = wire_number F x.1 none (fun y0 => kend [BV.d (.int .i64) y0]) := by kernel_rfl
theorem wire_number_contract  : Contract prog 137 wire_number_orc := con_of (B0 := wire_number_book0) zN zG mix_ok zT wire_number_run (orcsOf_ok fz) (by kernel_rfl) (fun _ => rfl) wire_number_loOk (fun x _ => (wire_number_plain x.1).elim fun F hF => ⟨F, fun kend => hF none _⟩)
@[reducible] def wire_further_ps  : List PM := [.d (.int .i64)]
def wire_further_orc  : Orc := Orc.of wire_further_ps true 0 fun x => (wire_further_P x.1, [.d (.int .i64) (wire_further_r x.1)])
def wire_further_orcs  : List (FuncId × Orc) := [(148, bits_Len_orc)]
def wire_further_book0  : Book := { Γ := gam, orc := orcsOf wire_further_orcs, hint := hintsOf [] }
def wire_further_lo (F : Nat) : List (LoE Unit) := []
def wire_further_book (F : Nat) : BookL Unit := { toBook := wire_further_book0, lo := losOf (wire_further_lo F), need := needsOf [] }
theorem wire_further_loOk (F : Nat) : LoOk prog (wire_further_book F) F := loOk_of (l := wire_further_lo F) rfl fz
theorem wire_further_run (F : Nat) (x : ArgsT wire_further_ps) (kend : List BV → ZO) : runFnL prog (wire_further_book F) F 20 119 (argsInst wire_further_ps x) [.d (.int .i64)] kend = wire_further F x.1 none (fun y0 => kend [BV.d (.int .i64) y0]) := by kernel_rfl
theorem wire_further_contract  : Contract prog 119 wire_further_orc := con_of (B0 := wire_further_book0) zN zG mix_ok zT wire_further_run (orcsOf_ok (fa bits_Len_contract fz)) (by kernel_rfl) (fun _ => rfl) wire_further_loOk (fun x h => (wire_further_plain x.1 h).elim fun F hF => ⟨F, fun kend => hF none _⟩)
@[reducible] def clone_byte_ps  : List PM := [.d (.slc (.int .u8))]
def clone_byte_orc  : Orc := Orc.of clone_byte_ps true 1 fun x => (clone_byte_P x.1, [.o 5 (.int .u8) (clone_byte_r x.1)])
def clone_byte_orcs  : List (FuncId × Orc) := []
def clone_byte_book0  : Book := { Γ := gam, orc := orcsOf clone_byte_orcs, hint := hintsOf [] }
def clone_byte_lo (F : Nat) : List (LoE Unit) := []
def clone_byte_book (F : Nat) : BookL Unit := { toBook := clone_byte_book0, lo := losOf (clone_byte_lo F), need := needsOf [] }
theorem clone_byte_loOk (F : Nat) : LoOk prog (clone_byte_book F) F := loOk_of (l := clone_byte_lo F) rfl fz
theorem clone_byte_run (F : Nat) (x : ArgsT clone_byte_ps) (kend : List BV → ZO) : runFnL prog (clone_byte_book F) F 20 100 (argsInst clone_byte_ps x) [.o 5 (.int .u8)] kend = clone_byte F x.1 none both (fun y0 => kend [BV.o 5 (.int .u8) y0]) := by kernel_rfl
theorem clone_byte_contract  : Contract prog 100 clone_byte_orc := con_of (B0 := clone_byte_book0) zN zG mix_ok zT clone_byte_run (orcsOf_ok fz) (by kernel_rfl) (fun _ => rfl) clone_byte_loOk (fun x h => (clone_byte_plain x.1 h).elim fun F hF => ⟨F, fun kend => hF none both both_self _⟩)
@[reducible] def wire_put_ps  : List PM := [.o 5 (.int .u8), .d (.int .i64)]
def wire_put_orc  : Orc := Orc.of wire_put_ps true 1 fun x => (wire_put_P x.1 x.2.1, [.o 5 (.int .u8) (wire_put_r x.1 x.2.1)])
@[reducible] def wire_put_l1_T  : Tpl := { cur := ⟨[(0, .row 0), (0, .var (.int .i64)), (5, .var (.int .i64))], 32⟩, stk := [⟨[], 0⟩], heap := [.row 5 (.int .u8) false] }
def wire_put_orcs  : List (FuncId × Orc) := [(119, wire_further_orc), (137, wire_number_orc)]
def wire_put_book0  : Book := { Γ := gam, orc := orcsOf wire_put_orcs, hint := hintsOf [(99, { keep := some [0, 1, 7], keeps := [(6, [0, 1, 7])], own := [], dat := [], stk := [] })] }
def wire_put_l1_G (F : Nat) (nx : wire_put_l1_T.T → ZO) (kq : ZK) (x : wire_put_l1_T.T) : ZO := wire_put_l1 F none (fun n i dst => nx (((), (n, (i, ()))), (((), ()), (dst, ())))) (fun y0 y1 y2 => kq (.exit 0) (wire_put_l1_T.inst (((), (y0, (y1, ()))), (((), ()), (y2, ()))))) x.1.2.1 x.1.2.2.1 x.2.2.1
def wire_put_l1_R (F m : Nat) (x : wire_put_l1_T.T) (kq : ZK) : ZO := wire_put_l1F F none (fun y0 y1 y2 => kq (.exit 0) (wire_put_l1_T.inst (((), (y0, (y1, ()))), (((), ()), (y2, ()))))) m x.1.2.1 x.1.2.2.1 x.2.2.1
def wire_put_lo (F : Nat) : List (LoE Unit) := [⟨99, 6, LO.of wire_put_l1_T (wire_put_l1_R F F)⟩]
def wire_put_book (F : Nat) : BookL Unit := { toBook := wire_put_book0, lo := losOf (wire_put_lo F), need := needsOf [] }
theorem wire_put_l1_step (F : Nat) : LStep prog (wire_put_book F) F 99 0 6 wire_put_l1_T (wire_put_l1_G F) := fun d x KQ => by kernel_rfl
theorem wire_put_loOk (F : Nat) : LoOk prog (wire_put_book F) F := loOk_of (l := wire_put_lo F) rfl (fa (loOne_of 0 (by kernel_rfl) (by kernel_rfl) (lstep_run (wire_put_l1_step F) (fun _ _ => rfl) (fun _ _ _ _ => rfl))) fz)
theorem wire_put_run (F : Nat) (x : ArgsT wire_put_ps) (kend : List BV → ZO) : runFnL prog (wire_put_book F) F 20 99 (argsInst wire_put_ps x) [.o 5 (.int .u8)] kend = wire_put F x.1 x.2.1 none (fun y0 => kend [BV.o 5 (.int .u8) y0]) := by kernel_rfl
theorem wire_put_contract  : Contract prog 99 wire_put_orc := con_of (B0 := wire_put_book0) zN zG mix_ok zT wire_put_run (orcsOf_ok (fa wire_further_contract (fa wire_number_contract fz))) (by kernel_rfl) (fun _ => rfl) wire_put_loOk (fun x h => (wire_put_plain x.1 x.2.1 h).elim fun F hF => ⟨F, fun kend => hF none _⟩)
@[reducible] def wire_PutInt_ps  : List PM := [.d (.slc (.int .u8)), .d (.int .i64)]
def wire_PutInt_orc  : Orc := Orc.of wire_PutInt_ps true 1 fun x => (wire_PutInt_P x.1 x.2.1, [.o 5 (.int .u8) (wire_PutInt_r x.1 x.2.1)])
def wire_PutInt_orcs  : List (FuncId × Orc) := [(99, wire_put_orc), (100, clone_byte_orc)]
def wire_PutInt_book0  : Book := { Γ := gam, orc := orcsOf wire_PutInt_orcs, hint := hintsOf [] }
def wire_PutInt_lo (F : Nat) : List (LoE Unit) := []
def wire_PutInt_book (F : Nat) : BookL Unit := { toBook := wire_PutInt_book0, lo := losOf (wire_PutInt_lo F), need := needsOf [] }
theorem wire_PutInt_loOk (F : Nat) : LoOk prog (wire_PutInt_book F) F := loOk_of (l := wire_PutInt_lo F) rfl fz
theorem wire_PutInt_run (F : Nat) (x : ArgsT wire_PutInt_ps) (kend : List BV → ZO) : runFnL prog (wire_PutInt_book F) F 20 51 (argsInst wire_PutInt_ps x) [.o 5 (.int .u8)] kend = wire_PutInt F x.1 x.2.1 none (fun y0 => kend [BV.o 5 (.int .u8) y0]) := by kernel_rfl
theorem wire_PutInt_contract  : Contract prog 51 wire_PutInt_orc := con_of (B0 := wire_PutInt_book0) zN zG mix_ok zT wire_PutInt_run (orcsOf_ok (fa wire_put_contract (fa clone_byte_contract fz))) (by kernel_rfl) (fun _ => rfl) wire_PutInt_loOk (fun x h => (wire_PutInt_plain x.1 x.2.1 h).elim fun F hF => ⟨F, fun kend => hF none _⟩)
@[reducible] def wire_Int_ps  : List PM := [.d (.slc (.int .u8))]
def wire_Int_orc  : Orc := Orc.of wire_Int_ps false 0 fun x => (wire_Int_P x.1, [.d (.int .i64) (wire_Int_r0 x.1), .d (.slc (.int .u8)) (wire_Int_r1 x.1), .d (.int .i64) (wire_Int_r2 x.1)])
@[reducible] def wire_Int_l1_T  : Tpl := { cur := ⟨[(0, .var (.slc (.int .u8))), (4, .var (.int .i64)), (0, .var (.int .i64)), (26, .var (.slc (.int .u8))), (0, .var (.int .i64)), (0, .var (.int .i64))], 23⟩, stk := [⟨[], 0⟩], heap := [] }
def wire_Int_orcs  : List (FuncId × Orc) := [(100, clone_byte_orc), (118, bits_LeadingZeros8_orc), (119, wire_further_orc)]
def wire_Int_book0  : Book := { Γ := gam, orc := orcsOf wire_Int_orcs, hint := hintsOf [(72, { keep := some [0, 5, 6, 33, 34, 35], keeps := [(10, [0, 5, 6, 33, 34, 35])], own := [], dat := [], stk := [] })] }
def wire_Int_l1_G (F : Nat) (nx : wire_Int_l1_T.T → ZO) (kq : ZK) (x : wire_Int_l1_T.T) : ZO := wire_Int_l1 F none (fun src k n s33 s34 s35 => nx ((src, (k, (n, (s33, (s34, (s35, ())))))), (((), ()), ()))) (fun y0 y1 y2 y3 y4 y5 => kq (.exit 0) (wire_Int_l1_T.inst ((y0, (y1, (y2, (y3, (y4, (y5, ())))))), (((), ()), ())))) x.1.1 x.1.2.1 x.1.2.2.1 x.1.2.2.2.1 x.1.2.2.2.2.1 x.1.2.2.2.2.2.1
def wire_Int_l1_R (F m : Nat) (x : wire_Int_l1_T.T) (kq : ZK) : ZO := wire_Int_l1F F none (fun y0 y1 y2 y3 y4 y5 => kq (.exit 0) (wire_Int_l1_T.inst ((y0, (y1, (y2, (y3, (y4, (y5, ())))))), (((), ()), ())))) m x.1.1 x.1.2.1 x.1.2.2.1 x.1.2.2.2.1 x.1.2.2.2.2.1 x.1.2.2.2.2.2.1
def wire_Int_lo (F : Nat) : List (LoE Unit) := [⟨72, 10, LO.of wire_Int_l1_T (wire_Int_l1_R F F)⟩]
def wire_Int_book (F : Nat) : BookL Unit := { toBook := wire_Int_book0, lo := losOf (wire_Int_lo F), need := needsOf [] }
theorem wire_Int_l1_step (F : Nat) : LStep prog (wire_Int_book F) F 72 0 10 wire_Int_l1_T (wire_Int_l1_G F) := fun d x KQ => by kernel_rfl
theorem wire_Int_loOk (F : Nat) : LoOk prog (wire_Int_book F) F := loOk_of (l := wire_Int_lo F) rfl (fa (loOne_of 0 (by kernel_rfl) (by kernel_rfl) (lstep_run (wire_Int_l1_step F) (fun _ _ => rfl) (fun _ _ _ _ => rfl))) fz)
theorem wire_Int_run (F : Nat) (x : ArgsT wire_Int_ps) (kend : List BV → ZO) : runFnL prog (wire_Int_book F) F 20 72 (argsInst wire_Int_ps x) [.d (.int .i64), .d (.slc (.int .u8)), .d (.int .i64)] kend = wire_Int F x.1 none (fun y0 y1 y2 => kend [BV.d (.int .i64) y0, BV.d (.slc (.int .u8)) y1, BV.d (.int .i64) y2]) := by kernel_rfl
theorem wire_Int_contract  : Contract prog 72 wire_Int_orc := con_of (B0 := wire_Int_book0) zN zG mix_ok zT wire_Int_run (orcsOf_ok (fa clone_byte_contract (fa bits_LeadingZeros8_contract (fa wire_further_contract fz)))) (by kernel_rfl) (fun _ => rfl) wire_Int_loOk (fun x h => (wire_Int_plain x.1 h).elim fun F hF => ⟨F, fun kend => hF none _⟩)
end Go.AI
namespace Go.AI
open Go
open Go.Proofs.Tryz (prog)
set_option linter.unusedVariables false
@[reducible] def wire_PutBytes_ps  : List PM := [.d (.slc (.int .u8)), .d (.slc (.int .u8))]
def wire_PutBytes_orc  : Orc := Orc.of wire_PutBytes_ps true 1 fun x => (wire_PutBytes_P x.1 x.2.1, [.o 5 (.int .u8) (wire_PutBytes_r x.1 x.2.1)])
@[reducible] def wire_PutBytes_l1_T  : Tpl := { cur := ⟨[(1, .row 0), (1, .ptr 1 []), (10, .var (.slc (.int .u8))), (0, .var (.int .i64)), (0, .var (.int .i64))], 10⟩, stk := [⟨[], 9⟩, ⟨[], 0⟩], heap := [.row 5 (.int .u8) false, .box (.pr (.fn 101 (.un)) (.var .unit))] }
def wire_PutBytes_orcs  : List (FuncId × Orc) := [(99, wire_put_orc), (100, clone_byte_orc)]
def wire_PutBytes_book0  : Book := { Γ := gam, orc := orcsOf wire_PutBytes_orcs, hint := hintsOf [(102, { keep := some [1, 3, 14, 15, 16], keeps := [(3, [1, 3, 14, 15, 16])], own := [], dat := [], stk := [[]] })] }
def wire_PutBytes_l1_G (F : Nat) (nx : wire_PutBytes_l1_T.T → ZO) (kq : ZK) (x : wire_PutBytes_l1_T.T) : ZO := wire_PutBytes_l1 F none (fun s14 s15 s16 dst => nx (((), ((), (s14, (s15, (s16, ()))))), (((), ((), ())), (dst, (((), ()), ()))))) (fun y0 y1 y2 y3 => kq (.exit 0) (wire_PutBytes_l1_T.inst (((), ((), (y0, (y1, (y2, ()))))), (((), ((), ())), (y3, (((), ()), ())))))) x.1.2.2.1 x.1.2.2.2.1 x.1.2.2.2.2.1 x.2.2.1
def wire_PutBytes_l1_R (F m : Nat) (x : wire_PutBytes_l1_T.T) (kq : ZK) : ZO := wire_PutBytes_l1F F none (fun y0 y1 y2 y3 => kq (.exit 0) (wire_PutBytes_l1_T.inst (((), ((), (y0, (y1, (y2, ()))))), (((), ((), ())), (y3, (((), ()), ())))))) m x.1.2.2.1 x.1.2.2.2.1 x.1.2.2.2.2.1 x.2.2.1
def wire_PutBytes_lo (F : Nat) : List (LoE Unit) := [⟨102, 3, LO.of wire_PutBytes_l1_T (wire_PutBytes_l1_R F F)⟩]
def wire_PutBytes_book (F : Nat) : BookL Unit := { toBook := wire_PutBytes_book0, lo := losOf (wire_PutBytes_lo F), need := needsOf [(102, 1)] }
theorem wire_PutBytes_l1_step (F : Nat) : LStep prog (wire_PutBytes_book F) F 102 0 3 wire_PutBytes_l1_T (wire_PutBytes_l1_G F) := fun d x KQ => by kernel_rfl
theorem wire_PutBytes_loOk (F : Nat) : LoOk prog (wire_PutBytes_book F) F := loOk_of (l := wire_PutBytes_lo F) rfl (fa (loOne_of 0 (by kernel_rfl) (by kernel_rfl) (lstep_run (wire_PutBytes_l1_step F) (fun _ _ => rfl) (fun _ _ _ _ => rfl))) fz)
theorem wire_PutBytes_run (F : Nat) (x : ArgsT wire_PutBytes_ps) (kend : List BV → ZO) : runFnL prog (wire_PutBytes_book F) F 20 53 (argsInst wire_PutBytes_ps x) [.o 5 (.int .u8)] kend = wire_PutBytes F x.1 x.2.1 none (fun y0 => kend [BV.o 5 (.int .u8) y0]) := by kernel_rfl
theorem wire_PutBytes_contract  : Contract prog 53 wire_PutBytes_orc := con_of (B0 := wire_PutBytes_book0) zN zG mix_ok zT wire_PutBytes_run (orcsOf_ok (fa wire_put_contract (fa clone_byte_contract fz))) (by kernel_rfl) (fun _ => rfl) wire_PutBytes_loOk (fun x h => (wire_PutBytes_plain x.1 x.2.1 h).elim fun F hF => ⟨F, fun kend => hF none _⟩)
@[reducible] def wire_Bytes_ps  : List PM := [.d (.slc (.int .u8))]
def wire_Bytes_orc  : Orc := Orc.of wire_Bytes_ps false 0 fun x => (wire_Bytes_P x.1, [.d (.slc (.int .u8)) (wire_Bytes_r0 x.1), .d (.slc (.int .u8)) (wire_Bytes_r1 x.1), .d (.int .i64) (wire_Bytes_r2 x.1)])
def wire_Bytes_orcs  : List (FuncId × Orc) := [(72, wire_Int_orc), (100, clone_byte_orc)]
def wire_Bytes_book0  : Book := { Γ := gam, orc := orcsOf wire_Bytes_orcs, hint := hintsOf [] }
def wire_Bytes_lo (F : Nat) : List (LoE Unit) := []
def wire_Bytes_book (F : Nat) : BookL Unit := { toBook := wire_Bytes_book0, lo := losOf (wire_Bytes_lo F), need := needsOf [] }
theorem wire_Bytes_loOk (F : Nat) : LoOk prog (wire_Bytes_book F) F := loOk_of (l := wire_Bytes_lo F) rfl fz
theorem wire_Bytes_run (F : Nat) (x : ArgsT wire_Bytes_ps) (kend : List BV → ZO) : runFnL prog (wire_Bytes_book F) F 20 75 (argsInst wire_Bytes_ps x) [.d (.slc (.int .u8)), .d (.slc (.int .u8)), .d (.int .i64)] kend = wire_Bytes F x.1 none (fun y0 y1 y2 => kend [BV.d (.slc (.int .u8)) y0, BV.d (.slc (.int .u8)) y1, BV.d (.int .i64) y2]) := by kernel_rfl
theorem wire_Bytes_contract  : Contract prog 75 wire_Bytes_orc := con_of (B0 := wire_Bytes_book0) zN zG mix_ok zT wire_Bytes_run (orcsOf_ok (fa wire_Int_contract (fa clone_byte_contract fz))) (by kernel_rfl) (fun _ => rfl) wire_Bytes_loOk (fun x h => (wire_Bytes_plain x.1 h).elim fun F hF => ⟨F, fun kend => hF none _⟩)
end Go.AI
namespace Go.AI
open Go
open Go.Proofs.Tryz (prog)
set_option linter.unusedVariables false
@[reducible] def rotr_ps  : List PM := [.d (.int .u32), .d (.int .i64)]
def rotr_orc  : Orc := Orc.of rotr_ps true 0 fun x => (rotr_P x.1 x.2.1, [.d (.int .u32) (rotr_r x.1 x.2.1)])
def rotr_orcs  : List (FuncId × Orc) := []
def rotr_book0  : Book := { Γ := gam, orc := orcsOf rotr_orcs, hint := hintsOf [] }
def rotr_lo (F : Nat) : List (LoE Unit) := []
def rotr_book (F : Nat) : BookL Unit := { toBook := rotr_book0, lo := losOf (rotr_lo F), need := needsOf [] }
theorem rotr_loOk (F : Nat) : LoOk prog (rotr_book F) F := loOk_of (l := rotr_lo F) rfl fz
theorem rotr_run (F : Nat) (x : ArgsT rotr_ps) (kend : List BV → ZO) : runFnL prog (rotr_book F) F 20 168 (argsInst rotr_ps x) [.d (.int .u32)] kend = rotr F x.1 x.2.1 none (fun y0 => kend [BV.d (.int .u32) y0]) := by kernel_rfl
theorem rotr_contract  : Contract prog 168 rotr_orc := con_of (B0 := rotr_book0) zN zG mix_ok zT rotr_run (orcsOf_ok fz) (by kernel_rfl) (fun _ => rfl) rotr_loOk (fun x h => (rotr_plain x.1 x.2.1 h).elim fun F hF => ⟨F, fun kend => hF none _⟩)
@[reducible] def shr_ps  : List PM := [.d (.int .u32), .d (.int .i64)]
def shr_orc  : Orc := Orc.of shr_ps true 0 fun x => (shr_P x.1 x.2.1, [.d (.int .u32) (shr_r x.1 x.2.1)])
def shr_orcs  : List (FuncId × Orc) := []
def shr_book0  : Book := { Γ := gam, orc := orcsOf shr_orcs, hint := hintsOf [] }
def shr_lo (F : Nat) : List (LoE Unit) := []
def shr_book (F : Nat) : BookL Unit := { toBook := shr_book0, lo := losOf (shr_lo F), need := needsOf [] }
theorem shr_loOk (F : Nat) : LoOk prog (shr_book F) F := loOk_of (l := shr_lo F) rfl fz
theorem shr_run (F : Nat) (x : ArgsT shr_ps) (kend : List BV → ZO) : runFnL prog (shr_book F) F 20 177 (argsInst shr_ps x) [.d (.int .u32)] kend = shr F x.1 x.2.1 none (fun y0 => kend [BV.d (.int .u32) y0]) := by kernel_rfl
theorem shr_contract  : Contract prog 177 shr_orc := con_of (B0 := shr_book0) zN zG mix_ok zT shr_run (orcsOf_ok fz) (by kernel_rfl) (fun _ => rfl) shr_loOk (fun x h => (shr_plain x.1 x.2.1 h).elim fun F hF => ⟨F, fun kend => hF none _⟩)
def three_0_orcs  : List (FuncId × Orc) := [(168, rotr_orc)]
def three_0_book0  : Book := { Γ := gam, orc := orcsOf three_0_orcs, hint := hintsOf [] }
def three_0_lo (F : Nat) : List (LoE Unit) := []
def three_0_book (F : Nat) : BookL Unit := { toBook := three_0_book0, lo := losOf (three_0_lo F), need := needsOf [] }
theorem three_0_loOk (F : Nat) : LoOk prog (three_0_book F) F := loOk_of (l := three_0_lo F) rfl fz
theorem three_0_run (F : Nat) (x_ : UInt32) (a b c : Int) (kend : List BV → ZO) : runFnL prog (three_0_book F) F 20 167 [.d (.int .u32) x_, .d (.int .i64) a, .d (.int .i64) b, .d (.int .i64) c, .f 168] [.d (.int .u32)] kend = three_0 F x_ a b c none (fun y0 => kend [BV.d (.int .u32) y0]) := by kernel_rfl
theorem three_0_contract  : Contract prog 167 (Orc.of [.d (.int .u32), .d (.int .i64), .d (.int .i64), .d (.int .i64), .f] true 0 fun x => ((Nat.beq x.2.2.2.2.1 168) && three_P x.1 x.2.1 x.2.2.1 x.2.2.2.1 x.2.2.2.2.1, [.d (.int .u32) (three_r x.1 x.2.1 x.2.2.1 x.2.2.2.1 x.2.2.2.2.1)])) := contract_of_runL (B0 := three_0_book0) zN zG mix_ok zT (orcsOf_ok (fa rotr_contract fz)) (by kernel_rfl) (fun x h => by
 obtain ⟨x0, x1, x2, x3, x4, _⟩ := x
 simp only [Bool.and_eq_true] at h
 obtain ⟨e, h⟩ := h
 have e := Nat.eq_of_beq_eq_true e
 subst e
 obtain ⟨F, hF⟩ := three_0_plain x0 x1 x2 x3 h
 exact ⟨F, 20, three_0_book F, rfl, three_0_loOk F, fun kend => (three_0_run F x0 x1 x2 x3 kend).trans (hF none (fun y0 => kend [BV.d (.int .u32) y0]))⟩)
def three_1_orcs  : List (FuncId × Orc) := [(168, rotr_orc), (177, shr_orc)]
def three_1_book0  : Book := { Γ := gam, orc := orcsOf three_1_orcs, hint := hintsOf [] }
def three_1_lo (F : Nat) : List (LoE Unit) := []
def three_1_book (F : Nat) : BookL Unit := { toBook := three_1_book0, lo := losOf (three_1_lo F), need := needsOf [] }
theorem three_1_loOk (F : Nat) : LoOk prog (three_1_book F) F := loOk_of (l := three_1_lo F) rfl fz
theorem three_1_run (F : Nat) (x_ : UInt32) (a b c : Int) (kend : List BV → ZO) : runFnL prog (three_1_book F) F 20 167 [.d (.int .u32) x_, .d (.int .i64) a, .d (.int .i64) b, .d (.int .i64) c, .f 177] [.d (.int .u32)] kend = three_1 F x_ a b c none (fun y0 => kend [BV.d (.int .u32) y0]) := by kernel_rfl
theorem three_1_contract  : Contract prog 167 (Orc.of [.d (.int .u32), .d (.int .i64), .d (.int .i64), .d (.int .i64), .f] true 0 fun x => ((Nat.beq x.2.2.2.2.1 177) && three_P x.1 x.2.1 x.2.2.1 x.2.2.2.1 x.2.2.2.2.1, [.d (.int .u32) (three_r x.1 x.2.1 x.2.2.1 x.2.2.2.1 x.2.2.2.2.1)])) := contract_of_runL (B0 := three_1_book0) zN zG mix_ok zT (orcsOf_ok (fa rotr_contract (fa shr_contract fz))) (by kernel_rfl) (fun x h => by
 obtain ⟨x0, x1, x2, x3, x4, _⟩ := x
 simp only [Bool.and_eq_true] at h
 obtain ⟨e, h⟩ := h
 have e := Nat.eq_of_beq_eq_true e
 subst e
 obtain ⟨F, hF⟩ := three_1_plain x0 x1 x2 x3 h
 exact ⟨F, 20, three_1_book F, rfl, three_1_loOk F, fun kend => (three_1_run F x0 x1 x2 x3 kend).trans (hF none (fun y0 => kend [BV.d (.int .u32) y0]))⟩)
def three_orc  : Orc := Orc.of [.d (.int .u32), .d (.int .i64), .d (.int .i64), .d (.int .i64), .f] true 0 fun x => ((Nat.beq x.2.2.2.2.1 168 || Nat.beq x.2.2.2.2.1 177) && three_P x.1 x.2.1 x.2.2.1 x.2.2.2.1 x.2.2.2.2.1, [.d (.int .u32) (three_r x.1 x.2.1 x.2.2.1 x.2.2.2.1 x.2.2.2.2.1)])
theorem three_contract  : Contract prog 167 three_orc := contract_cases three_0_contract.1 (fun x h => by
 obtain ⟨x0, x1, x2, x3, x4, _⟩ := x
 simp only [Bool.and_eq_true, Bool.or_eq_true] at h
 obtain ⟨e, _⟩ := h
 rcases e with e | e
 ·have e := Nat.eq_of_beq_eq_true e
  subst e
  exact ⟨_, three_0_contract, rfl⟩
 ·have e := Nat.eq_of_beq_eq_true e
  subst e
  exact ⟨_, three_1_contract, rfl⟩)
@[reducible] def consts_ps  : List PM := []
def consts_orc  : Orc := Orc.of consts_ps true 0 fun x => (consts_P, [.d (.arr 64 (.int .u32)) (consts_r)])
def consts_orcs  : List (FuncId × Orc) := []
def consts_book0  : Book := { Γ := gam, orc := orcsOf consts_orcs, hint := hintsOf [] }
def consts_lo (F : Nat) : List (LoE Unit) := []
def consts_book (F : Nat) : BookL Unit := { toBook := consts_book0, lo := losOf (consts_lo F), need := needsOf [] }
theorem consts_loOk (F : Nat) : LoOk prog (consts_book F) F := loOk_of (l := consts_lo F) rfl fz
theorem consts_run (F : Nat) (x : ArgsT consts_ps) (kend : List BV → ZO) : runFnL prog (consts_book F) F 20 176 (argsInst consts_ps x) [.d (.arr 64 (.int .u32))] kend = consts F  none (fun y0 => kend [BV.d (.arr 64 (.int .u32)) y0]) := by kernel_rfl
theorem consts_contract  : Contract prog 176 consts_orc := con_of (B0 := consts_book0) zN zG mix_ok zT consts_run (orcsOf_ok fz) (by kernel_rfl) (fun _ => rfl) consts_loOk (fun x h => (consts_plain  h).elim fun F hF => ⟨F, fun kend => hF none _⟩)
@[reducible] def absorb_ps  : List PM := [.d (.arr 8 (.int .u32)), .d (.slc (.int .u8))]
def absorb_orc  : Orc := Orc.of absorb_ps true 0 fun x => (absorb_P x.1 x.2.1, [.d (.arr 8 (.int .u32)) (absorb_r x.1 x.2.1)])
@[reducible] def absorb_l2_T  : Tpl := { cur := ⟨[(0, .hnd .yield 0), (0, .ptr 2 []), (1, .ptr 3 []), (0, .var (.int .i64)), (0, .var (.int .u32)), (4, .var (.arr 64 (.int .u32))), (0, .var (.int .i64)), (11, .var (.slc (.int .u8))), (0, .var (.int .i64)), (0, .var (.int .i64))], 50⟩, stk := [⟨[(0, .hnd .yield 0)], 0⟩, ⟨[(2, .ptr 4 []), (1, .ptr 5 []), (0, .ptr 1 [])], 78⟩, ⟨[], 0⟩], heap := [.lp 156 3 ⟨[(5, .ptr 1 [])], 78⟩ .ready, .box (.var (.arr 8 (.int .u32))), .box (.var (.slc (.int .u8))), .box (.var (.arr 16 (.int .u32))), .box (.var (.arr 8 (.int .u32))), .box (.var (.arr 8 (.int .u32)))] }
@[reducible] def absorb_l1_T  : Tpl := { cur := ⟨[(0, .hnd .yield 0), (0, .ptr 2 []), (1, .ptr 3 []), (6, .var (.arr 64 (.int .u32))), (0, .var (.int .i64))], 64⟩, stk := [⟨[(0, .hnd .yield 0)], 0⟩, ⟨[(2, .ptr 4 []), (1, .ptr 5 []), (0, .ptr 1 [])], 78⟩, ⟨[], 0⟩], heap := [.lp 156 3 ⟨[(5, .ptr 1 [])], 78⟩ .ready, .box (.var (.arr 8 (.int .u32))), .box (.var (.slc (.int .u8))), .box (.var (.arr 16 (.int .u32))), .box (.var (.arr 8 (.int .u32))), .box (.var (.arr 8 (.int .u32)))] }
@[reducible] def absorb_l3_T  : Tpl := { cur := ⟨[(2, .ptr 0 []), (1, .ptr 1 []), (0, .ptr 2 []), (65, .var (.int .i64))], 12⟩, stk := [⟨[], 0⟩], heap := [.box (.var (.arr 8 (.int .u32))), .box (.var (.arr 8 (.int .u32))), .box (.var (.arr 8 (.int .u32)))] }
def absorb_orcs  : List (FuncId × Orc) := [(167, three_orc), (176, consts_orc)]
def absorb_book0  : Book := { Γ := gam, orc := orcsOf absorb_orcs, hint := hintsOf [(156, { keep := some [2, 4, 5, 71], keeps := [(9, [2, 4, 5, 71])], own := [], dat := [], stk := [] }), (175, { keep := some [0, 1, 3, 4, 5, 10, 11, 23, 24, 25], keeps := [(2, [0, 1, 3, 10, 11]), (6, [0, 1, 3, 4, 5, 10, 11, 23, 24, 25])], own := [], dat := [], stk := [[0], [2, 4, 5, 6, 7, 8, 9, 10, 15, 21]] })] }
def absorb_l2_G (F : Nat) (nx : absorb_l2_T.T → ZO) (kq : ZK) (x : absorb_l2_T.T) : ZO := absorb_l2 F none (fun i k s10 s11 s23 s24 s25 x_ s1 w s s4 => nx (((), ((), ((), (i, (k, (s10, (s11, (s23, (s24, (s25, ())))))))))), ((((), ()), (((), ((), ((), ()))), ((), ()))), (((), ()), (x_, (s1, (w, (s, (s4, ()))))))))) (fun y0 y1 y2 y3 y4 y5 y6 y7 y8 y9 y10 y11 => kq (.exit 2) (absorb_l2_T.inst (((), ((), ((), (y0, (y1, (y2, (y3, (y4, (y5, (y6, ())))))))))), ((((), ()), (((), ((), ((), ()))), ((), ()))), (((), ()), (y7, (y8, (y9, (y10, (y11, ())))))))))) x.1.2.2.2.1 x.1.2.2.2.2.1 x.1.2.2.2.2.2.1 x.1.2.2.2.2.2.2.1 x.1.2.2.2.2.2.2.2.1 x.1.2.2.2.2.2.2.2.2.1 x.1.2.2.2.2.2.2.2.2.2.1 x.2.2.2.1 x.2.2.2.2.1 x.2.2.2.2.2.1 x.2.2.2.2.2.2.1 x.2.2.2.2.2.2.2.1
def absorb_l2_R (F m : Nat) (x : absorb_l2_T.T) (kq : ZK) : ZO := absorb_l2F F none (fun y0 y1 y2 y3 y4 y5 y6 y7 y8 y9 y10 y11 => kq (.exit 2) (absorb_l2_T.inst (((), ((), ((), (y0, (y1, (y2, (y3, (y4, (y5, (y6, ())))))))))), ((((), ()), (((), ((), ((), ()))), ((), ()))), (((), ()), (y7, (y8, (y9, (y10, (y11, ())))))))))) m x.1.2.2.2.1 x.1.2.2.2.2.1 x.1.2.2.2.2.2.1 x.1.2.2.2.2.2.2.1 x.1.2.2.2.2.2.2.2.1 x.1.2.2.2.2.2.2.2.2.1 x.1.2.2.2.2.2.2.2.2.2.1 x.2.2.2.1 x.2.2.2.2.1 x.2.2.2.2.2.1 x.2.2.2.2.2.2.1 x.2.2.2.2.2.2.2.1
def absorb_l1_G (F : Nat) (nx : absorb_l1_T.T → ZO) (kq : ZK) (x : absorb_l1_T.T) : ZO := absorb_l1 F none (fun s10 s11 x_ s1 w s s4 => nx (((), ((), ((), (s10, (s11, ()))))), ((((), ()), (((), ((), ((), ()))), ((), ()))), (((), ()), (x_, (s1, (w, (s, (s4, ()))))))))) (fun y0 y1 y2 y3 y4 y5 y6 => kq (.exit 0) (absorb_l1_T.inst (((), ((), ((), (y0, (y1, ()))))), ((((), ()), (((), ((), ((), ()))), ((), ()))), (((), ()), (y2, (y3, (y4, (y5, (y6, ())))))))))) x.1.2.2.2.1 x.1.2.2.2.2.1 x.2.2.2.1 x.2.2.2.2.1 x.2.2.2.2.2.1 x.2.2.2.2.2.2.1 x.2.2.2.2.2.2.2.1
def absorb_l1_R (F m : Nat) (x : absorb_l1_T.T) (kq : ZK) : ZO := absorb_l1F F none (fun y0 y1 y2 y3 y4 y5 y6 => kq (.exit 0) (absorb_l1_T.inst (((), ((), ((), (y0, (y1, ()))))), ((((), ()), (((), ((), ((), ()))), ((), ()))), (((), ()), (y2, (y3, (y4, (y5, (y6, ())))))))))) m x.1.2.2.2.1 x.1.2.2.2.2.1 x.2.2.2.1 x.2.2.2.2.1 x.2.2.2.2.2.1 x.2.2.2.2.2.2.1 x.2.2.2.2.2.2.2.1
def absorb_l3_G (F : Nat) (nx : absorb_l3_T.T → ZO) (kq : ZK) (x : absorb_l3_T.T) : ZO := absorb_l3 F none (fun s71 s s4 x_ => nx (((), ((), ((), (s71, ())))), (((), ()), (s, (s4, (x_, ())))))) (fun y0 y1 y2 y3 => kq (.exit 2) (absorb_l3_T.inst (((), ((), ((), (y0, ())))), (((), ()), (y1, (y2, (y3, ()))))))) x.1.2.2.2.1 x.2.2.1 x.2.2.2.1 x.2.2.2.2.1
def absorb_l3_R (F m : Nat) (x : absorb_l3_T.T) (kq : ZK) : ZO := absorb_l3F F none (fun y0 y1 y2 y3 => kq (.exit 2) (absorb_l3_T.inst (((), ((), ((), (y0, ())))), (((), ()), (y1, (y2, (y3, ()))))))) m x.1.2.2.2.1 x.2.2.1 x.2.2.2.1 x.2.2.2.2.1
def absorb_lo (F : Nat) : List (LoE Unit) := [⟨175, 6, LO.of absorb_l2_T (absorb_l2_R F F)⟩,
 ⟨175, 2, LO.of absorb_l1_T (absorb_l1_R F F)⟩,
 ⟨156, 9, LO.of absorb_l3_T (absorb_l3_R F F)⟩]
def absorb_book (F : Nat) : BookL Unit := { toBook := absorb_book0, lo := losOf (absorb_lo F), need := needsOf [(175, 1)] }
theorem absorb_l2_step (F : Nat) : LStep prog (absorb_book F) F 175 1 6 absorb_l2_T (absorb_l2_G F) := fun d x KQ => by kernel_rfl
theorem absorb_l1_step (F : Nat) : LStep prog (absorb_book F) F 175 0 2 absorb_l1_T (absorb_l1_G F) := fun d x KQ => by kernel_rfl
theorem absorb_l3_step (F : Nat) : LStep prog (absorb_book F) F 156 0 9 absorb_l3_T (absorb_l3_G F) := fun d x KQ => by kernel_rfl
theorem absorb_loOk (F : Nat) : LoOk prog (absorb_book F) F := loOk_of (l := absorb_lo F) rfl (fa (loOne_of 1 (by kernel_rfl) (by kernel_rfl) (lstep_run (absorb_l2_step F) (fun _ _ => rfl) (fun _ _ _ _ => rfl))) (fa (loOne_of 0 (by kernel_rfl) (by kernel_rfl) (lstep_run (absorb_l1_step F) (fun _ _ => rfl) (fun _ _ _ _ => rfl))) (fa (loOne_of 0 (by kernel_rfl) (by kernel_rfl) (lstep_run (absorb_l3_step F) (fun _ _ => rfl) (fun _ _ _ _ => rfl))) fz)))
theorem absorb_run (F : Nat) (x : ArgsT absorb_ps) (kend : List BV → ZO) : runFnL prog (absorb_book F) F 20 156 (argsInst absorb_ps x) [.d (.arr 8 (.int .u32))] kend = absorb F x.1 x.2.1 none (fun y0 => kend [BV.d (.arr 8 (.int .u32)) y0]) := by kernel_rfl
theorem absorb_contract  : Contract prog 156 absorb_orc := con_of (B0 := absorb_book0) zN zG mix_ok zT absorb_run (orcsOf_ok (fa three_contract (fa consts_contract fz))) (by kernel_rfl) (fun _ => rfl) absorb_loOk (fun x h => (absorb_plain x.1 x.2.1 h).elim fun F hF => ⟨F, fun kend => hF none _⟩)
@[reducible] def hNew_ps  : List PM := []
def hNew_orc  : Orc := Orc.of hNew_ps false 0 fun x => (hNew_P, [.d (.pair (.arr 8 (.int .u32)) (.pair (.slc (.int .u8)) (.pair (.int .i64) .unit))) (hNew_r)])
def hNew_orcs  : List (FuncId × Orc) := []
def hNew_book0  : Book := { Γ := gam, orc := orcsOf hNew_orcs, hint := hintsOf [] }
def hNew_lo (F : Nat) : List (LoE Unit) := []
def hNew_book (F : Nat) : BookL Unit := { toBook := hNew_book0, lo := losOf (hNew_lo F), need := needsOf [] }
theorem hNew_loOk (F : Nat) : LoOk prog (hNew_book F) F := loOk_of (l := hNew_lo F) rfl fz
theorem hNew_run (F : Nat) (x : ArgsT hNew_ps) (kend : List BV → ZO) : runFnL prog (hNew_book F) F 20 140 (argsInst hNew_ps x) [.d (.pair (.arr 8 (.int .u32)) (.pair (.slc (.int .u8)) (.pair (.int .i64) .unit)))] kend = hNew F  none (fun y0 => kend [BV.d (.pair (.arr 8 (.int .u32)) (.pair (.slc (.int .u8)) (.pair (.int .i64) .unit))) y0]) := by kernel_rfl
theorem hNew_contract  : Contract prog 140 hNew_orc := con_of (B0 := hNew_book0) zN zG mix_ok zT hNew_run (orcsOf_ok fz) (by kernel_rfl) (fun _ => rfl) hNew_loOk (fun x h => (hNew_plain  h).elim fun F hF => ⟨F, fun kend => hF none _⟩)
@[reducible] def hwrite_ps  : List PM := [.d (.pair (.arr 8 (.int .u32)) (.pair (.slc (.int .u8)) (.pair (.int .i64) .unit))), .d (.slc (.int .u8))]
def hwrite_orc  : Orc := Orc.of hwrite_ps false 0 fun x => (hwrite_P x.1 x.2.1, [.d (.pair (.arr 8 (.int .u32)) (.pair (.slc (.int .u8)) (.pair (.int .i64) .unit))) (hwrite_r x.1 x.2.1)])
@[reducible] def hwrite_l1_T  : Tpl := { cur := ⟨[(1, .var (.slc (.int .u8))), (0, .ptr 0 []), (1, .ptr 1 []), (0, .ptr 2 []), (7, .var (.arr 8 (.int .u32))), (0, .var (.int .i64))], 45⟩, stk := [⟨[], 0⟩], heap := [.box (.var (.pair (.arr 8 (.int .u32)) (.pair (.slc (.int .u8)) (.pair (.int .i64) .unit)))), .box (.var (.pair (.arr 8 (.int .u32)) (.pair (.slc (.int .u8)) (.pair (.int .i64) .unit)))), .box (.var (.arr 8 (.int .u32)))] }
@[reducible] def hwrite_l2_T  : Tpl := { cur := ⟨[(1, .var (.slc (.int .u8))), (0, .ptr 0 []), (1, .ptr 1 []), (0, .ptr 2 []), (2, .var (.slc (.int .u8)))], 51⟩, stk := [⟨[], 0⟩], heap := [.box (.var (.pair (.arr 8 (.int .u32)) (.pair (.slc (.int .u8)) (.pair (.int .i64) .unit)))), .box (.var (.pair (.arr 8 (.int .u32)) (.pair (.slc (.int .u8)) (.pair (.int .i64) .unit)))), .box (.var (.arr 8 (.int .u32)))] }
@[reducible] def hwrite_l3_T  : Tpl := { cur := ⟨[(4, .ptr 0 []), (4, .ptr 1 []), (39, .var (.arr 8 (.int .u32))), (0, .var (.int .i64))], 9⟩, stk := [⟨[], 0⟩], heap := [.box (.var (.pair (.arr 8 (.int .u32)) (.pair (.slc (.int .u8)) (.pair (.int .i64) .unit)))), .box (.pr (.var (.arr 8 (.int .u32))) (.pr (.row 2) (.var (.pair (.int .i64) .unit)))), .row 5 (.int .u8) false] }
def hwrite_orcs  : List (FuncId × Orc) := [(156, absorb_orc)]
def hwrite_book0  : Book := { Γ := gam, orc := orcsOf hwrite_orcs, hint := hintsOf [(139, { keep := some [1, 2, 4, 5, 8, 9, 13, 14, 49, 50], keeps := [(3, [1, 2, 4, 5, 13, 14]), (8, [1, 2, 4, 5, 8]), (13, [4, 9, 49, 50])], own := [], dat := [], stk := [] })] }
def hwrite_l1_G (F : Nat) (nx : hwrite_l1_T.T → ZO) (kq : ZK) (x : hwrite_l1_T.T) : ZO := hwrite_l1 F none (fun b s13 s14 h s4 s => nx ((b, ((), ((), ((), (s13, (s14, ())))))), (((), ()), (h, (s4, (s, ())))))) (fun y0 y1 y2 y3 y4 y5 => kq (.exit 0) (hwrite_l1_T.inst ((y0, ((), ((), ((), (y1, (y2, ())))))), (((), ()), (y3, (y4, (y5, ()))))))) x.1.1 x.1.2.2.2.2.1 x.1.2.2.2.2.2.1 x.2.2.1 x.2.2.2.1 x.2.2.2.2.1
def hwrite_l1_R (F m : Nat) (x : hwrite_l1_T.T) (kq : ZK) : ZO := hwrite_l1F F none (fun y0 y1 y2 y3 y4 y5 => kq (.exit 0) (hwrite_l1_T.inst ((y0, ((), ((), ((), (y1, (y2, ())))))), (((), ()), (y3, (y4, (y5, ()))))))) m x.1.1 x.1.2.2.2.2.1 x.1.2.2.2.2.2.1 x.2.2.1 x.2.2.2.1 x.2.2.2.2.1
def hwrite_l2_G (F : Nat) (nx : hwrite_l2_T.T → ZO) (kq : ZK) (x : hwrite_l2_T.T) : ZO := hwrite_l2 F none (fun b all h s4 s => nx ((b, ((), ((), ((), (all, ()))))), (((), ()), (h, (s4, (s, ())))))) (fun y0 y1 y2 y3 y4 => kq (.exit 2) (hwrite_l2_T.inst ((y0, ((), ((), ((), (y1, ()))))), (((), ()), (y2, (y3, (y4, ()))))))) x.1.1 x.1.2.2.2.2.1 x.2.2.1 x.2.2.2.1 x.2.2.2.2.1
def hwrite_l2_R (F m : Nat) (x : hwrite_l2_T.T) (kq : ZK) : ZO := hwrite_l2F F none (fun y0 y1 y2 y3 y4 => kq (.exit 2) (hwrite_l2_T.inst ((y0, ((), ((), ((), (y1, ()))))), (((), ()), (y2, (y3, (y4, ()))))))) m x.1.1 x.1.2.2.2.2.1 x.2.2.1 x.2.2.2.1 x.2.2.2.2.1
def hwrite_l3_G (F : Nat) (nx : hwrite_l3_T.T → ZO) (kq : ZK) (x : hwrite_l3_T.T) : ZO := hwrite_l3 F none (fun s49 s50 s4 out out1 h2 => nx (((), ((), (s49, (s50, ())))), (((), ()), (s4, ((out, ((), out1)), (h2, ())))))) (fun y0 y1 y2 y3 y4 y5 => kq (.exit 4) (hwrite_l3_T.inst (((), ((), (y0, (y1, ())))), (((), ()), (y2, ((y3, ((), y4)), (y5, ()))))))) x.1.2.2.1 x.1.2.2.2.1 x.2.2.1 x.2.2.2.1.1 x.2.2.2.1.2.2 x.2.2.2.2.1
def hwrite_l3_R (F m : Nat) (x : hwrite_l3_T.T) (kq : ZK) : ZO := hwrite_l3F F none (fun y0 y1 y2 y3 y4 y5 => kq (.exit 4) (hwrite_l3_T.inst (((), ((), (y0, (y1, ())))), (((), ()), (y2, ((y3, ((), y4)), (y5, ()))))))) m x.1.2.2.1 x.1.2.2.2.1 x.2.2.1 x.2.2.2.1.1 x.2.2.2.1.2.2 x.2.2.2.2.1
def hwrite_lo (F : Nat) : List (LoE Unit) := [⟨139, 3, LO.of hwrite_l1_T (hwrite_l1_R F F)⟩,
 ⟨139, 8, LO.of hwrite_l2_T (hwrite_l2_R F F)⟩,
 ⟨139, 13, LO.of hwrite_l3_T (hwrite_l3_R F F)⟩]
def hwrite_book (F : Nat) : BookL Unit := { toBook := hwrite_book0, lo := losOf (hwrite_lo F), need := needsOf [] }
theorem hwrite_l1_step (F : Nat) : LStep prog (hwrite_book F) F 139 0 3 hwrite_l1_T (hwrite_l1_G F) := fun d x KQ => by kernel_rfl
theorem hwrite_l2_step (F : Nat) : LStep prog (hwrite_book F) F 139 1 8 hwrite_l2_T (hwrite_l2_G F) := fun d x KQ => by kernel_rfl
theorem hwrite_l3_step (F : Nat) : LStep prog (hwrite_book F) F 139 2 13 hwrite_l3_T (hwrite_l3_G F) := fun d x KQ => by kernel_rfl
theorem hwrite_loOk (F : Nat) : LoOk prog (hwrite_book F) F := loOk_of (l := hwrite_lo F) rfl (fa (loOne_of 0 (by kernel_rfl) (by kernel_rfl) (lstep_run (hwrite_l1_step F) (fun _ _ => rfl) (fun _ _ _ _ => rfl))) (fa (loOne_of 1 (by kernel_rfl) (by kernel_rfl) (lstep_run (hwrite_l2_step F) (fun _ _ => rfl) (fun _ _ _ _ => rfl))) (fa (loOne_of 2 (by kernel_rfl) (by kernel_rfl) (lstep_run (hwrite_l3_step F) (fun _ _ => rfl) (fun _ _ _ _ => rfl))) fz)))
theorem hwrite_run (F : Nat) (x : ArgsT hwrite_ps) (kend : List BV → ZO) : runFnL prog (hwrite_book F) F 20 139 (argsInst hwrite_ps x) [.d (.pair (.arr 8 (.int .u32)) (.pair (.slc (.int .u8)) (.pair (.int .i64) .unit)))] kend = hwrite F x.1 x.2.1 none (fun y0 => kend [BV.d (.pair (.arr 8 (.int .u32)) (.pair (.slc (.int .u8)) (.pair (.int .i64) .unit))) y0]) := by kernel_rfl
theorem hwrite_contract  : Contract prog 139 hwrite_orc := con_of (B0 := hwrite_book0) zN zG mix_ok zT hwrite_run (orcsOf_ok (fa absorb_contract fz)) (by kernel_rfl) (fun _ => rfl) hwrite_loOk (fun x h => (hwrite_plain x.1 x.2.1 h).elim fun F hF => ⟨F, fun kend => hF none _⟩)
@[reducible] def hfinish_ps  : List PM := [.d (.pair (.arr 8 (.int .u32)) (.pair (.slc (.int .u8)) (.pair (.int .i64) .unit)))]
def hfinish_orc  : Orc := Orc.of hfinish_ps true 0 fun x => (hfinish_P x.1, [.d (.arr 32 (.int .u8)) (hfinish_r x.1)])
@[reducible] def hfinish_l1_T  : Tpl := { cur := ⟨[(1, .ptr 0 []), (0, .ptr 1 []), (0, .row 2), (0, .var (.int .i64))], 52⟩, stk := [⟨[], 0⟩], heap := [.box (.var (.pair (.arr 8 (.int .u32)) (.pair (.slc (.int .u8)) (.pair (.int .i64) .unit)))), .box (.var (.arr 32 (.int .u8))), .row 5 (.int .u8) false] }
@[reducible] def hfinish_l3_T  : Tpl := { cur := ⟨[(2, .ptr 0 []), (2, .ptr 1 []), (0, .var (.int .i64)), (0, .var (.int .u32)), (27, .var (.arr 8 (.int .u32))), (0, .var (.int .i64)), (3, .var (.int .i64))], 16⟩, stk := [⟨[], 0⟩], heap := [.box (.var (.arr 32 (.int .u8))), .box (.var (.arr 32 (.int .u8)))] }
@[reducible] def hfinish_l2_T  : Tpl := { cur := ⟨[(2, .ptr 0 []), (2, .ptr 1 []), (29, .var (.arr 8 (.int .u32))), (0, .var (.int .i64))], 20⟩, stk := [⟨[], 0⟩], heap := [.box (.var (.arr 32 (.int .u8))), .box (.var (.arr 32 (.int .u8)))] }
def hfinish_orcs  : List (FuncId × Orc) := [(139, hwrite_orc)]
def hfinish_book0  : Book := { Γ := gam, orc := orcsOf hfinish_orcs, hint := hintsOf [(138, { keep := some [1, 2, 3, 4, 5, 6, 7, 35, 36, 40], keeps := [(4, [1, 2, 3, 4]), (9, [2, 5, 35, 36]), (12, [2, 5, 6, 7, 35, 36, 40])], own := [], dat := [], stk := [] })] }
def hfinish_l1_G (F : Nat) (nx : hfinish_l1_T.T → ZO) (kq : ZK) (x : hfinish_l1_T.T) : ZO := hfinish_l1 F none (fun shift h s2 pad => nx (((), ((), ((), (shift, ())))), (((), ()), (h, (s2, (pad, ())))))) (fun y0 y1 y2 y3 => kq (.exit 0) (hfinish_l1_T.inst (((), ((), ((), (y0, ())))), (((), ()), (y1, (y2, (y3, ()))))))) x.1.2.2.2.1 x.2.2.1 x.2.2.2.1 x.2.2.2.2.1
def hfinish_l1_R (F m : Nat) (x : hfinish_l1_T.T) (kq : ZK) : ZO := hfinish_l1F F none (fun y0 y1 y2 y3 => kq (.exit 0) (hfinish_l1_T.inst (((), ((), ((), (y0, ())))), (((), ()), (y1, (y2, (y3, ()))))))) m x.1.2.2.2.1 x.2.2.1 x.2.2.2.1 x.2.2.2.2.1
def hfinish_l3_G (F : Nat) (nx : hfinish_l3_T.T → ZO) (kq : ZK) (x : hfinish_l3_T.T) : ZO := hfinish_l3 F none (fun i x_ s35 s36 s40 s2 out => nx (((), ((), (i, (x_, (s35, (s36, (s40, ()))))))), (((), ()), (s2, (out, ()))))) (fun y0 y1 y2 y3 y4 y5 y6 => kq (.exit 4) (hfinish_l3_T.inst (((), ((), (y0, (y1, (y2, (y3, (y4, ()))))))), (((), ()), (y5, (y6, ())))))) x.1.2.2.1 x.1.2.2.2.1 x.1.2.2.2.2.1 x.1.2.2.2.2.2.1 x.1.2.2.2.2.2.2.1 x.2.2.1 x.2.2.2.1
def hfinish_l3_R (F m : Nat) (x : hfinish_l3_T.T) (kq : ZK) : ZO := hfinish_l3F F none (fun y0 y1 y2 y3 y4 y5 y6 => kq (.exit 4) (hfinish_l3_T.inst (((), ((), (y0, (y1, (y2, (y3, (y4, ()))))))), (((), ()), (y5, (y6, ())))))) m x.1.2.2.1 x.1.2.2.2.1 x.1.2.2.2.2.1 x.1.2.2.2.2.2.1 x.1.2.2.2.2.2.2.1 x.2.2.1 x.2.2.2.1
def hfinish_l2_G (F : Nat) (nx : hfinish_l2_T.T → ZO) (kq : ZK) (x : hfinish_l2_T.T) : ZO := hfinish_l2 F none (fun s35 s36 s2 out => nx (((), ((), (s35, (s36, ())))), (((), ()), (s2, (out, ()))))) (fun y0 y1 y2 y3 => kq (.exit 2) (hfinish_l2_T.inst (((), ((), (y0, (y1, ())))), (((), ()), (y2, (y3, ())))))) x.1.2.2.1 x.1.2.2.2.1 x.2.2.1 x.2.2.2.1
def hfinish_l2_R (F m : Nat) (x : hfinish_l2_T.T) (kq : ZK) : ZO := hfinish_l2F F none (fun y0 y1 y2 y3 => kq (.exit 2) (hfinish_l2_T.inst (((), ((), (y0, (y1, ())))), (((), ()), (y2, (y3, ())))))) m x.1.2.2.1 x.1.2.2.2.1 x.2.2.1 x.2.2.2.1
def hfinish_lo (F : Nat) : List (LoE Unit) := [⟨138, 4, LO.of hfinish_l1_T (hfinish_l1_R F F)⟩,
 ⟨138, 12, LO.of hfinish_l3_T (hfinish_l3_R F F)⟩,
 ⟨138, 9, LO.of hfinish_l2_T (hfinish_l2_R F F)⟩]
def hfinish_book (F : Nat) : BookL Unit := { toBook := hfinish_book0, lo := losOf (hfinish_lo F), need := needsOf [] }
theorem hfinish_l1_step (F : Nat) : LStep prog (hfinish_book F) F 138 0 4 hfinish_l1_T (hfinish_l1_G F) := fun d x KQ => by kernel_rfl
theorem hfinish_l3_step (F : Nat) : LStep prog (hfinish_book F) F 138 2 12 hfinish_l3_T (hfinish_l3_G F) := fun d x KQ => by kernel_rfl
theorem hfinish_l2_step (F : Nat) : LStep prog (hfinish_book F) F 138 1 9 hfinish_l2_T (hfinish_l2_G F) := fun d x KQ => by kernel_rfl
theorem hfinish_loOk (F : Nat) : LoOk prog (hfinish_book F) F := loOk_of (l := hfinish_lo F) rfl (fa (loOne_of 0 (by kernel_rfl) (by kernel_rfl) (lstep_run (hfinish_l1_step F) (fun _ _ => rfl) (fun _ _ _ _ => rfl))) (fa (loOne_of 2 (by kernel_rfl) (by kernel_rfl) (lstep_run (hfinish_l3_step F) (fun _ _ => rfl) (fun _ _ _ _ => rfl))) (fa (loOne_of 1 (by kernel_rfl) (by kernel_rfl) (lstep_run (hfinish_l2_step F) (fun _ _ => rfl) (fun _ _ _ _ => rfl))) fz)))
theorem hfinish_run (F : Nat) (x : ArgsT hfinish_ps) (kend : List BV → ZO) : runFnL prog (hfinish_book F) F 20 138 (argsInst hfinish_ps x) [.d (.arr 32 (.int .u8))] kend = hfinish F x.1 none (fun y0 => kend [BV.d (.arr 32 (.int .u8)) y0]) := by kernel_rfl
theorem hfinish_contract  : Contract prog 138 hfinish_orc := con_of (B0 := hfinish_book0) zN zG mix_ok zT hfinish_run (orcsOf_ok (fa hwrite_contract fz)) (by kernel_rfl) (fun _ => rfl) hfinish_loOk (fun x h => (hfinish_plain x.1 h).elim fun F hF => ⟨F, fun kend => hF none _⟩)
@[reducible] def dSum_ps  : List PM := [.d (.slc (.int .u8))]
def dSum_orc  : Orc := Orc.of dSum_ps true 0 fun x => (dSum_P x.1, [.d (.arr 32 (.int .u8)) (dSum_r x.1)])
def dSum_orcs  : List (FuncId × Orc) := [(138, hfinish_orc), (139, hwrite_orc), (140, hNew_orc)]
def dSum_book0  : Book := { Γ := gam, orc := orcsOf dSum_orcs, hint := hintsOf [] }
def dSum_lo (F : Nat) : List (LoE Unit) := []
def dSum_book (F : Nat) : BookL Unit := { toBook := dSum_book0, lo := losOf (dSum_lo F), need := needsOf [] }
theorem dSum_loOk (F : Nat) : LoOk prog (dSum_book F) F := loOk_of (l := dSum_lo F) rfl fz
theorem dSum_run (F : Nat) (x : ArgsT dSum_ps) (kend : List BV → ZO) : runFnL prog (dSum_book F) F 20 157 (argsInst dSum_ps x) [.d (.arr 32 (.int .u8))] kend = dSum F x.1 none (fun y0 => kend [BV.d (.arr 32 (.int .u8)) y0]) := by kernel_rfl
theorem dSum_contract  : Contract prog 157 dSum_orc := con_of (B0 := dSum_book0) zN zG mix_ok zT dSum_run (orcsOf_ok (fa hfinish_contract (fa hwrite_contract (fa hNew_contract fz)))) (by kernel_rfl) (fun _ => rfl) dSum_loOk (fun x h => (dSum_plain x.1 h).elim fun F hF => ⟨F, fun kend => hF none _⟩)
end Go.AI
namespace Go.AI
open Go
open Go.Proofs.Tryz (prog)
set_option linter.unusedVariables false
@[reducible] def padded_ps  : List PM := [.d (.slc (.int .u8)), .d (.int .u8)]
def padded_orc  : Orc := Orc.of padded_ps true 1 fun x => (padded_P x.1 x.2.1, [.o 5 (.int .u8) (padded_r x.1 x.2.1)])
@[reducible] def padded_l1_T  : Tpl := { cur := ⟨[(1, .var (.int .u8)), (4, .row 0), (12, .var (.int .i64)), (0, .var (.int .i64))], 11⟩, stk := [⟨[], 0⟩], heap := [.row 5 (.int .u8) false] }
def padded_orcs  : List (FuncId × Orc) := [(157, dSum_orc)]
def padded_book0  : Book := { Γ := gam, orc := orcsOf padded_orcs, hint := hintsOf [(141, { keep := some [1, 6, 19, 20], keeps := [(7, [1, 6, 19, 20])], own := [], dat := [], stk := [] })] }
def padded_l1_G (F : Nat) (nx : padded_l1_T.T → ZO) (kq : ZK) (x : padded_l1_T.T) : ZO := padded_l1 F none (fun by_ s19 s20 out => nx ((by_, ((), (s19, (s20, ())))), (((), ()), (out, ())))) (fun y0 y1 y2 y3 => kq (.exit 0) (padded_l1_T.inst ((y0, ((), (y1, (y2, ())))), (((), ()), (y3, ()))))) x.1.1 x.1.2.2.1 x.1.2.2.2.1 x.2.2.1
def padded_l1_R (F m : Nat) (x : padded_l1_T.T) (kq : ZK) : ZO := padded_l1F F none (fun y0 y1 y2 y3 => kq (.exit 0) (padded_l1_T.inst ((y0, ((), (y1, (y2, ())))), (((), ()), (y3, ()))))) m x.1.1 x.1.2.2.1 x.1.2.2.2.1 x.2.2.1
def padded_lo (F : Nat) : List (LoE Unit) := [⟨141, 7, LO.of padded_l1_T (padded_l1_R F F)⟩]
def padded_book (F : Nat) : BookL Unit := { toBook := padded_book0, lo := losOf (padded_lo F), need := needsOf [] }
theorem padded_l1_step (F : Nat) : LStep prog (padded_book F) F 141 0 7 padded_l1_T (padded_l1_G F) := fun d x KQ => by kernel_rfl
theorem padded_loOk (F : Nat) : LoOk prog (padded_book F) F := loOk_of (l := padded_lo F) rfl (fa (loOne_of 0 (by kernel_rfl) (by kernel_rfl) (lstep_run (padded_l1_step F) (fun _ _ => rfl) (fun _ _ _ _ => rfl))) fz)
theorem padded_run (F : Nat) (x : ArgsT padded_ps) (kend : List BV → ZO) : runFnL prog (padded_book F) F 20 141 (argsInst padded_ps x) [.o 5 (.int .u8)] kend = padded F x.1 x.2.1 none (fun y0 => kend [BV.o 5 (.int .u8) y0]) := by kernel_rfl
theorem padded_contract  : Contract prog 141 padded_orc := con_of (B0 := padded_book0) zN zG mix_ok zT padded_run (orcsOf_ok (fa dSum_contract fz)) (by kernel_rfl) (fun _ => rfl) padded_loOk (fun x h => (padded_plain x.1 x.2.1 h).elim fun F hF => ⟨F, fun kend => hF none _⟩)
@[reducible] def dMac_ps  : List PM := [.d (.slc (.int .u8)), .d (.slc (.int .u8))]
def dMac_orc  : Orc := Orc.of dMac_ps true 0 fun x => (dMac_P x.1 x.2.1, [.d (.arr 32 (.int .u8)) (dMac_r x.1 x.2.1)])
def dMac_orcs  : List (FuncId × Orc) := [(138, hfinish_orc), (139, hwrite_orc), (140, hNew_orc), (141, padded_orc)]
def dMac_book0  : Book := { Γ := gam, orc := orcsOf dMac_orcs, hint := hintsOf [] }
def dMac_lo (F : Nat) : List (LoE Unit) := []
def dMac_book (F : Nat) : BookL Unit := { toBook := dMac_book0, lo := losOf (dMac_lo F), need := needsOf [] }
theorem dMac_loOk (F : Nat) : LoOk prog (dMac_book F) F := loOk_of (l := dMac_lo F) rfl fz
theorem dMac_run (F : Nat) (x : ArgsT dMac_ps) (kend : List BV → ZO) : runFnL prog (dMac_book F) F 20 103 (argsInst dMac_ps x) [.d (.arr 32 (.int .u8))] kend = dMac F x.1 x.2.1 none (fun y0 => kend [BV.d (.arr 32 (.int .u8)) y0]) := by kernel_rfl
theorem dMac_contract  : Contract prog 103 dMac_orc := con_of (B0 := dMac_book0) zN zG mix_ok zT dMac_run (orcsOf_ok (fa hfinish_contract (fa hwrite_contract (fa hNew_contract (fa padded_contract fz))))) (by kernel_rfl) (fun _ => rfl) dMac_loOk (fun x h => (dMac_plain x.1 x.2.1 h).elim fun F hF => ⟨F, fun kend => hF none _⟩)
end Go.AI
namespace Go.AI
open Go
open Go.Proofs.Tryz (prog)
set_option linter.unusedVariables false
@[reducible] def rol32_ps  : List PM := [.d (.int .u32), .d (.int .i64)]
def rol32_orc  : Orc := Orc.of rol32_ps true 0 fun x => (rol32_P x.1 x.2.1, [.d (.int .u32) (rol32_r x.1 x.2.1)])
def rol32_orcs  : List (FuncId × Orc) := []
def rol32_book0  : Book := { Γ := gam, orc := orcsOf rol32_orcs, hint := hintsOf [] }
def rol32_lo (F : Nat) : List (LoE Unit) := []
def rol32_book (F : Nat) : BookL Unit := { toBook := rol32_book0, lo := losOf (rol32_lo F), need := needsOf [] }
theorem rol32_loOk (F : Nat) : LoOk prog (rol32_book F) F := loOk_of (l := rol32_lo F) rfl fz
theorem rol32_run (F : Nat) (x : ArgsT rol32_ps) (kend : List BV → ZO) : runFnL prog (rol32_book F) F 20 169 (argsInst rol32_ps x) [.d (.int .u32)] kend = rol32 F x.1 x.2.1 none (fun y0 => kend [BV.d (.int .u32) y0]) := by kernel_rfl
theorem rol32_contract  : Contract prog 169 rol32_orc := con_of (B0 := rol32_book0) zN zG mix_ok zT rol32_run (orcsOf_ok fz) (by kernel_rfl) (fun _ => rfl) rol32_loOk (fun x h => (rol32_plain x.1 x.2.1 h).elim fun F hF => ⟨F, fun kend => hF none _⟩)
@[reducible] def cFirst_ps  : List PM := [.d (.arr 32 (.int .u8)), .d (.int .i64), .d (.int .i64)]
def cFirst_orc  : Orc := Orc.of cFirst_ps true 0 fun x => (cFirst_P x.1 x.2.1 x.2.2.1, [.d (.arr 16 (.int .u32)) (cFirst_r x.1 x.2.1 x.2.2.1)])
@[reducible] def cFirst_l2_T  : Tpl := { cur := ⟨[(1, .var (.int .i64)), (0, .var (.int .i64)), (0, .ptr 0 []), (2, .ptr 1 []), (0, .ptr 2 []), (0, .var (.int .i64)), (2, .var (.int .i64)), (2, .var (.int .i64))], 31⟩, stk := [⟨[], 0⟩], heap := [.box (.var (.arr 32 (.int .u8))), .box (.var (.arr 16 (.int .u32))), .box (.var (.arr 16 (.int .u32)))] }
@[reducible] def cFirst_l1_T  : Tpl := { cur := ⟨[(1, .var (.int .i64)), (0, .var (.int .i64)), (0, .ptr 0 []), (2, .ptr 1 []), (0, .ptr 2 []), (3, .var (.int .i64))], 34⟩, stk := [⟨[], 0⟩], heap := [.box (.var (.arr 32 (.int .u8))), .box (.var (.arr 16 (.int .u32))), .box (.var (.arr 16 (.int .u32)))] }
def cFirst_orcs  : List (FuncId × Orc) := []
def cFirst_book0  : Book := { Γ := gam, orc := orcsOf cFirst_orcs, hint := hintsOf [(143, { keep := some [1, 2, 3, 6, 7, 8, 11, 14], keeps := [(3, [1, 2, 3, 6, 7, 11]), (6, [1, 2, 3, 6, 7, 8, 11, 14])], own := [], dat := [], stk := [] })] }
def cFirst_l2_G (F : Nat) (nx : cFirst_l2_T.T → ZO) (kq : ZK) (x : cFirst_l2_T.T) : ZO := cFirst_l2 F none (fun nonce counter i s11 s14 key s6 w => nx ((nonce, (counter, ((), ((), ((), (i, (s11, (s14, ())))))))), (((), ()), (key, (s6, (w, ())))))) (fun y0 y1 y2 y3 y4 y5 y6 y7 => kq (.exit 2) (cFirst_l2_T.inst ((y0, (y1, ((), ((), ((), (y2, (y3, (y4, ())))))))), (((), ()), (y5, (y6, (y7, ()))))))) x.1.1 x.1.2.1 x.1.2.2.2.2.2.1 x.1.2.2.2.2.2.2.1 x.1.2.2.2.2.2.2.2.1 x.2.2.1 x.2.2.2.1 x.2.2.2.2.1
def cFirst_l2_R (F m : Nat) (x : cFirst_l2_T.T) (kq : ZK) : ZO := cFirst_l2F F none (fun y0 y1 y2 y3 y4 y5 y6 y7 => kq (.exit 2) (cFirst_l2_T.inst ((y0, (y1, ((), ((), ((), (y2, (y3, (y4, ())))))))), (((), ()), (y5, (y6, (y7, ()))))))) m x.1.1 x.1.2.1 x.1.2.2.2.2.2.1 x.1.2.2.2.2.2.2.1 x.1.2.2.2.2.2.2.2.1 x.2.2.1 x.2.2.2.1 x.2.2.2.2.1
def cFirst_l1_G (F : Nat) (nx : cFirst_l1_T.T → ZO) (kq : ZK) (x : cFirst_l1_T.T) : ZO := cFirst_l1 F none (fun nonce counter s11 key s6 w => nx ((nonce, (counter, ((), ((), ((), (s11, ())))))), (((), ()), (key, (s6, (w, ())))))) (fun y0 y1 y2 y3 y4 y5 => kq (.exit 0) (cFirst_l1_T.inst ((y0, (y1, ((), ((), ((), (y2, ())))))), (((), ()), (y3, (y4, (y5, ()))))))) x.1.1 x.1.2.1 x.1.2.2.2.2.2.1 x.2.2.1 x.2.2.2.1 x.2.2.2.2.1
def cFirst_l1_R (F m : Nat) (x : cFirst_l1_T.T) (kq : ZK) : ZO := cFirst_l1F F none (fun y0 y1 y2 y3 y4 y5 => kq (.exit 0) (cFirst_l1_T.inst ((y0, (y1, ((), ((), ((), (y2, ())))))), (((), ()), (y3, (y4, (y5, ()))))))) m x.1.1 x.1.2.1 x.1.2.2.2.2.2.1 x.2.2.1 x.2.2.2.1 x.2.2.2.2.1
def cFirst_lo (F : Nat) : List (LoE Unit) := [⟨143, 6, LO.of cFirst_l2_T (cFirst_l2_R F F)⟩,
 ⟨143, 3, LO.of cFirst_l1_T (cFirst_l1_R F F)⟩]
def cFirst_book (F : Nat) : BookL Unit := { toBook := cFirst_book0, lo := losOf (cFirst_lo F), need := needsOf [] }
theorem cFirst_l2_step (F : Nat) : LStep prog (cFirst_book F) F 143 1 6 cFirst_l2_T (cFirst_l2_G F) := fun d x KQ => by kernel_rfl
theorem cFirst_l1_step (F : Nat) : LStep prog (cFirst_book F) F 143 0 3 cFirst_l1_T (cFirst_l1_G F) := fun d x KQ => by kernel_rfl
theorem cFirst_loOk (F : Nat) : LoOk prog (cFirst_book F) F := loOk_of (l := cFirst_lo F) rfl (fa (loOne_of 1 (by kernel_rfl) (by kernel_rfl) (lstep_run (cFirst_l2_step F) (fun _ _ => rfl) (fun _ _ _ _ => rfl))) (fa (loOne_of 0 (by kernel_rfl) (by kernel_rfl) (lstep_run (cFirst_l1_step F) (fun _ _ => rfl) (fun _ _ _ _ => rfl))) fz))
theorem cFirst_run (F : Nat) (x : ArgsT cFirst_ps) (kend : List BV → ZO) : runFnL prog (cFirst_book F) F 20 143 (argsInst cFirst_ps x) [.d (.arr 16 (.int .u32))] kend = cFirst F x.1 x.2.1 x.2.2.1 none (fun y0 => kend [BV.d (.arr 16 (.int .u32)) y0]) := by kernel_rfl
theorem cFirst_contract  : Contract prog 143 cFirst_orc := con_of (B0 := cFirst_book0) zN zG mix_ok zT cFirst_run (orcsOf_ok fz) (by kernel_rfl) (fun _ => rfl) cFirst_loOk (fun x h => (cFirst_plain x.1 x.2.1 x.2.2.1 h).elim fun F hF => ⟨F, fun kend => hF none _⟩)
@[reducible] def cBlk_ps  : List PM := [.d (.arr 32 (.int .u8)), .d (.int .i64), .d (.int .i64)]
def cBlk_orc  : Orc := Orc.of cBlk_ps true 1 fun x => (cBlk_P x.1 x.2.1 x.2.2.1, [.o 5 (.int .u8) (cBlk_r x.1 x.2.1 x.2.2.1)])
@[reducible] def cBlk_l3_T  : Tpl := { cur := ⟨[(0, .ptr 0 []), (29, .var (.arr 4 (.pair (.int .i64) (.pair (.int .i64) (.pair (.int .i64) (.pair (.int .i64) .unit)))))), (0, .var (.int .i64))], 39⟩, stk := [⟨[(2, .mv 158 (.pr (.ptr 0 []) (.un))), (4, .var (.int .i64)), (1, .var (.int .i64))], 32⟩, ⟨[(7, .ptr 1 []), (0, .ptr 0 [])], 35⟩, ⟨[], 0⟩], heap := [.box (.var (.arr 16 (.int .u32))), .box (.var (.arr 16 (.int .u32)))] }
@[reducible] def cBlk_l2_T  : Tpl := { cur := ⟨[(2, .mv 158 (.pr (.ptr 0 []) (.un))), (4, .var (.int .i64)), (1, .var (.int .i64))], 32⟩, stk := [⟨[(7, .ptr 1 []), (0, .ptr 0 [])], 35⟩, ⟨[], 0⟩], heap := [.box (.var (.arr 16 (.int .u32))), .box (.var (.arr 16 (.int .u32)))] }
@[reducible] def cBlk_l5_T  : Tpl := { cur := ⟨[(0, .ptr 0 []), (29, .var (.arr 4 (.pair (.int .i64) (.pair (.int .i64) (.pair (.int .i64) (.pair (.int .i64) .unit)))))), (0, .var (.int .i64))], 39⟩, stk := [⟨[(2, .mv 158 (.pr (.ptr 0 []) (.un))), (4, .var (.int .i64)), (14, .var (.int .i64))], 19⟩, ⟨[(7, .ptr 1 []), (0, .ptr 0 [])], 35⟩, ⟨[], 0⟩], heap := [.box (.var (.arr 16 (.int .u32))), .box (.var (.arr 16 (.int .u32)))] }
@[reducible] def cBlk_l4_T  : Tpl := { cur := ⟨[(2, .mv 158 (.pr (.ptr 0 []) (.un))), (4, .var (.int .i64)), (14, .var (.int .i64))], 19⟩, stk := [⟨[(7, .ptr 1 []), (0, .ptr 0 [])], 35⟩, ⟨[], 0⟩], heap := [.box (.var (.arr 16 (.int .u32))), .box (.var (.arr 16 (.int .u32)))] }
@[reducible] def cBlk_l1_T  : Tpl := { cur := ⟨[(2, .mv 158 (.pr (.ptr 0 []) (.un))), (4, .var (.int .i64))], 34⟩, stk := [⟨[(7, .ptr 1 []), (0, .ptr 0 [])], 35⟩, ⟨[], 0⟩], heap := [.box (.var (.arr 16 (.int .u32))), .box (.var (.arr 16 (.int .u32)))] }
@[reducible] def cBlk_l6_T  : Tpl := { cur := ⟨[(7, .ptr 0 []), (1, .row 1), (8, .var (.arr 16 (.int .u32))), (0, .var (.int .i64))], 24⟩, stk := [⟨[], 0⟩], heap := [.box (.var (.arr 16 (.int .u32))), .row 5 (.int .u8) false] }
def cBlk_orcs  : List (FuncId × Orc) := [(143, cFirst_orc), (169, rol32_orc)]
def cBlk_book0  : Book := { Γ := gam, orc := orcsOf cBlk_orcs, hint := hintsOf [(106, { keep := some [7, 9, 18, 19], keeps := [(6, [7, 9, 18, 19])], own := [(9, 24)], dat := [], stk := [] }), (144, { keep := some [2, 7, 9, 22], keeps := [(2, [2, 7]), (4, [2, 7, 9]), (9, [2, 7, 22])], own := [], dat := [], stk := [[7, 8]] }), (158, { keep := some [0, 30, 31], keeps := [(2, [0, 30, 31])], own := [], dat := [], stk := [[2, 7, 9, 22], [7, 8]] })] }
def cBlk_l3_G (F : Nat) (nx : cBlk_l3_T.T → ZO) (kq : ZK) (x : cBlk_l3_T.T) : ZO := cBlk_l3 F none (fun s30 s31 s7 s9 w w1 => nx (((), (s30, (s31, ()))), (((((), ()), (s7, (s9, ()))), (((), ((), ())), ((), ()))), (w, (w1, ()))))) (fun y0 y1 y2 y3 y4 y5 => kq (.exit 0) (cBlk_l3_T.inst (((), (y0, (y1, ()))), (((((), ()), (y2, (y3, ()))), (((), ((), ())), ((), ()))), (y4, (y5, ())))))) x.1.2.1 x.1.2.2.1 x.2.1.1.2.1 x.2.1.1.2.2.1 x.2.2.1 x.2.2.2.1
def cBlk_l3_R (F m : Nat) (x : cBlk_l3_T.T) (kq : ZK) : ZO := cBlk_l3F F none (fun y0 y1 y2 y3 y4 y5 => kq (.exit 0) (cBlk_l3_T.inst (((), (y0, (y1, ()))), (((((), ()), (y2, (y3, ()))), (((), ((), ())), ((), ()))), (y4, (y5, ())))))) m x.1.2.1 x.1.2.2.1 x.2.1.1.2.1 x.2.1.1.2.2.1 x.2.2.1 x.2.2.2.1
def cBlk_l2_G (F : Nat) (nx : cBlk_l2_T.T → ZO) (kq : ZK) (x : cBlk_l2_T.T) : ZO := cBlk_l2 F none (fun s7 s9 change w => nx ((((), ()), (s7, (s9, ()))), ((((), ((), ())), ((), ())), (change, (w, ()))))) (fun y0 y1 y2 y3 => kq (.exit 2) (cBlk_l2_T.inst ((((), ()), (y0, (y1, ()))), ((((), ((), ())), ((), ())), (y2, (y3, ())))))) x.1.2.1 x.1.2.2.1 x.2.2.1 x.2.2.2.1
def cBlk_l2_R (F m : Nat) (x : cBlk_l2_T.T) (kq : ZK) : ZO := cBlk_l2F F none (fun y0 y1 y2 y3 => kq (.exit 2) (cBlk_l2_T.inst ((((), ()), (y0, (y1, ()))), ((((), ((), ())), ((), ())), (y2, (y3, ())))))) m x.1.2.1 x.1.2.2.1 x.2.2.1 x.2.2.2.1
def cBlk_l5_G (F : Nat) (nx : cBlk_l5_T.T → ZO) (kq : ZK) (x : cBlk_l5_T.T) : ZO := cBlk_l5 F none (fun s30 s31 s7 s22 w w1 => nx (((), (s30, (s31, ()))), (((((), ()), (s7, (s22, ()))), (((), ((), ())), ((), ()))), (w, (w1, ()))))) (fun y0 y1 y2 y3 y4 y5 => kq (.exit 0) (cBlk_l5_T.inst (((), (y0, (y1, ()))), (((((), ()), (y2, (y3, ()))), (((), ((), ())), ((), ()))), (y4, (y5, ())))))) x.1.2.1 x.1.2.2.1 x.2.1.1.2.1 x.2.1.1.2.2.1 x.2.2.1 x.2.2.2.1
def cBlk_l5_R (F m : Nat) (x : cBlk_l5_T.T) (kq : ZK) : ZO := cBlk_l5F F none (fun y0 y1 y2 y3 y4 y5 => kq (.exit 0) (cBlk_l5_T.inst (((), (y0, (y1, ()))), (((((), ()), (y2, (y3, ()))), (((), ((), ())), ((), ()))), (y4, (y5, ())))))) m x.1.2.1 x.1.2.2.1 x.2.1.1.2.1 x.2.1.1.2.2.1 x.2.2.1 x.2.2.2.1
def cBlk_l4_G (F : Nat) (nx : cBlk_l4_T.T → ZO) (kq : ZK) (x : cBlk_l4_T.T) : ZO := cBlk_l4 F none (fun s7 s22 change w => nx ((((), ()), (s7, (s22, ()))), ((((), ((), ())), ((), ())), (change, (w, ()))))) (fun y0 y1 y2 y3 => kq (.exit 4) (cBlk_l4_T.inst ((((), ()), (y0, (y1, ()))), ((((), ((), ())), ((), ())), (y2, (y3, ())))))) x.1.2.1 x.1.2.2.1 x.2.2.1 x.2.2.2.1
def cBlk_l4_R (F m : Nat) (x : cBlk_l4_T.T) (kq : ZK) : ZO := cBlk_l4F F none (fun y0 y1 y2 y3 => kq (.exit 4) (cBlk_l4_T.inst ((((), ()), (y0, (y1, ()))), ((((), ((), ())), ((), ())), (y2, (y3, ())))))) m x.1.2.1 x.1.2.2.1 x.2.2.1 x.2.2.2.1
def cBlk_l1_G (F : Nat) (nx : cBlk_l1_T.T → ZO) (kq : ZK) (x : cBlk_l1_T.T) : ZO := cBlk_l1 F none (fun s7 change w => nx ((((), ()), (s7, ())), ((((), ((), ())), ((), ())), (change, (w, ()))))) (fun y0 y1 y2 => kq (.exit 0) (cBlk_l1_T.inst ((((), ()), (y0, ())), ((((), ((), ())), ((), ())), (y1, (y2, ())))))) x.1.2.1 x.2.2.1 x.2.2.2.1
def cBlk_l1_R (F m : Nat) (x : cBlk_l1_T.T) (kq : ZK) : ZO := cBlk_l1F F none (fun y0 y1 y2 => kq (.exit 0) (cBlk_l1_T.inst ((((), ()), (y0, ())), ((((), ((), ())), ((), ())), (y1, (y2, ())))))) m x.1.2.1 x.2.2.1 x.2.2.2.1
def cBlk_l6_G (F : Nat) (nx : cBlk_l6_T.T → ZO) (kq : ZK) (x : cBlk_l6_T.T) : ZO := cBlk_l6 F none (fun s18 s19 w out => nx (((), ((), (s18, (s19, ())))), (((), ()), (w, (out, ()))))) (fun y0 y1 y2 y3 => kq (.exit 0) (cBlk_l6_T.inst (((), ((), (y0, (y1, ())))), (((), ()), (y2, (y3, ())))))) x.1.2.2.1 x.1.2.2.2.1 x.2.2.1 x.2.2.2.1
def cBlk_l6_R (F m : Nat) (x : cBlk_l6_T.T) (kq : ZK) : ZO := cBlk_l6F F none (fun y0 y1 y2 y3 => kq (.exit 0) (cBlk_l6_T.inst (((), ((), (y0, (y1, ())))), (((), ()), (y2, (y3, ())))))) m x.1.2.2.1 x.1.2.2.2.1 x.2.2.1 x.2.2.2.1
def cBlk_lo (F : Nat) : List (LoE Unit) := [⟨158, 2, LO.orT cBlk_l3_T (cBlk_l3_R F F) (LO.of cBlk_l5_T (cBlk_l5_R F F))⟩,
 ⟨144, 4, LO.of cBlk_l2_T (cBlk_l2_R F F)⟩,
 ⟨144, 9, LO.of cBlk_l4_T (cBlk_l4_R F F)⟩,
 ⟨144, 2, LO.of cBlk_l1_T (cBlk_l1_R F F)⟩,
 ⟨106, 6, LO.of cBlk_l6_T (cBlk_l6_R F F)⟩]
def cBlk_book (F : Nat) : BookL Unit := { toBook := cBlk_book0, lo := losOf (cBlk_lo F), need := needsOf [(144, 1)] }
theorem cBlk_l3_step (F : Nat) : LStep prog (cBlk_book F) F 158 0 2 cBlk_l3_T (cBlk_l3_G F) := fun d x KQ => by kernel_rfl
theorem cBlk_l2_step (F : Nat) : LStep prog (cBlk_book F) F 144 1 4 cBlk_l2_T (cBlk_l2_G F) := fun d x KQ => by kernel_rfl
theorem cBlk_l5_step (F : Nat) : LStep prog (cBlk_book F) F 158 0 2 cBlk_l5_T (cBlk_l5_G F) := fun d x KQ => by kernel_rfl
theorem cBlk_l4_step (F : Nat) : LStep prog (cBlk_book F) F 144 2 9 cBlk_l4_T (cBlk_l4_G F) := fun d x KQ => by kernel_rfl
theorem cBlk_l1_step (F : Nat) : LStep prog (cBlk_book F) F 144 0 2 cBlk_l1_T (cBlk_l1_G F) := fun d x KQ => by kernel_rfl
theorem cBlk_l6_step (F : Nat) : LStep prog (cBlk_book F) F 106 0 6 cBlk_l6_T (cBlk_l6_G F) := fun d x KQ => by kernel_rfl
theorem cBlk_loOk (F : Nat) : LoOk prog (cBlk_book F) F := loOk_of (l := cBlk_lo F) rfl (fa (loOne_of 0 (by kernel_rfl) (by kernel_rfl) (loIs_orT (lstep_run (cBlk_l3_step F) (fun _ _ => rfl) (fun _ _ _ _ => rfl)) (lstep_run (cBlk_l5_step F) (fun _ _ => rfl) (fun _ _ _ _ => rfl)))) (fa (loOne_of 1 (by kernel_rfl) (by kernel_rfl) (lstep_run (cBlk_l2_step F) (fun _ _ => rfl) (fun _ _ _ _ => rfl))) (fa (loOne_of 2 (by kernel_rfl) (by kernel_rfl) (lstep_run (cBlk_l4_step F) (fun _ _ => rfl) (fun _ _ _ _ => rfl))) (fa (loOne_of 0 (by kernel_rfl) (by kernel_rfl) (lstep_run (cBlk_l1_step F) (fun _ _ => rfl) (fun _ _ _ _ => rfl))) (fa (loOne_of 0 (by kernel_rfl) (by kernel_rfl) (lstep_run (cBlk_l6_step F) (fun _ _ => rfl) (fun _ _ _ _ => rfl))) fz)))))
theorem cBlk_run (F : Nat) (x : ArgsT cBlk_ps) (kend : List BV → ZO) : runFnL prog (cBlk_book F) F 20 106 (argsInst cBlk_ps x) [.o 5 (.int .u8)] kend = cBlk F x.1 x.2.1 x.2.2.1 none (fun y0 => kend [BV.o 5 (.int .u8) y0]) := by kernel_rfl
theorem cBlk_contract  : Contract prog 106 cBlk_orc := con_of (B0 := cBlk_book0) zN zG mix_ok zT cBlk_run (orcsOf_ok (fa cFirst_contract (fa rol32_contract fz))) (by kernel_rfl) (fun _ => rfl) cBlk_loOk (fun x h => (cBlk_plain x.1 x.2.1 x.2.2.1 h).elim fun F hF => ⟨F, fun kend => hF none _⟩)
@[reducible] def cRange_ps  : List PM := [.d (.int .i64)]
def cRange_orc  : Orc := Orc.of cRange_ps true 0 fun x => (true, [.d .bool (cRange_r x.1)])
def cRange_orcs  : List (FuncId × Orc) := []
def cRange_book0  : Book := { Γ := gam, orc := orcsOf cRange_orcs, hint := hintsOf [] }
def cRange_lo (F : Nat) : List (LoE Unit) := []
def cRange_book (F : Nat) : BookL Unit := { toBook := cRange_book0, lo := losOf (cRange_lo F), need := needsOf [] }
theorem cRange_loOk (F : Nat) : LoOk prog (cRange_book F) F := loOk_of (l := cRange_lo F) rfl fz
theorem cRange_run (F : Nat) (x : ArgsT cRange_ps) (kend : List BV → ZO) : runFnL prog (cRange_book F) F 20 104 (argsInst cRange_ps x) [.d .bool] kend = cRange F x.1 none (fun y0 => kend [BV.d .bool y0]) := by kernel_rfl
theorem cRange_contract  : Contract prog 104 cRange_orc := con_of (B0 := cRange_book0) zN zG mix_ok zT cRange_run (orcsOf_ok fz) (by kernel_rfl) (fun _ => rfl) cRange_loOk (fun x _ => (cRange_plain x.1).elim fun F hF => ⟨F, fun kend => hF none _⟩)
end Go.AI
namespace Go.AI
open Go
open Go.Proofs.Tryz (prog)
set_option linter.unusedVariables false
@[reducible] def equal_byte_ps  : List PM := [.d (.slc (.int .u8)), .d (.slc (.int .u8))]
def equal_byte_orc  : Orc := Orc.of equal_byte_ps true 0 fun x => (equal_byte_P x.1 x.2.1, [.d .bool (equal_byte_r x.1 x.2.1)])
@[reducible] def equal_byte_l1_T  : Tpl := { cur := ⟨[(0, .var (.slc (.int .u8))), (0, .var (.slc (.int .u8))), (2, .var .bool), (7, .var (.int .i64)), (0, .var (.int .i64))], 12⟩, stk := [⟨[], 0⟩], heap := [] }
def equal_byte_orcs  : List (FuncId × Orc) := []
def equal_byte_book0  : Book := { Γ := gam, orc := orcsOf equal_byte_orcs, hint := hintsOf [(117, { keep := some [0, 1, 4, 12, 13], keeps := [(4, [0, 1, 4, 12, 13])], own := [], dat := [], stk := [] })] }
def equal_byte_l1_G (F : Nat) (nx : equal_byte_l1_T.T → ZO) (kq : ZK) (x : equal_byte_l1_T.T) : ZO := equal_byte_l1 F none (fun s1 s2 s4 s12 s13 => nx ((s1, (s2, (s4, (s12, (s13, ()))))), (((), ()), ()))) (fun y0 y1 y2 y3 y4 => kq .ret (equal_byte_l1_T.inst ((y0, (y1, (y2, (y3, (y4, ()))))), (((), ()), ())))) (fun y0 y1 y2 y3 y4 => kq (.exit 0) (equal_byte_l1_T.inst ((y0, (y1, (y2, (y3, (y4, ()))))), (((), ()), ())))) x.1.1 x.1.2.1 x.1.2.2.1 x.1.2.2.2.1 x.1.2.2.2.2.1
def equal_byte_l1_R (F m : Nat) (x : equal_byte_l1_T.T) (kq : ZK) : ZO := equal_byte_l1F F none (fun y0 y1 y2 y3 y4 => kq .ret (equal_byte_l1_T.inst ((y0, (y1, (y2, (y3, (y4, ()))))), (((), ()), ())))) (fun y0 y1 y2 y3 y4 => kq (.exit 0) (equal_byte_l1_T.inst ((y0, (y1, (y2, (y3, (y4, ()))))), (((), ()), ())))) m x.1.1 x.1.2.1 x.1.2.2.1 x.1.2.2.2.1 x.1.2.2.2.2.1
def equal_byte_lo (F : Nat) : List (LoE Unit) := [⟨117, 4, LO.of equal_byte_l1_T (equal_byte_l1_R F F)⟩]
def equal_byte_book (F : Nat) : BookL Unit := { toBook := equal_byte_book0, lo := losOf (equal_byte_lo F), need := needsOf [] }
theorem equal_byte_l1_step (F : Nat) : LStep prog (equal_byte_book F) F 117 0 4 equal_byte_l1_T (equal_byte_l1_G F) := fun d x KQ => by kernel_rfl
theorem equal_byte_loOk (F : Nat) : LoOk prog (equal_byte_book F) F := loOk_of (l := equal_byte_lo F) rfl (fa (loOne_of 0 (by kernel_rfl) (by kernel_rfl) (lstep_run (equal_byte_l1_step F) (fun _ _ => rfl) (fun _ _ _ _ => rfl))) fz)
theorem equal_byte_run (F : Nat) (x : ArgsT equal_byte_ps) (kend : List BV → ZO) : runFnL prog (equal_byte_book F) F 20 117 (argsInst equal_byte_ps x) [.d .bool] kend = equal_byte F x.1 x.2.1 none (fun y0 => kend [BV.d .bool y0]) := by kernel_rfl
theorem equal_byte_contract  : Contract prog 117 equal_byte_orc := con_of (B0 := equal_byte_book0) zN zG mix_ok zT equal_byte_run (orcsOf_ok fz) (by kernel_rfl) (fun _ => rfl) equal_byte_loOk (fun x h => (equal_byte_plain x.1 x.2.1 h).elim fun F hF => ⟨F, fun kend => hF none _⟩)
@[reducible] def cStream_ps  : List PM := [.d (.arr 32 (.int .u8)), .d (.int .i64), .d (.slc (.int .u8))]
def cStream_orc  : Orc := Orc.of cStream_ps true 1 fun x => (cStream_P x.1 x.2.1 x.2.2.1, [.o 5 (.int .u8) (cStream_r0 x.1 x.2.1 x.2.2.1), .d (.int .i64) (cStream_r1 x.1 x.2.1 x.2.2.1)])
@[reducible] def cStream_l2_T  : Tpl := { cur := ⟨[(9, .ptr 0 []), (0, .sl 1), (0, .row 2), (19, .var (.int .i64)), (0, .var (.int .i64))], 16⟩, stk := [⟨[(0, .hnd .yield 3)], 0⟩, ⟨[(0, .hnd .yield 3), (0, .ptr 6 []), (0, .ptr 7 []), (1, .var (.int .i64))], 26⟩, ⟨[(0, .hnd .yield 3)], 0⟩, ⟨[(2, .var (.slc (.int .u8))), (0, .ptr 4 []), (0, .ptr 5 []), (1, .nils), (0, .var (.int .i64)), (0, .row 1), (0, .ptr 0 [])], 39⟩, ⟨[], 0⟩], heap := [.box (.var (.int .i64)), .row 5 (.int .u8) false, .row 5 (.int .u8) false, .lp 56 8 ⟨[(3, .ptr 4 []), (0, .ptr 5 []), (4, .ptr 0 [])], 39⟩ .busy, .box (.var (.arr 32 (.int .u8))), .box (.var (.int .i64)), .box (.row 1), .box (.var (.int .i64))] }
@[reducible] def cStream_l1_T  : Tpl := { cur := ⟨[(0, .hnd .yield 0), (0, .ptr 4 []), (0, .ptr 6 []), (1, .var (.int .i64))], 26⟩, stk := [⟨[(0, .hnd .yield 0)], 0⟩, ⟨[(2, .var (.slc (.int .u8))), (0, .ptr 1 []), (0, .ptr 2 []), (1, .nils), (0, .var (.int .i64)), (0, .row 5), (0, .ptr 3 [])], 39⟩, ⟨[], 0⟩], heap := [.lp 56 8 ⟨[(3, .ptr 1 []), (0, .ptr 2 []), (4, .ptr 3 [])], 39⟩ .ready, .box (.var (.arr 32 (.int .u8))), .box (.var (.int .i64)), .box (.var (.int .i64)), .box (.row 5), .row 5 (.int .u8) false, .box (.var (.int .i64))] }
def cStream_orcs  : List (FuncId × Orc) := [(100, clone_byte_orc), (104, cRange_orc), (106, cBlk_orc)]
def cStream_book0  : Book := { Γ := gam, orc := orcsOf cStream_orcs, hint := hintsOf [(56, { keep := some [9, 10, 11, 31, 32], keeps := [(11, [9, 10, 11, 31, 32])], own := [], dat := [], stk := [[0], [0, 1, 2, 4], [0], [2, 3, 4, 6, 7, 8, 9, 10, 11, 12, 25, 31, 32, 33]] }), (142, { keep := some [0, 1, 2, 4], keeps := [(1, [0, 1, 2, 4])], own := [], dat := [], stk := [[0], [2, 3, 4, 6, 7, 8, 9, 10, 11, 12, 25, 31, 32, 33]] })] }
def cStream_l2_G (F : Nat) (nx : cStream_l2_T.T → ZO) (kq : ZK) (x : cStream_l2_T.T) : ZO := cStream_l2 F none (fun part_i part_n s31 s32 i b s7 counter part s key nonce s2 => nx (((), ((part_i, part_n), ((), (s31, (s32, ()))))), ((((), ()), (((), ((), ((), (i, ())))), (((), ()), ((b, ((), ((), ((), (s7, ((), ((), ()))))))), ((), ()))))), (counter, (part, (s, (((), ((), ((), ()))), (key, (nonce, ((), (s2, ()))))))))))) (fun y0 y1 y2 y3 y4 y5 y6 y7 y8 y9 y10 y11 y12 => kq (.exit 3) (cStream_l2_T.inst (((), ((y0, y1), ((), (y2, (y3, ()))))), ((((), ()), (((), ((), ((), (y4, ())))), (((), ()), ((y5, ((), ((), ((), (y6, ((), ((), ()))))))), ((), ()))))), (y7, (y8, (y9, (((), ((), ((), ()))), (y10, (y11, ((), (y12, ())))))))))))) x.1.2.1.1 x.1.2.1.2 x.1.2.2.2.1 x.1.2.2.2.2.1 x.2.1.2.1.2.2.2.1 x.2.1.2.2.2.1.1 x.2.1.2.2.2.1.2.2.2.2.1 x.2.2.1 x.2.2.2.1 x.2.2.2.2.1 x.2.2.2.2.2.2.1 x.2.2.2.2.2.2.2.1 x.2.2.2.2.2.2.2.2.2.1
def cStream_l2_R (F m : Nat) (x : cStream_l2_T.T) (kq : ZK) : ZO := cStream_l2F F none (fun y0 y1 y2 y3 y4 y5 y6 y7 y8 y9 y10 y11 y12 => kq (.exit 3) (cStream_l2_T.inst (((), ((y0, y1), ((), (y2, (y3, ()))))), ((((), ()), (((), ((), ((), (y4, ())))), (((), ()), ((y5, ((), ((), ((), (y6, ((), ((), ()))))))), ((), ()))))), (y7, (y8, (y9, (((), ((), ((), ()))), (y10, (y11, ((), (y12, ())))))))))))) m x.1.2.1.1 x.1.2.1.2 x.1.2.2.2.1 x.1.2.2.2.2.1 x.2.1.2.1.2.2.2.1 x.2.1.2.2.2.1.1 x.2.1.2.2.2.1.2.2.2.2.1 x.2.2.1 x.2.2.2.1 x.2.2.2.2.1 x.2.2.2.2.2.2.1 x.2.2.2.2.2.2.2.1 x.2.2.2.2.2.2.2.2.2.1
def cStream_l1_G (F : Nat) (nx : cStream_l1_T.T → ZO) (kq : ZK) (x : cStream_l1_T.T) : ZO := cStream_l1 F none (fun i b s7 key nonce counter out s2 => nx (((), ((), ((), (i, ())))), ((((), ()), ((b, ((), ((), ((), (s7, ((), ((), ()))))))), ((), ()))), (((), ((), ((), ()))), (key, (nonce, (counter, ((), (out, (s2, ())))))))))) (fun y0 y1 y2 y3 y4 y5 y6 y7 => kq (.exit 0) (cStream_l1_T.inst (((), ((), ((), (y0, ())))), ((((), ()), ((y1, ((), ((), ((), (y2, ((), ((), ()))))))), ((), ()))), (((), ((), ((), ()))), (y3, (y4, (y5, ((), (y6, (y7, ()))))))))))) x.1.2.2.2.1 x.2.1.2.1.1 x.2.1.2.1.2.2.2.2.1 x.2.2.2.1 x.2.2.2.2.1 x.2.2.2.2.2.1 x.2.2.2.2.2.2.2.1 x.2.2.2.2.2.2.2.2.1
def cStream_l1_R (F m : Nat) (x : cStream_l1_T.T) (kq : ZK) : ZO := cStream_l1F F none (fun y0 y1 y2 y3 y4 y5 y6 y7 => kq (.exit 0) (cStream_l1_T.inst (((), ((), ((), (y0, ())))), ((((), ()), ((y1, ((), ((), ((), (y2, ((), ((), ()))))))), ((), ()))), (((), ((), ((), ()))), (y3, (y4, (y5, ((), (y6, (y7, ()))))))))))) m x.1.2.2.2.1 x.2.1.2.1.1 x.2.1.2.1.2.2.2.2.1 x.2.2.2.1 x.2.2.2.2.1 x.2.2.2.2.2.1 x.2.2.2.2.2.2.2.1 x.2.2.2.2.2.2.2.2.1
def cStream_lo (F : Nat) : List (LoE Unit) := [⟨56, 11, LO.of cStream_l2_T (cStream_l2_R F F)⟩,
 ⟨142, 1, LO.of cStream_l1_T (cStream_l1_R F F)⟩]
def cStream_book (F : Nat) : BookL Unit := { toBook := cStream_book0, lo := losOf (cStream_lo F), need := needsOf [(142, 1)] }
theorem cStream_l2_step (F : Nat) : LStep prog (cStream_book F) F 56 0 11 cStream_l2_T (cStream_l2_G F) := fun d x KQ => by kernel_rfl
theorem cStream_l1_step (F : Nat) : LStep prog (cStream_book F) F 142 0 1 cStream_l1_T (cStream_l1_G F) := fun d x KQ => by kernel_rfl
theorem cStream_loOk (F : Nat) : LoOk prog (cStream_book F) F := loOk_of (l := cStream_lo F) rfl (fa (loOne_of 0 (by kernel_rfl) (by kernel_rfl) (lstep_run (cStream_l2_step F) (fun _ _ => rfl) (fun _ _ _ _ => rfl))) (fa (loOne_of 0 (by kernel_rfl) (by kernel_rfl) (lstep_run (cStream_l1_step F) (fun _ _ => rfl) (fun _ _ _ _ => rfl))) fz))
theorem cStream_run (F : Nat) (x : ArgsT cStream_ps) (kend : List BV → ZO) : runFnL prog (cStream_book F) F 20 56 (argsInst cStream_ps x) [.o 5 (.int .u8), .d (.int .i64)] kend = cStream F x.1 x.2.1 x.2.2.1 none (fun y0 y1 => kend [BV.o 5 (.int .u8) y0, BV.d (.int .i64) y1]) := by kernel_rfl
theorem cStream_contract  : Contract prog 56 cStream_orc := con_of (B0 := cStream_book0) zN zG mix_ok zT cStream_run (orcsOf_ok (fa clone_byte_contract (fa cRange_contract (fa cBlk_contract fz)))) (by kernel_rfl) (fun _ => rfl) cStream_loOk (fun x h => (cStream_plain x.1 x.2.1 x.2.2.1 h).elim fun F hF => ⟨F, fun kend => hF none _⟩)
@[reducible] def cKeys_ps  : List PM := [.d (.slc (.int .u8))]
def cKeys_orc  : Orc := Orc.of cKeys_ps true 0 fun x => (cKeys_P x.1, [.d (.arr 32 (.int .u8)) (cKeys_r0 x.1), .d (.arr 32 (.int .u8)) (cKeys_r1 x.1)])
def cKeys_orcs  : List (FuncId × Orc) := [(103, dMac_orc)]
def cKeys_book0  : Book := { Γ := gam, orc := orcsOf cKeys_orcs, hint := hintsOf [] }
def cKeys_lo (F : Nat) : List (LoE Unit) := []
def cKeys_book (F : Nat) : BookL Unit := { toBook := cKeys_book0, lo := losOf (cKeys_lo F), need := needsOf [] }
theorem cKeys_loOk (F : Nat) : LoOk prog (cKeys_book F) F := loOk_of (l := cKeys_lo F) rfl fz
theorem cKeys_run (F : Nat) (x : ArgsT cKeys_ps) (kend : List BV → ZO) : runFnL prog (cKeys_book F) F 20 55 (argsInst cKeys_ps x) [.d (.arr 32 (.int .u8)), .d (.arr 32 (.int .u8))] kend = cKeys F x.1 none (fun y0 y1 => kend [BV.d (.arr 32 (.int .u8)) y0, BV.d (.arr 32 (.int .u8)) y1]) := by kernel_rfl
theorem cKeys_contract  : Contract prog 55 cKeys_orc := con_of (B0 := cKeys_book0) zN zG mix_ok zT cKeys_run (orcsOf_ok (fa dMac_contract fz)) (by kernel_rfl) (fun _ => rfl) cKeys_loOk (fun x h => (cKeys_plain x.1 h).elim fun F hF => ⟨F, fun kend => hF none _⟩)
@[reducible] def cTag_ps  : List PM := [.d (.arr 32 (.int .u8)), .d (.int .i64), .d (.slc (.int .u8))]
def cTag_orc  : Orc := Orc.of cTag_ps false 0 fun x => (cTag_P x.1 x.2.1 x.2.2.1, [.d (.slc (.int .u8)) (cTag_r x.1 x.2.1 x.2.2.1)])
@[reducible] def cTag_l1_T  : Tpl := { cur := ⟨[(1, .var (.int .i64)), (0, .var (.slc (.int .u8))), (0, .ptr 0 []), (3, .row 1), (2, .var (.int .i64))], 17⟩, stk := [⟨[], 0⟩], heap := [.box (.var (.arr 32 (.int .u8))), .row 5 (.int .u8) false] }
def cTag_orcs  : List (FuncId × Orc) := [(103, dMac_orc)]
def cTag_book0  : Book := { Γ := gam, orc := orcsOf cTag_orcs, hint := hintsOf [(57, { keep := some [1, 2, 3, 7, 10], keeps := [(3, [1, 2, 3, 7, 10])], own := [(7, 24)], dat := [], stk := [] })] }
def cTag_l1_G (F : Nat) (nx : cTag_l1_T.T → ZO) (kq : ZK) (x : cTag_l1_T.T) : ZO := cTag_l1 F none (fun nonce b s10 key l => nx ((nonce, (b, ((), ((), (s10, ()))))), (((), ()), (key, (l, ()))))) (fun y0 y1 y2 y3 y4 => kq (.exit 0) (cTag_l1_T.inst ((y0, (y1, ((), ((), (y2, ()))))), (((), ()), (y3, (y4, ())))))) x.1.1 x.1.2.1 x.1.2.2.2.2.1 x.2.2.1 x.2.2.2.1
def cTag_l1_R (F m : Nat) (x : cTag_l1_T.T) (kq : ZK) : ZO := cTag_l1F F none (fun y0 y1 y2 y3 y4 => kq (.exit 0) (cTag_l1_T.inst ((y0, (y1, ((), ((), (y2, ()))))), (((), ()), (y3, (y4, ())))))) m x.1.1 x.1.2.1 x.1.2.2.2.2.1 x.2.2.1 x.2.2.2.1
def cTag_lo (F : Nat) : List (LoE Unit) := [⟨57, 3, LO.of cTag_l1_T (cTag_l1_R F F)⟩]
def cTag_book (F : Nat) : BookL Unit := { toBook := cTag_book0, lo := losOf (cTag_lo F), need := needsOf [] }
theorem cTag_l1_step (F : Nat) : LStep prog (cTag_book F) F 57 0 3 cTag_l1_T (cTag_l1_G F) := fun d x KQ => by kernel_rfl
theorem cTag_loOk (F : Nat) : LoOk prog (cTag_book F) F := loOk_of (l := cTag_lo F) rfl (fa (loOne_of 0 (by kernel_rfl) (by kernel_rfl) (lstep_run (cTag_l1_step F) (fun _ _ => rfl) (fun _ _ _ _ => rfl))) fz)
theorem cTag_run (F : Nat) (x : ArgsT cTag_ps) (kend : List BV → ZO) : runFnL prog (cTag_book F) F 20 57 (argsInst cTag_ps x) [.d (.slc (.int .u8))] kend = cTag F x.1 x.2.1 x.2.2.1 none (fun y0 => kend [BV.d (.slc (.int .u8)) y0]) := by kernel_rfl
theorem cTag_contract  : Contract prog 57 cTag_orc := con_of (B0 := cTag_book0) zN zG mix_ok zT cTag_run (orcsOf_ok (fa dMac_contract fz)) (by kernel_rfl) (fun _ => rfl) cTag_loOk (fun x h => (cTag_plain x.1 x.2.1 x.2.2.1 h).elim fun F hF => ⟨F, fun kend => hF none _⟩)
@[reducible] def cUsable_ps  : List PM := [.d (.slc (.int .u8))]
def cUsable_orc  : Orc := Orc.of cUsable_ps true 0 fun x => (true, [.d .bool (cUsable_r x.1)])
def cUsable_orcs  : List (FuncId × Orc) := []
def cUsable_book0  : Book := { Γ := gam, orc := orcsOf cUsable_orcs, hint := hintsOf [] }
def cUsable_lo (F : Nat) : List (LoE Unit) := []
def cUsable_book (F : Nat) : BookL Unit := { toBook := cUsable_book0, lo := losOf (cUsable_lo F), need := needsOf [] }
theorem cUsable_loOk (F : Nat) : LoOk prog (cUsable_book F) F := loOk_of (l := cUsable_lo F) rfl fz
theorem cUsable_run (F : Nat) (x : ArgsT cUsable_ps) (kend : List BV → ZO) : runFnL prog (cUsable_book F) F 20 54 (argsInst cUsable_ps x) [.d .bool] kend = cUsable F x.1 none (fun y0 => kend [BV.d .bool y0]) := by kernel_rfl
theorem cUsable_contract  : Contract prog 54 cUsable_orc := con_of (B0 := cUsable_book0) zN zG mix_ok zT cUsable_run (orcsOf_ok fz) (by kernel_rfl) (fun _ => rfl) cUsable_loOk (fun x _ => (cUsable_plain x.1).elim fun F hF => ⟨F, fun kend => hF none _⟩)
@[reducible] def cSeal_ps  : List PM := [.d (.slc (.int .u8)), .d (.int .i64), .d (.slc (.int .u8))]
def cSeal_orc  : Orc := Orc.of cSeal_ps true 1 fun x => (cSeal_P x.1 x.2.1 x.2.2.1, [.o 5 (.int .u8) (cSeal_r0 x.1 x.2.1 x.2.2.1), .d (.int .i64) (cSeal_r1 x.1 x.2.1 x.2.2.1)])
@[reducible] def cSeal_l1_T  : Tpl := { cur := ⟨[(1, .var (.int .i64)), (0, .row 0), (0, .ptr 1 []), (3, .row 2), (2, .var (.int .i64))], 17⟩, stk := [⟨[(0, .var (.slc (.int .u8))), (0, .var (.int .i64)), (0, .var (.slc (.int .u8))), (6, .ptr 3 []), (25, .row 0)], 5⟩, ⟨[], 0⟩], heap := [.row 5 (.int .u8) false, .box (.var (.arr 32 (.int .u8))), .row 5 (.int .u8) false, .box (.var (.arr 32 (.int .u8)))] }
def cSeal_orcs  : List (FuncId × Orc) := [(54, cUsable_orc), (55, cKeys_orc), (56, cStream_orc), (103, dMac_orc)]
def cSeal_book0  : Book := { Γ := gam, orc := orcsOf cSeal_orcs, hint := hintsOf [(57, { keep := some [1, 2, 3, 7, 10], keeps := [(3, [1, 2, 3, 7, 10])], own := [(7, 24)], dat := [], stk := [[0, 1, 2, 9, 35]] })] }
def cSeal_l1_G (F : Nat) (nx : cSeal_l1_T.T → ZO) (kq : ZK) (x : cSeal_l1_T.T) : ZO := cSeal_l1 F none (fun nonce s10 key nonce1 b b1 key1 l authenticate => nx ((nonce, ((), ((), ((), (s10, ()))))), (((key, (nonce1, (b, ((), ((), ()))))), ((), ())), (b1, (key1, (l, (authenticate, ()))))))) (fun y0 y1 y2 y3 y4 y5 y6 y7 y8 => kq (.exit 0) (cSeal_l1_T.inst ((y0, ((), ((), ((), (y1, ()))))), (((y2, (y3, (y4, ((), ((), ()))))), ((), ())), (y5, (y6, (y7, (y8, ())))))))) x.1.1 x.1.2.2.2.2.1 x.2.1.1.1 x.2.1.1.2.1 x.2.1.1.2.2.1 x.2.2.1 x.2.2.2.1 x.2.2.2.2.1 x.2.2.2.2.2.1
def cSeal_l1_R (F m : Nat) (x : cSeal_l1_T.T) (kq : ZK) : ZO := cSeal_l1F F none (fun y0 y1 y2 y3 y4 y5 y6 y7 y8 => kq (.exit 0) (cSeal_l1_T.inst ((y0, ((), ((), ((), (y1, ()))))), (((y2, (y3, (y4, ((), ((), ()))))), ((), ())), (y5, (y6, (y7, (y8, ())))))))) m x.1.1 x.1.2.2.2.2.1 x.2.1.1.1 x.2.1.1.2.1 x.2.1.1.2.2.1 x.2.2.1 x.2.2.2.1 x.2.2.2.2.1 x.2.2.2.2.2.1
def cSeal_lo (F : Nat) : List (LoE Unit) := [⟨57, 3, LO.of cSeal_l1_T (cSeal_l1_R F F)⟩]
def cSeal_book (F : Nat) : BookL Unit := { toBook := cSeal_book0, lo := losOf (cSeal_lo F), need := needsOf [] }
theorem cSeal_l1_step (F : Nat) : LStep prog (cSeal_book F) F 57 0 3 cSeal_l1_T (cSeal_l1_G F) := fun d x KQ => by kernel_rfl
theorem cSeal_loOk (F : Nat) : LoOk prog (cSeal_book F) F := loOk_of (l := cSeal_lo F) rfl (fa (loOne_of 0 (by kernel_rfl) (by kernel_rfl) (lstep_run (cSeal_l1_step F) (fun _ _ => rfl) (fun _ _ _ _ => rfl))) fz)
theorem cSeal_run (F : Nat) (x : ArgsT cSeal_ps) (kend : List BV → ZO) : runFnL prog (cSeal_book F) F 20 25 (argsInst cSeal_ps x) [.o 5 (.int .u8), .d (.int .i64)] kend = cSeal F x.1 x.2.1 x.2.2.1 none (fun y0 y1 => kend [BV.o 5 (.int .u8) y0, BV.d (.int .i64) y1]) := by kernel_rfl
theorem cSeal_contract  : Contract prog 25 cSeal_orc := con_of (B0 := cSeal_book0) zN zG mix_ok zT cSeal_run (orcsOf_ok (fa cUsable_contract (fa cKeys_contract (fa cStream_contract (fa dMac_contract fz))))) (by kernel_rfl) (fun _ => rfl) cSeal_loOk (fun x h => (cSeal_plain x.1 x.2.1 x.2.2.1 h).elim fun F hF => ⟨F, fun kend => hF none _⟩)
@[reducible] def cOpen_ps  : List PM := [.d (.slc (.int .u8)), .d (.int .i64), .d (.slc (.int .u8))]
def cOpen_orc  : Orc := Orc.of cOpen_ps true 1 fun x => (cOpen_P x.1 x.2.1 x.2.2.1, [.o 5 (.int .u8) (cOpen_r0 x.1 x.2.1 x.2.2.1), .d (.int .i64) (cOpen_r1 x.1 x.2.1 x.2.2.1)])
def cOpen_orcs  : List (FuncId × Orc) := [(54, cUsable_orc), (55, cKeys_orc), (56, cStream_orc), (57, cTag_orc), (104, cRange_orc), (117, equal_byte_orc)]
def cOpen_book0  : Book := { Γ := gam, orc := orcsOf cOpen_orcs, hint := hintsOf [] }
def cOpen_lo (F : Nat) : List (LoE Unit) := []
def cOpen_book (F : Nat) : BookL Unit := { toBook := cOpen_book0, lo := losOf (cOpen_lo F), need := needsOf [] }
theorem cOpen_loOk (F : Nat) : LoOk prog (cOpen_book F) F := loOk_of (l := cOpen_lo F) rfl fz
theorem cOpen_run (F : Nat) (x : ArgsT cOpen_ps) (kend : List BV → ZO) : runFnL prog (cOpen_book F) F 20 70 (argsInst cOpen_ps x) [.o 5 (.int .u8), .d (.int .i64)] kend = cOpen F x.1 x.2.1 x.2.2.1 none (fun y0 y1 => kend [BV.o 5 (.int .u8) y0, BV.d (.int .i64) y1]) := by kernel_rfl
theorem cOpen_contract  : Contract prog 70 cOpen_orc := con_of (B0 := cOpen_book0) zN zG mix_ok zT cOpen_run (orcsOf_ok (fa cUsable_contract (fa cKeys_contract (fa cStream_contract (fa cTag_contract (fa cRange_contract (fa equal_byte_contract fz))))))) (by kernel_rfl) (fun _ => rfl) cOpen_loOk (fun x h => (cOpen_plain x.1 x.2.1 x.2.2.1 h).elim fun F hF => ⟨F, fun kend => hF none _⟩)
end Go.AI
namespace Go.AI
open Go
open Go.Proofs.Tryz (prog)
set_option linter.unusedVariables false
@[reducible] def clPage_ps  : List PM := [.d (.slc (.arr 16 (.int .u8)))]
def clPage_orc  : Orc := Orc.of clPage_ps true 1 fun x => (clPage_P x.1, [.o 93 (.arr 16 (.int .u8)) (clPage_r x.1)])
def clPage_orcs  : List (FuncId × Orc) := []
def clPage_book0  : Book := { Γ := gam, orc := orcsOf clPage_orcs, hint := hintsOf [] }
def clPage_lo (F : Nat) : List (LoE Unit) := []
def clPage_book (F : Nat) : BookL Unit := { toBook := clPage_book0, lo := losOf (clPage_lo F), need := needsOf [] }
theorem clPage_loOk (F : Nat) : LoOk prog (clPage_book F) F := loOk_of (l := clPage_lo F) rfl fz
theorem clPage_run (F : Nat) (x : ArgsT clPage_ps) (kend : List BV → ZO) : runFnL prog (clPage_book F) F 20 86 (argsInst clPage_ps x) [.o 93 (.arr 16 (.int .u8))] kend = clPage F x.1 none both (fun y0 => kend [BV.o 93 (.arr 16 (.int .u8)) y0]) := by kernel_rfl
theorem clPage_contract  : Contract prog 86 clPage_orc := con_of (B0 := clPage_book0) zN zG mix_ok zT clPage_run (orcsOf_ok fz) (by kernel_rfl) (fun _ => rfl) clPage_loOk (fun x h => (clPage_plain x.1 h).elim fun F hF => ⟨F, fun kend => hF none both both_self _⟩)
@[reducible] def clPend_ps  : List PM := [.d (.slc (.pair (.int .i64) (.pair (.arr 16 (.int .u8)) .unit)))]
def clPend_orc  : Orc := Orc.of clPend_ps true 1 fun x => (clPend_P x.1, [.o 155 (.pair (.int .i64) (.pair (.arr 16 (.int .u8)) .unit)) (clPend_r x.1)])
def clPend_orcs  : List (FuncId × Orc) := []
def clPend_book0  : Book := { Γ := gam, orc := orcsOf clPend_orcs, hint := hintsOf [] }
def clPend_lo (F : Nat) : List (LoE Unit) := []
def clPend_book (F : Nat) : BookL Unit := { toBook := clPend_book0, lo := losOf (clPend_lo F), need := needsOf [] }
theorem clPend_loOk (F : Nat) : LoOk prog (clPend_book F) F := loOk_of (l := clPend_lo F) rfl fz
theorem clPend_run (F : Nat) (x : ArgsT clPend_ps) (kend : List BV → ZO) : runFnL prog (clPend_book F) F 20 96 (argsInst clPend_ps x) [.o 155 (.pair (.int .i64) (.pair (.arr 16 (.int .u8)) .unit))] kend = clPend F x.1 none both (fun y0 => kend [BV.o 155 (.pair (.int .i64) (.pair (.arr 16 (.int .u8)) .unit)) y0]) := by kernel_rfl
theorem clPend_contract  : Contract prog 96 clPend_orc := con_of (B0 := clPend_book0) zN zG mix_ok zT clPend_run (orcsOf_ok fz) (by kernel_rfl) (fun _ => rfl) clPend_loOk (fun x h => (clPend_plain x.1 h).elim fun F hF => ⟨F, fun kend => hF none both both_self _⟩)
@[reducible] def dFits_ps  : List PM := [.d (.pair (.slc (.arr 16 (.int .u8))) (.pair (.slc (.pair (.int .i64) (.pair (.arr 16 (.int .u8)) .unit))) .unit)), .d (.int .i64), .d (.int .i64)]
def dFits_orc  : Orc := Orc.of dFits_ps true 0 fun x => (dFits_P x.1 x.2.1 x.2.2.1, [.d .bool (dFits_r x.1 x.2.1 x.2.2.1)])
def dFits_orcs  : List (FuncId × Orc) := []
def dFits_book0  : Book := { Γ := gam, orc := orcsOf dFits_orcs, hint := hintsOf [] }
def dFits_lo (F : Nat) : List (LoE Unit) := []
def dFits_book (F : Nat) : BookL Unit := { toBook := dFits_book0, lo := losOf (dFits_lo F), need := needsOf [] }
theorem dFits_loOk (F : Nat) : LoOk prog (dFits_book F) F := loOk_of (l := dFits_lo F) rfl fz
theorem dFits_run (F : Nat) (x : ArgsT dFits_ps) (kend : List BV → ZO) : runFnL prog (dFits_book F) F 20 85 (argsInst dFits_ps x) [.d .bool] kend = dFits F x.1 x.2.1 x.2.2.1 none (fun y0 => kend [BV.d .bool y0]) := by kernel_rfl
theorem dFits_contract  : Contract prog 85 dFits_orc := con_of (B0 := dFits_book0) zN zG mix_ok zT dFits_run (orcsOf_ok fz) (by kernel_rfl) (fun _ => rfl) dFits_loOk (fun x h => (dFits_plain x.1 x.2.1 x.2.2.1 h).elim fun F hF => ⟨F, fun kend => hF none _⟩)
@[reducible] def dNew_ps  : List PM := [.d (.int .i64)]
def dNew_orc  : Orc := Orc.of dNew_ps false 0 fun x => (dNew_P x.1, [.d (.pair (.slc (.arr 16 (.int .u8))) (.pair (.slc (.pair (.int .i64) (.pair (.arr 16 (.int .u8)) .unit))) .unit)) (dNew_r0 x.1), .d (.int .i64) (dNew_r1 x.1)])
def dNew_orcs  : List (FuncId × Orc) := []
def dNew_book0  : Book := { Γ := gam, orc := orcsOf dNew_orcs, hint := hintsOf [] }
def dNew_lo (F : Nat) : List (LoE Unit) := []
def dNew_book (F : Nat) : BookL Unit := { toBook := dNew_book0, lo := losOf (dNew_lo F), need := needsOf [] }
theorem dNew_loOk (F : Nat) : LoOk prog (dNew_book F) F := loOk_of (l := dNew_lo F) rfl fz
theorem dNew_run (F : Nat) (x : ArgsT dNew_ps) (kend : List BV → ZO) : runFnL prog (dNew_book F) F 20 84 (argsInst dNew_ps x) [.d (.pair (.slc (.arr 16 (.int .u8))) (.pair (.slc (.pair (.int .i64) (.pair (.arr 16 (.int .u8)) .unit))) .unit)), .d (.int .i64)] kend = dNew F x.1 none (fun y0 y1 => kend [BV.d (.pair (.slc (.arr 16 (.int .u8))) (.pair (.slc (.pair (.int .i64) (.pair (.arr 16 (.int .u8)) .unit))) .unit)) y0, BV.d (.int .i64) y1]) := by kernel_rfl
theorem dNew_contract  : Contract prog 84 dNew_orc := con_of (B0 := dNew_book0) zN zG mix_ok zT dNew_run (orcsOf_ok fz) (by kernel_rfl) (fun _ => rfl) dNew_loOk (fun x h => (dNew_plain x.1 h).elim fun F hF => ⟨F, fun kend => hF none _⟩)
@[reducible] def dCheck_ps  : List PM := [.d (.pair (.slc (.arr 16 (.int .u8))) (.pair (.slc (.pair (.int .i64) (.pair (.arr 16 (.int .u8)) .unit))) .unit))]
def dCheck_orc  : Orc := Orc.of dCheck_ps true 0 fun x => (dCheck_P x.1, [.d (.int .i64) (dCheck_r x.1)])
@[reducible] def dCheck_l1_T  : Tpl := { cur := ⟨[(0, .var (.slc (.pair (.int .i64) (.pair (.arr 16 (.int .u8)) .unit)))), (0, .fn 92 (.pr (.ptr 0 []) (.un))), (2, .var (.int .i64)), (2, .var (.int .i64)), (0, .var (.int .i64))], 10⟩, stk := [⟨[], 9⟩, ⟨[(11, .lit false), (3, .lit false)], 5⟩, ⟨[], 0⟩], heap := [.box (.var (.pair (.slc (.arr 16 (.int .u8))) (.pair (.slc (.pair (.int .i64) (.pair (.arr 16 (.int .u8)) .unit))) .unit)))] }
def dCheck_orcs  : List (FuncId × Orc) := []
def dCheck_book0  : Book := { Γ := gam, orc := orcsOf dCheck_orcs, hint := hintsOf [(136, { keep := some [0, 1, 4, 7, 8], keeps := [(2, [0, 1, 4, 7, 8])], own := [], dat := [], stk := [[], [11, 15]] })] }
def dCheck_l1_G (F : Nat) (nx : dCheck_l1_T.T → ZO) (kq : ZK) (x : dCheck_l1_T.T) : ZO := dCheck_l1 F none (fun s s4 s7 s8 f => nx ((s, (((), ()), (s4, (s7, (s8, ()))))), (((), (((), ((), ())), ((), ()))), (f, ())))) (fun y0 y1 y2 y3 y4 => kq .ret (dCheck_l1_T.inst ((y0, (((), ()), (y1, (y2, (y3, ()))))), (((), (((), ((), ())), ((), ()))), (y4, ()))))) (fun y0 y1 y2 y3 y4 => kq (.exit 0) (dCheck_l1_T.inst ((y0, (((), ()), (y1, (y2, (y3, ()))))), (((), (((), ((), ())), ((), ()))), (y4, ()))))) x.1.1 x.1.2.2.1 x.1.2.2.2.1 x.1.2.2.2.2.1 x.2.2.1
def dCheck_l1_R (F m : Nat) (x : dCheck_l1_T.T) (kq : ZK) : ZO := dCheck_l1F F none (fun y0 y1 y2 y3 y4 => kq .ret (dCheck_l1_T.inst ((y0, (((), ()), (y1, (y2, (y3, ()))))), (((), (((), ((), ())), ((), ()))), (y4, ()))))) (fun y0 y1 y2 y3 y4 => kq (.exit 0) (dCheck_l1_T.inst ((y0, (((), ()), (y1, (y2, (y3, ()))))), (((), (((), ((), ())), ((), ()))), (y4, ()))))) m x.1.1 x.1.2.2.1 x.1.2.2.2.1 x.1.2.2.2.2.1 x.2.2.1
def dCheck_lo (F : Nat) : List (LoE Unit) := [⟨136, 2, LO.of dCheck_l1_T (dCheck_l1_R F F)⟩]
def dCheck_book (F : Nat) : BookL Unit := { toBook := dCheck_book0, lo := losOf (dCheck_lo F), need := needsOf [(136, 1)] }
theorem dCheck_l1_step (F : Nat) : LStep prog (dCheck_book F) F 136 0 2 dCheck_l1_T (dCheck_l1_G F) := fun d x KQ => by kernel_rfl
theorem dCheck_loOk (F : Nat) : LoOk prog (dCheck_book F) F := loOk_of (l := dCheck_lo F) rfl (fa (loOne_of 0 (by kernel_rfl) (by kernel_rfl) (lstep_run (dCheck_l1_step F) (fun _ _ => rfl) (fun _ _ _ _ => rfl))) fz)
theorem dCheck_run (F : Nat) (x : ArgsT dCheck_ps) (kend : List BV → ZO) : runFnL prog (dCheck_book F) F 20 46 (argsInst dCheck_ps x) [.d (.int .i64)] kend = dCheck F x.1 none (fun y0 => kend [BV.d (.int .i64) y0]) := by kernel_rfl
theorem dCheck_contract  : Contract prog 46 dCheck_orc := con_of (B0 := dCheck_book0) zN zG mix_ok zT dCheck_run (orcsOf_ok fz) (by kernel_rfl) (fun _ => rfl) dCheck_loOk (fun x h => (dCheck_plain x.1 h).elim fun F hF => ⟨F, fun kend => hF none _⟩)
@[reducible] def contents_ps  : List PM := [.d (.pair (.slc (.arr 16 (.int .u8))) (.pair (.slc (.pair (.int .i64) (.pair (.arr 16 (.int .u8)) .unit))) .unit))]
def contents_orc  : Orc := Orc.of contents_ps true 1 fun x => (contents_P x.1, [.o 93 (.arr 16 (.int .u8)) (contents_r x.1)])
@[reducible] def contents_l1_T  : Tpl := { cur := ⟨[(3, .row 0), (6, .var (.slc (.pair (.int .i64) (.pair (.arr 16 (.int .u8)) .unit)))), (0, .var (.int .i64)), (0, .var (.int .i64))], 11⟩, stk := [⟨[], 0⟩], heap := [.row 93 (.arr 16 (.int .u8)) false] }
def contents_orcs  : List (FuncId × Orc) := [(86, clPage_orc)]
def contents_book0  : Book := { Γ := gam, orc := orcsOf contents_orcs, hint := hintsOf [(87, { keep := some [3, 10, 11, 12], keeps := [(3, [3, 10, 11, 12])], own := [], dat := [], stk := [] })] }
def contents_l1_G (F : Nat) (nx : contents_l1_T.T → ZO) (kq : ZK) (x : contents_l1_T.T) : ZO := contents_l1 F none (fun s10 s11 s12 out => nx (((), (s10, (s11, (s12, ())))), (((), ()), (out, ())))) (fun y0 y1 y2 y3 => kq (.exit 0) (contents_l1_T.inst (((), (y0, (y1, (y2, ())))), (((), ()), (y3, ()))))) x.1.2.1 x.1.2.2.1 x.1.2.2.2.1 x.2.2.1
def contents_l1_R (F m : Nat) (x : contents_l1_T.T) (kq : ZK) : ZO := contents_l1F F none (fun y0 y1 y2 y3 => kq (.exit 0) (contents_l1_T.inst (((), (y0, (y1, (y2, ())))), (((), ()), (y3, ()))))) m x.1.2.1 x.1.2.2.1 x.1.2.2.2.1 x.2.2.1
def contents_lo (F : Nat) : List (LoE Unit) := [⟨87, 3, LO.of contents_l1_T (contents_l1_R F F)⟩]
def contents_book (F : Nat) : BookL Unit := { toBook := contents_book0, lo := losOf (contents_lo F), need := needsOf [] }
theorem contents_l1_step (F : Nat) : LStep prog (contents_book F) F 87 0 3 contents_l1_T (contents_l1_G F) := fun d x KQ => by kernel_rfl
theorem contents_loOk (F : Nat) : LoOk prog (contents_book F) F := loOk_of (l := contents_lo F) rfl (fa (loOne_of 0 (by kernel_rfl) (by kernel_rfl) (lstep_run (contents_l1_step F) (fun _ _ => rfl) (fun _ _ _ _ => rfl))) fz)
theorem contents_run (F : Nat) (x : ArgsT contents_ps) (kend : List BV → ZO) : runFnL prog (contents_book F) F 20 87 (argsInst contents_ps x) [.o 93 (.arr 16 (.int .u8))] kend = contents F x.1 none (fun y0 => kend [BV.o 93 (.arr 16 (.int .u8)) y0]) := by kernel_rfl
theorem contents_contract  : Contract prog 87 contents_orc := con_of (B0 := contents_book0) zN zG mix_ok zT contents_run (orcsOf_ok (fa clPage_contract fz)) (by kernel_rfl) (fun _ => rfl) contents_loOk (fun x h => (contents_plain x.1 h).elim fun F hF => ⟨F, fun kend => hF none _⟩)
@[reducible] def dRead_ps  : List PM := [.d (.pair (.slc (.arr 16 (.int .u8))) (.pair (.slc (.pair (.int .i64) (.pair (.arr 16 (.int .u8)) .unit))) .unit)), .d (.int .i64), .d (.int .i64)]
def dRead_orc  : Orc := Orc.of dRead_ps true 1 fun x => (dRead_P x.1 x.2.1 x.2.2.1, [.o 93 (.arr 16 (.int .u8)) (dRead_r0 x.1 x.2.1 x.2.2.1), .d (.int .i64) (dRead_r1 x.1 x.2.1 x.2.2.1)])
def dRead_orcs  : List (FuncId × Orc) := [(46, dCheck_orc), (85, dFits_orc), (86, clPage_orc), (87, contents_orc)]
def dRead_book0  : Book := { Γ := gam, orc := orcsOf dRead_orcs, hint := hintsOf [] }
def dRead_lo (F : Nat) : List (LoE Unit) := []
def dRead_book (F : Nat) : BookL Unit := { toBook := dRead_book0, lo := losOf (dRead_lo F), need := needsOf [] }
theorem dRead_loOk (F : Nat) : LoOk prog (dRead_book F) F := loOk_of (l := dRead_lo F) rfl fz
theorem dRead_run (F : Nat) (x : ArgsT dRead_ps) (kend : List BV → ZO) : runFnL prog (dRead_book F) F 20 39 (argsInst dRead_ps x) [.o 93 (.arr 16 (.int .u8)), .d (.int .i64)] kend = dRead F x.1 x.2.1 x.2.2.1 none (fun y0 y1 => kend [BV.o 93 (.arr 16 (.int .u8)) y0, BV.d (.int .i64) y1]) := by kernel_rfl
theorem dRead_contract  : Contract prog 39 dRead_orc := con_of (B0 := dRead_book0) zN zG mix_ok zT dRead_run (orcsOf_ok (fa dCheck_contract (fa dFits_contract (fa clPage_contract (fa contents_contract fz))))) (by kernel_rfl) (fun _ => rfl) dRead_loOk (fun x h => (dRead_plain x.1 x.2.1 x.2.2.1 h).elim fun F hF => ⟨F, fun kend => hF none _⟩)
@[reducible] def dRun_ps  : List PM := [.d (.pair (.slc (.arr 16 (.int .u8))) (.pair (.slc (.pair (.int .i64) (.pair (.arr 16 (.int .u8)) .unit))) .unit)), .d (.slc (.pair (.int .i64) (.pair (.int .i64) (.pair (.slc (.arr 16 (.int .u8))) .unit))))]
def dRun_orc  : Orc := Orc.of dRun_ps false 0 fun x => (dRun_P x.1 x.2.1, [.d (.pair (.slc (.arr 16 (.int .u8))) (.pair (.slc (.pair (.int .i64) (.pair (.arr 16 (.int .u8)) .unit))) .unit)) (dRun_r0 x.1 x.2.1), .d (.int .i64) (dRun_r1 x.1 x.2.1), .d (.int .i64) (dRun_r2 x.1 x.2.1)])
@[reducible] def dRun_l2_T  : Tpl := { cur := ⟨[(0, .ptr 0 []), (2, .ptr 3 []), (14, .var (.slc (.arr 16 (.int .u8)))), (0, .var (.int .i64)), (0, .var (.int .i64))], 20⟩, stk := [⟨[(1, .var (.slc (.pair (.int .i64) (.pair (.int .i64) (.pair (.slc (.arr 16 (.int .u8))) .unit))))), (2, .ptr 4 []), (0, .var (.int .i64)), (0, .var (.int .i64)), (1, .ptr 0 []), (0, .ptr 5 []), (0, .var (.int .i64)), (11, .var (.slc (.pair (.int .i64) (.pair (.int .i64) (.pair (.slc (.arr 16 (.int .u8))) .unit))))), (0, .var (.int .i64)), (0, .var (.int .i64))], 27⟩, ⟨[], 0⟩], heap := [.box (.pr (.row 1) (.pr (.row 2) (.var .unit))), .row 93 (.arr 16 (.int .u8)) false, .row 155 (.pair (.int .i64) (.pair (.arr 16 (.int .u8)) .unit)) false, .box (.var (.pair (.int .i64) (.pair (.int .i64) (.pair (.slc (.arr 16 (.int .u8))) .unit)))), .box (.var (.pair (.slc (.arr 16 (.int .u8))) (.pair (.slc (.pair (.int .i64) (.pair (.arr 16 (.int .u8)) .unit))) .unit))), .box (.fns [some 97, some 98])] }
@[reducible] def dRun_l1_T  : Tpl := { cur := ⟨[(1, .var (.slc (.pair (.int .i64) (.pair (.int .i64) (.pair (.slc (.arr 16 (.int .u8))) .unit))))), (2, .ptr 0 []), (0, .var (.int .i64)), (0, .var (.int .i64)), (1, .ptr 1 []), (0, .ptr 4 []), (12, .var (.slc (.pair (.int .i64) (.pair (.int .i64) (.pair (.slc (.arr 16 (.int .u8))) .unit))))), (0, .var (.int .i64)), (0, .var (.int .i64))], 27⟩, stk := [⟨[], 0⟩], heap := [.box (.var (.pair (.slc (.arr 16 (.int .u8))) (.pair (.slc (.pair (.int .i64) (.pair (.arr 16 (.int .u8)) .unit))) .unit))), .box (.pr (.row 2) (.pr (.row 3) (.var .unit))), .row 93 (.arr 16 (.int .u8)) false, .row 155 (.pair (.int .i64) (.pair (.arr 16 (.int .u8)) .unit)) false, .box (.fns [some 97, some 98])] }
def dRun_orcs  : List (FuncId × Orc) := [(46, dCheck_orc), (85, dFits_orc), (86, clPage_orc), (87, contents_orc), (96, clPend_orc)]
def dRun_book0  : Book := { Γ := gam, orc := orcsOf dRun_orcs, hint := hintsOf [(22, { keep := some [1, 4, 5, 6, 8, 9, 22, 23, 24], keeps := [(6, [1, 4, 5, 6, 8, 9, 22, 23, 24])], own := [], dat := [], stk := [], ownb := [(8, 1, 37)] }), (97, { keep := some [0, 3, 18, 19, 20], keeps := [(4, [0, 3, 18, 19, 20])], own := [], dat := [], stk := [[1, 2, 4, 5, 6, 8, 9, 10, 20, 22, 23, 24]] })] }
def dRun_l2_G (F : Nat) (nx : dRun_l2_T.T → ZO) (kq : ZK) (x : dRun_l2_T.T) : ZO := dRun_l2 F none (fun s18 s19 s20 l s5 s6 i s22 s23 s24 h1 h2 op s4 => nx (((), ((), (s18, (s19, (s20, ()))))), (((l, ((), (s5, (s6, ((), ((), (i, (s22, (s23, (s24, ())))))))))), ((), ())), (((), ((), ())), (h1, (h2, (op, (s4, ((), ()))))))))) (fun y0 y1 y2 y3 y4 y5 y6 y7 y8 y9 y10 y11 y12 y13 => kq (.exit 0) (dRun_l2_T.inst (((), ((), (y0, (y1, (y2, ()))))), (((y3, ((), (y4, (y5, ((), ((), (y6, (y7, (y8, (y9, ())))))))))), ((), ())), (((), ((), ())), (y10, (y11, (y12, (y13, ((), ())))))))))) x.1.2.2.1 x.1.2.2.2.1 x.1.2.2.2.2.1 x.2.1.1.1 x.2.1.1.2.2.1 x.2.1.1.2.2.2.1 x.2.1.1.2.2.2.2.2.2.1 x.2.1.1.2.2.2.2.2.2.2.1 x.2.1.1.2.2.2.2.2.2.2.2.1 x.2.1.1.2.2.2.2.2.2.2.2.2.1 x.2.2.2.1 x.2.2.2.2.1 x.2.2.2.2.2.1 x.2.2.2.2.2.2.1
def dRun_l2_R (F m : Nat) (x : dRun_l2_T.T) (kq : ZK) : ZO := dRun_l2F F none (fun y0 y1 y2 y3 y4 y5 y6 y7 y8 y9 y10 y11 y12 y13 => kq (.exit 0) (dRun_l2_T.inst (((), ((), (y0, (y1, (y2, ()))))), (((y3, ((), (y4, (y5, ((), ((), (y6, (y7, (y8, (y9, ())))))))))), ((), ())), (((), ((), ())), (y10, (y11, (y12, (y13, ((), ())))))))))) m x.1.2.2.1 x.1.2.2.2.1 x.1.2.2.2.2.1 x.2.1.1.1 x.2.1.1.2.2.1 x.2.1.1.2.2.2.1 x.2.1.1.2.2.2.2.2.2.1 x.2.1.1.2.2.2.2.2.2.2.1 x.2.1.1.2.2.2.2.2.2.2.2.1 x.2.1.1.2.2.2.2.2.2.2.2.2.1 x.2.2.2.1 x.2.2.2.2.1 x.2.2.2.2.2.1 x.2.2.2.2.2.2.1
def dRun_l1_G (F : Nat) (nx : dRun_l1_T.T → ZO) (kq : ZK) (x : dRun_l1_T.T) : ZO := dRun_l1 F none (fun l s5 s6 s22 s23 s24 s4 h2 h3 => nx ((l, ((), (s5, (s6, ((), ((), (s22, (s23, (s24, ()))))))))), (((), ()), (s4, (((), ((), ())), (h2, (h3, ((), ())))))))) (fun y0 y1 y2 y3 y4 y5 y6 y7 y8 => kq .ret (dRun_l1_T.inst ((y0, ((), (y1, (y2, ((), ((), (y3, (y4, (y5, ()))))))))), (((), ()), (y6, (((), ((), ())), (y7, (y8, ((), ()))))))))) (fun y0 y1 y2 y3 y4 y5 y6 y7 y8 => kq (.exit 0) (dRun_l1_T.inst ((y0, ((), (y1, (y2, ((), ((), (y3, (y4, (y5, ()))))))))), (((), ()), (y6, (((), ((), ())), (y7, (y8, ((), ()))))))))) x.1.1 x.1.2.2.1 x.1.2.2.2.1 x.1.2.2.2.2.2.2.1 x.1.2.2.2.2.2.2.2.1 x.1.2.2.2.2.2.2.2.2.1 x.2.2.1 x.2.2.2.2.1 x.2.2.2.2.2.1
def dRun_l1_R (F m : Nat) (x : dRun_l1_T.T) (kq : ZK) : ZO := dRun_l1F F none (fun y0 y1 y2 y3 y4 y5 y6 y7 y8 => kq .ret (dRun_l1_T.inst ((y0, ((), (y1, (y2, ((), ((), (y3, (y4, (y5, ()))))))))), (((), ()), (y6, (((), ((), ())), (y7, (y8, ((), ()))))))))) (fun y0 y1 y2 y3 y4 y5 y6 y7 y8 => kq (.exit 0) (dRun_l1_T.inst ((y0, ((), (y1, (y2, ((), ((), (y3, (y4, (y5, ()))))))))), (((), ()), (y6, (((), ((), ())), (y7, (y8, ((), ()))))))))) m x.1.1 x.1.2.2.1 x.1.2.2.2.1 x.1.2.2.2.2.2.2.1 x.1.2.2.2.2.2.2.2.1 x.1.2.2.2.2.2.2.2.2.1 x.2.2.1 x.2.2.2.2.1 x.2.2.2.2.2.1
def dRun_lo (F : Nat) : List (LoE Unit) := [⟨97, 4, LO.of dRun_l2_T (dRun_l2_R F F)⟩,
 ⟨22, 6, LO.of dRun_l1_T (dRun_l1_R F F)⟩]
def dRun_book (F : Nat) : BookL Unit := { toBook := dRun_book0, lo := losOf (dRun_lo F), need := needsOf [(22, 1)] }
theorem dRun_l2_step (F : Nat) : LStep prog (dRun_book F) F 97 0 4 dRun_l2_T (dRun_l2_G F) := fun d x KQ => by kernel_rfl
theorem dRun_l1_step (F : Nat) : LStep prog (dRun_book F) F 22 0 6 dRun_l1_T (dRun_l1_G F) := fun d x KQ => by kernel_rfl
theorem dRun_loOk (F : Nat) : LoOk prog (dRun_book F) F := loOk_of (l := dRun_lo F) rfl (fa (loOne_of 0 (by kernel_rfl) (by kernel_rfl) (lstep_run (dRun_l2_step F) (fun _ _ => rfl) (fun _ _ _ _ => rfl))) (fa (loOne_of 0 (by kernel_rfl) (by kernel_rfl) (lstep_run (dRun_l1_step F) (fun _ _ => rfl) (fun _ _ _ _ => rfl))) fz))
theorem dRun_run (F : Nat) (x : ArgsT dRun_ps) (kend : List BV → ZO) : runFnL prog (dRun_book F) F 20 22 (argsInst dRun_ps x) [.d (.pair (.slc (.arr 16 (.int .u8))) (.pair (.slc (.pair (.int .i64) (.pair (.arr 16 (.int .u8)) .unit))) .unit)), .d (.int .i64), .d (.int .i64)] kend = dRun F x.1 x.2.1 none (fun y0 y1 y2 => kend [BV.d (.pair (.slc (.arr 16 (.int .u8))) (.pair (.slc (.pair (.int .i64) (.pair (.arr 16 (.int .u8)) .unit))) .unit)) y0, BV.d (.int .i64) y1, BV.d (.int .i64) y2]) := by kernel_rfl
theorem dRun_contract  : Contract prog 22 dRun_orc := con_of (B0 := dRun_book0) zN zG mix_ok zT dRun_run (orcsOf_ok (fa dCheck_contract (fa dFits_contract (fa clPage_contract (fa contents_contract (fa clPend_contract fz)))))) (by kernel_rfl) (fun _ => rfl) dRun_loOk (fun x h => (dRun_plain x.1 x.2.1 h).elim fun F hF => ⟨F, fun kend => hF none _⟩)
end Go.AI
namespace Go.AI
open Go Go.Proofs
def rcvs (f : FuncId) : Option Rcv := bif Nat.beq f 88 then some { clo := 127, ncap := 2, pan := 186, sto := [(0, 24, none), (1, 4, some false)] } else none
theorem rcv_ret (p q : Value) (w : World) : CallsDIn (Fe none) 0 Tryz.prog 127 #[p, q] .returning w fun e u' w' => (∃ v, e = .returned v) ∧ u' = .returning ∧ w' = w := by
 refine callsDIn_of_wpSIn Tryz.func127 rfl trivial fun c₀ cs hu => ?_
 apply wpSIn_seq
 apply wpSIn_region
 simp [wpOpsSIn, go_sem, recoverD, hu, Tryz.ntmps127, Exit.thenS]
 apply wpSIn_seq
 apply wpSIn_region
 simp [wpOpsSIn, go_sem, Exit.thenS]
 refine wpSIn_cond (t := false) (by simp [Act.eval, Array.replicate]) ?_
 simp only [Bool.false_eq_true, if_false]
 refine wpSIn_of_wpIn rfl (wpIn_skip ?_)
 cases c₀
 simp_all [bodyPostS, results, Tryz.results127]
theorem rcv_pan (p q : Value) (w w' : World) (h : RunSto Tryz.prog [p, q] [(0, 24, none), (1, 4, some false)] (w.alloc (.cells #[] 186)) w') :
  CallsDIn (Fe none) 0 Tryz.prog 127 #[p, q] (.panicking (panicked 186)) w fun e u' w'' => (∃ v, e = .returned v) ∧ settle u' = .returning ∧ w'' = w' := by
 obtain ⟨w1, h1, w2, h2, h3⟩ := h
 simp only [RunSto] at h3
 subst h3
 have hta : ∀ w, (Instr.typeAssert (.iface 186 (.agg #[])) 20 186 true).run Tryz.prog w = .ok (.tuple #[.agg #[], .bool true]) w := fun w => by kernel_rfl
 refine callsDIn_of_wpSIn Tryz.func127 rfl trivial fun c₀ cs hu => ?_
 apply wpSIn_seq
 apply wpSIn_region
 simp [wpOpsSIn, go_sem, recoverD, hu, Tryz.ntmps127, Exit.thenS, panicked]
 apply wpSIn_seq
 apply wpSIn_region
 simp [wpOpsSIn, go_sem, Exit.thenS]
 refine wpSIn_cond (t := true) (by simp [Act.eval, Array.replicate]) ?_
 simp only [if_true]
 apply wpSIn_seq
 apply wpSIn_seq
 apply wpSIn_region
 simp [wpOpsSIn, go_sem, Exit.thenS, hta]
 apply wpSIn_seq
 apply wpSIn_region
 simp [wpOpsSIn, go_sem, Exit.thenS]
 refine wpSIn_cond (t := false) (by simp [Act.eval, Array.replicate]) ?_
 simp only [Bool.false_eq_true, if_false]
 refine wpSIn_of_wpIn rfl (wpIn_skip ?_)
 simp only [Exit.thenS]
 apply wpSIn_region
 have g1 : (Instr.storeAt 24 p (.slice none 0 0)).run Tryz.prog (w.alloc (.cells #[] 186)) = .ok () w1 := h1
 have g2 : (Instr.storeAt 4 q (.bool false)).run Tryz.prog w1 = .ok () w' := h2
 show wpOpsSIn (Fe none) 0 Tryz.prog _ _ [0, 1] _ _ _
 simp [wpOpsSIn, execOp, Act.eval, Act.put, Region.wanted, g1, g2, bodyPostS, results, Tryz.results127, settle]
 exact ⟨fun _ _ => trivial, fun _ _ => trivial⟩
theorem rcvs_ok  : RcvOk Tryz.prog rcvs := by
 intro f rc h
 unfold rcvs at h
 cases hf : Nat.beq f 88 with
 | false => rw [hf] at h; cases h
 | true =>
  rw [hf] at h
  cases h
  have two : ∀ caps : Array Value, caps.size = 2 → ∃ p q, caps = #[p, q] := fun caps h => by
   obtain ⟨l⟩ := caps
   match l, h with
   | [p, q], _ => exact ⟨p, q, rfl⟩
  refine ⟨⟨Tryz.f127, Tryz.func127, by kernel_rfl, by kernel_rfl⟩, fun caps w h => ?_, fun caps w h => ⟨.cells #[] 186, fun w' hs => ?_⟩⟩
  ·obtain ⟨p, q, rfl⟩ := two caps h
   exact rcv_ret p q w
  ·obtain ⟨p, q, rfl⟩ := two caps h
   exact rcv_pan p q w w' hs
end Go.AI
namespace Go.AI
open Go
open Go.Proofs.Tryz (prog)
set_option linter.unusedVariables false
@[reducible] def shifted_ps  : List PM := [.d (.int .u32)]
def shifted_orc  : Orc := Orc.of shifted_ps true 0 fun x => (shifted_P x.1, [.d (.int .u32) (shifted_r x.1)])
@[reducible] def shifted_l1_T  : Tpl := { cur := ⟨[(0, .var (.int .u32)), (3, .var (.int .i64))], 11⟩, stk := [⟨[], 0⟩], heap := [] }
def shifted_orcs  : List (FuncId × Orc) := []
def shifted_book0  : Book := { Γ := gam, orc := orcsOf shifted_orcs, hint := hintsOf [(178, { keep := some [0, 4], keeps := [(2, [0, 4])], own := [], dat := [], stk := [] })] }
def shifted_l1_G (F : Nat) (nx : shifted_l1_T.T → ZO) (kq : ZK) (x : shifted_l1_T.T) : ZO := shifted_l1 F none (fun register s4 => nx ((register, (s4, ())), (((), ()), ()))) (fun y0 y1 => kq (.exit 0) (shifted_l1_T.inst ((y0, (y1, ())), (((), ()), ())))) x.1.1 x.1.2.1
def shifted_l1_R (F m : Nat) (x : shifted_l1_T.T) (kq : ZK) : ZO := shifted_l1F F none (fun y0 y1 => kq (.exit 0) (shifted_l1_T.inst ((y0, (y1, ())), (((), ()), ())))) m x.1.1 x.1.2.1
def shifted_lo (F : Nat) : List (LoE Unit) := [⟨178, 2, LO.of shifted_l1_T (shifted_l1_R F F)⟩]
def shifted_book (F : Nat) : BookL Unit := { toBook := shifted_book0, lo := losOf (shifted_lo F), need := needsOf [] }
theorem shifted_l1_step (F : Nat) : LStep prog (shifted_book F) F 178 0 2 shifted_l1_T (shifted_l1_G F) := fun d x KQ => by kernel_rfl
theorem shifted_loOk (F : Nat) : LoOk prog (shifted_book F) F := loOk_of (l := shifted_lo F) rfl (fa (loOne_of 0 (by kernel_rfl) (by kernel_rfl) (lstep_run (shifted_l1_step F) (fun _ _ => rfl) (fun _ _ _ _ => rfl))) fz)
theorem shifted_run (F : Nat) (x : ArgsT shifted_ps) (kend : List BV → ZO) : runFnL prog (shifted_book F) F 20 178 (argsInst shifted_ps x) [.d (.int .u32)] kend = shifted F x.1 none (fun y0 => kend [BV.d (.int .u32) y0]) := by kernel_rfl
theorem shifted_contract  : Contract prog 178 shifted_orc := con_of (B0 := shifted_book0) zN zG mix_ok zT shifted_run (orcsOf_ok fz) (by kernel_rfl) (fun _ => rfl) shifted_loOk (fun x h => (shifted_plain x.1 h).elim fun F hF => ⟨F, fun kend => hF none _⟩)
@[reducible] def ctable_ps  : List PM := []
def ctable_orc  : Orc := Orc.of ctable_ps true 0 fun x => (ctable_P, [.d (.arr 256 (.int .u32)) (ctable_r)])
@[reducible] def ctable_l1_T  : Tpl := { cur := ⟨[(0, .ptr 0 []), (0, .ptr 1 []), (1, .var (.int .i64))], 9⟩, stk := [⟨[], 0⟩], heap := [.box (.var (.arr 256 (.int .u32))), .box (.var (.arr 256 (.int .u32)))] }
def ctable_orcs  : List (FuncId × Orc) := [(178, shifted_orc)]
def ctable_book0  : Book := { Γ := gam, orc := orcsOf ctable_orcs, hint := hintsOf [(170, { keep := some [0, 1, 3], keeps := [(3, [0, 1, 3])], own := [], dat := [], stk := [] })] }
def ctable_l1_G (F : Nat) (nx : ctable_l1_T.T → ZO) (kq : ZK) (x : ctable_l1_T.T) : ZO := ctable_l1 F none (fun s3 s0 out => nx (((), ((), (s3, ()))), (((), ()), (s0, (out, ()))))) (fun y0 y1 y2 => kq (.exit 0) (ctable_l1_T.inst (((), ((), (y0, ()))), (((), ()), (y1, (y2, ())))))) x.1.2.2.1 x.2.2.1 x.2.2.2.1
def ctable_l1_R (F m : Nat) (x : ctable_l1_T.T) (kq : ZK) : ZO := ctable_l1F F none (fun y0 y1 y2 => kq (.exit 0) (ctable_l1_T.inst (((), ((), (y0, ()))), (((), ()), (y1, (y2, ())))))) m x.1.2.2.1 x.2.2.1 x.2.2.2.1
def ctable_lo (F : Nat) : List (LoE Unit) := [⟨170, 3, LO.of ctable_l1_T (ctable_l1_R F F)⟩]
def ctable_book (F : Nat) : BookL Unit := { toBook := ctable_book0, lo := losOf (ctable_lo F), need := needsOf [] }
theorem ctable_l1_step (F : Nat) : LStep prog (ctable_book F) F 170 0 3 ctable_l1_T (ctable_l1_G F) := fun d x KQ => by kernel_rfl
theorem ctable_loOk (F : Nat) : LoOk prog (ctable_book F) F := loOk_of (l := ctable_lo F) rfl (fa (loOne_of 0 (by kernel_rfl) (by kernel_rfl) (lstep_run (ctable_l1_step F) (fun _ _ => rfl) (fun _ _ _ _ => rfl))) fz)
theorem ctable_run (F : Nat) (x : ArgsT ctable_ps) (kend : List BV → ZO) : runFnL prog (ctable_book F) F 20 170 (argsInst ctable_ps x) [.d (.arr 256 (.int .u32))] kend = ctable F  none (fun y0 => kend [BV.d (.arr 256 (.int .u32)) y0]) := by kernel_rfl
theorem ctable_contract  : Contract prog 170 ctable_orc := con_of (B0 := ctable_book0) zN zG mix_ok zT ctable_run (orcsOf_ok (fa shifted_contract fz)) (by kernel_rfl) (fun _ => rfl) ctable_loOk (fun x h => (ctable_plain  h).elim fun F hF => ⟨F, fun kend => hF none _⟩)
@[reducible] def cUpd_ps  : List PM := [.d (.int .u32), .d (.slc (.int .u8))]
def cUpd_orc  : Orc := Orc.of cUpd_ps true 0 fun x => (cUpd_P x.1 x.2.1, [.d (.int .u32) (cUpd_r x.1 x.2.1)])
@[reducible] def cUpd_l1_T  : Tpl := { cur := ⟨[(0, .hnd .yield 0), (4, .var (.slc (.int .u8))), (0, .var (.int .i64)), (0, .var (.int .i64))], 8⟩, stk := [⟨[(0, .hnd .yield 0)], 0⟩, ⟨[(1, .fn 171 (.pr (.ptr 3 []) (.un))), (0, .ptr 1 []), (1, .var (.int .u32))], 15⟩, ⟨[(6, .var (.int .u32))], 4⟩, ⟨[], 0⟩], heap := [.lp 159 3 ⟨[(2, .ptr 1 []), (2, .ptr 2 [])], 14⟩ .ready, .box (.var (.int .u32)), .box (.var (.arr 256 (.int .u32))), .box (.var (.slc (.int .u8)))] }
def cUpd_orcs  : List (FuncId × Orc) := [(170, ctable_orc)]
def cUpd_book0  : Book := { Γ := gam, orc := orcsOf cUpd_orcs, hint := hintsOf [(171, { keep := some [0, 5, 6, 7], keeps := [(1, [0, 5, 6, 7])], own := [], dat := [], stk := [[0], [1, 2, 4, 6, 9], [6]] })] }
def cUpd_l1_G (F : Nat) (nx : cUpd_l1_T.T → ZO) (kq : ZK) (x : cUpd_l1_T.T) : ZO := cUpd_l1 F none (fun s5 s6 s7 s4 s61 register t bytes => nx (((), (s5, (s6, (s7, ())))), ((((), ()), ((((), ()), ((), (s4, ()))), ((s61, ()), ((), ())))), (((), ((), ())), (register, (t, (bytes, ()))))))) (fun y0 y1 y2 y3 y4 y5 y6 y7 => kq (.exit 0) (cUpd_l1_T.inst (((), (y0, (y1, (y2, ())))), ((((), ()), ((((), ()), ((), (y3, ()))), ((y4, ()), ((), ())))), (((), ((), ())), (y5, (y6, (y7, ())))))))) x.1.2.1 x.1.2.2.1 x.1.2.2.2.1 x.2.1.2.1.2.2.1 x.2.1.2.2.1.1 x.2.2.2.1 x.2.2.2.2.1 x.2.2.2.2.2.1
def cUpd_l1_R (F m : Nat) (x : cUpd_l1_T.T) (kq : ZK) : ZO := cUpd_l1F F none (fun y0 y1 y2 y3 y4 y5 y6 y7 => kq (.exit 0) (cUpd_l1_T.inst (((), (y0, (y1, (y2, ())))), ((((), ()), ((((), ()), ((), (y3, ()))), ((y4, ()), ((), ())))), (((), ((), ())), (y5, (y6, (y7, ())))))))) m x.1.2.1 x.1.2.2.1 x.1.2.2.2.1 x.2.1.2.1.2.2.1 x.2.1.2.2.1.1 x.2.2.2.1 x.2.2.2.2.1 x.2.2.2.2.2.1
def cUpd_lo (F : Nat) : List (LoE Unit) := [⟨171, 1, LO.of cUpd_l1_T (cUpd_l1_R F F)⟩]
def cUpd_book (F : Nat) : BookL Unit := { toBook := cUpd_book0, lo := losOf (cUpd_lo F), need := needsOf [(171, 1)] }
theorem cUpd_l1_step (F : Nat) : LStep prog (cUpd_book F) F 171 0 1 cUpd_l1_T (cUpd_l1_G F) := fun d x KQ => by kernel_rfl
theorem cUpd_loOk (F : Nat) : LoOk prog (cUpd_book F) F := loOk_of (l := cUpd_lo F) rfl (fa (loOne_of 0 (by kernel_rfl) (by kernel_rfl) (lstep_run (cUpd_l1_step F) (fun _ _ => rfl) (fun _ _ _ _ => rfl))) fz)
theorem cUpd_run (F : Nat) (x : ArgsT cUpd_ps) (kend : List BV → ZO) : runFnL prog (cUpd_book F) F 20 145 (argsInst cUpd_ps x) [.d (.int .u32)] kend = cUpd F x.1 x.2.1 none (fun y0 => kend [BV.d (.int .u32) y0]) := by kernel_rfl
theorem cUpd_contract  : Contract prog 145 cUpd_orc := con_of (B0 := cUpd_book0) zN zG mix_ok zT cUpd_run (orcsOf_ok (fa ctable_contract fz)) (by kernel_rfl) (fun _ => rfl) cUpd_loOk (fun x h => (cUpd_plain x.1 x.2.1 h).elim fun F hF => ⟨F, fun kend => hF none _⟩)
@[reducible] def cSum_ps  : List PM := [.d (.slc (.int .u8))]
def cSum_orc  : Orc := Orc.of cSum_ps true 0 fun x => (cSum_P x.1, [.d (.int .u32) (cSum_r x.1)])
def cSum_orcs  : List (FuncId × Orc) := [(145, cUpd_orc)]
def cSum_book0  : Book := { Γ := gam, orc := orcsOf cSum_orcs, hint := hintsOf [] }
def cSum_lo (F : Nat) : List (LoE Unit) := []
def cSum_book (F : Nat) : BookL Unit := { toBook := cSum_book0, lo := losOf (cSum_lo F), need := needsOf [] }
theorem cSum_loOk (F : Nat) : LoOk prog (cSum_book F) F := loOk_of (l := cSum_lo F) rfl fz
theorem cSum_run (F : Nat) (x : ArgsT cSum_ps) (kend : List BV → ZO) : runFnL prog (cSum_book F) F 20 110 (argsInst cSum_ps x) [.d (.int .u32)] kend = cSum F x.1 none (fun y0 => kend [BV.d (.int .u32) y0]) := by kernel_rfl
theorem cSum_contract  : Contract prog 110 cSum_orc := con_of (B0 := cSum_book0) zN zG mix_ok zT cSum_run (orcsOf_ok (fa cUpd_contract fz)) (by kernel_rfl) (fun _ => rfl) cSum_loOk (fun x h => (cSum_plain x.1 h).elim fun F hF => ⟨F, fun kend => hF none _⟩)
@[reducible] def needed_ps  : List PM := [.d (.int .i64)]
def needed_orc  : Orc := Orc.of needed_ps true 0 fun x => (needed_P x.1, [.d (.int .i64) (needed_r x.1)])
def needed_orcs  : List (FuncId × Orc) := []
def needed_book0  : Book := { Γ := gam, orc := orcsOf needed_orcs, hint := hintsOf [] }
def needed_lo (F : Nat) : List (LoE Unit) := []
def needed_book (F : Nat) : BookL Unit := { toBook := needed_book0, lo := losOf (needed_lo F), need := needsOf [] }
theorem needed_loOk (F : Nat) : LoOk prog (needed_book F) F := loOk_of (l := needed_lo F) rfl fz
theorem needed_run (F : Nat) (x : ArgsT needed_ps) (kend : List BV → ZO) : runFnL prog (needed_book F) F 20 107 (argsInst needed_ps x) [.d (.int .i64)] kend = needed F x.1 none (fun y0 => kend [BV.d (.int .i64) y0]) := by kernel_rfl
theorem needed_contract  : Contract prog 107 needed_orc := con_of (B0 := needed_book0) zN zG mix_ok zT needed_run (orcsOf_ok fz) (by kernel_rfl) (fun _ => rfl) needed_loOk (fun x h => (needed_plain x.1 h).elim fun F hF => ⟨F, fun kend => hF none _⟩)
@[reducible] def lPages_ps  : List PM := [.d (.int .i64)]
def lPages_orc  : Orc := Orc.of lPages_ps true 0 fun x => (lPages_P x.1, [.d (.int .i64) (lPages_r x.1)])
def lPages_orcs  : List (FuncId × Orc) := [(107, needed_orc)]
def lPages_book0  : Book := { Γ := gam, orc := orcsOf lPages_orcs, hint := hintsOf [] }
def lPages_lo (F : Nat) : List (LoE Unit) := []
def lPages_book (F : Nat) : BookL Unit := { toBook := lPages_book0, lo := losOf (lPages_lo F), need := needsOf [] }
theorem lPages_loOk (F : Nat) : LoOk prog (lPages_book F) F := loOk_of (l := lPages_lo F) rfl fz
theorem lPages_run (F : Nat) (x : ArgsT lPages_ps) (kend : List BV → ZO) : runFnL prog (lPages_book F) F 20 58 (argsInst lPages_ps x) [.d (.int .i64)] kend = lPages F x.1 none (fun y0 => kend [BV.d (.int .i64) y0]) := by kernel_rfl
theorem lPages_contract  : Contract prog 58 lPages_orc := con_of (B0 := lPages_book0) zN zG mix_ok zT lPages_run (orcsOf_ok (fa needed_contract fz)) (by kernel_rfl) (fun _ => rfl) lPages_loOk (fun x h => (lPages_plain x.1 h).elim fun F hF => ⟨F, fun kend => hF none _⟩)
@[reducible] def lCheck_ps  : List PM := [.d (.pair (.int .i64) (.pair (.int .i64) (.pair (.int .i64) .unit)))]
def lCheck_orc  : Orc := Orc.of lCheck_ps true 0 fun x => (true, [.d (.int .i64) (lCheck_r x.1)])
def lCheck_orcs  : List (FuncId × Orc) := []
def lCheck_book0  : Book := { Γ := gam, orc := orcsOf lCheck_orcs, hint := hintsOf [] }
def lCheck_lo (F : Nat) : List (LoE Unit) := []
def lCheck_book (F : Nat) : BookL Unit := { toBook := lCheck_book0, lo := losOf (lCheck_lo F), need := needsOf [] }
theorem lCheck_loOk (F : Nat) : LoOk prog (lCheck_book F) F := loOk_of (l := lCheck_lo F) rfl fz
theorem lCheck_run (F : Nat) (x : ArgsT lCheck_ps) (kend : List BV → ZO) : runFnL prog (lCheck_book F) F 20 24 (argsInst lCheck_ps x) [.d (.int .i64)] kend = lCheck F x.1 none (fun y0 => kend [BV.d (.int .i64) y0]) := by kernel_rfl
theorem lCheck_contract  : Contract prog 24 lCheck_orc := con_of (B0 := lCheck_book0) zN zG mix_ok zT lCheck_run (orcsOf_ok fz) (by kernel_rfl) (fun _ => rfl) lCheck_loOk (fun x _ => (lCheck_plain x.1).elim fun F hF => ⟨F, fun kend => hF none _⟩)
@[reducible] def lHead_ps  : List PM := []
def lHead_orc  : Orc := Orc.of lHead_ps true 0 fun x => (lHead_P, [.d (.arr 16 (.int .u8)) (lHead_r)])
def lHead_orcs  : List (FuncId × Orc) := []
def lHead_book0  : Book := { Γ := gam, orc := orcsOf lHead_orcs, hint := hintsOf [] }
def lHead_lo (F : Nat) : List (LoE Unit) := []
def lHead_book (F : Nat) : BookL Unit := { toBook := lHead_book0, lo := losOf (lHead_lo F), need := needsOf [] }
theorem lHead_loOk (F : Nat) : LoOk prog (lHead_book F) F := loOk_of (l := lHead_lo F) rfl fz
theorem lHead_run (F : Nat) (x : ArgsT lHead_ps) (kend : List BV → ZO) : runFnL prog (lHead_book F) F 20 40 (argsInst lHead_ps x) [.d (.arr 16 (.int .u8))] kend = lHead F  none (fun y0 => kend [BV.d (.arr 16 (.int .u8)) y0]) := by kernel_rfl
theorem lHead_contract  : Contract prog 40 lHead_orc := con_of (B0 := lHead_book0) zN zG mix_ok zT lHead_run (orcsOf_ok fz) (by kernel_rfl) (fun _ => rfl) lHead_loOk (fun x h => (lHead_plain  h).elim fun F hF => ⟨F, fun kend => hF none _⟩)
@[reducible] def lValue_ps  : List PM := [.d (.slc (.int .u8))]
def lValue_orc  : Orc := Orc.of lValue_ps true 0 fun x => (lValue_P x.1, [.d (.int .i64) (lValue_r x.1)])
@[reducible] def lValue_l1_T  : Tpl := { cur := ⟨[(3, .var (.int .i64)), (2, .var (.slc (.int .u8))), (0, .var (.int .i64)), (0, .var (.int .i64))], 10⟩, stk := [⟨[], 0⟩], heap := [] }
def lValue_orcs  : List (FuncId × Orc) := []
def lValue_book0  : Book := { Γ := gam, orc := orcsOf lValue_orcs, hint := hintsOf [(129, { keep := some [3, 6, 7, 8], keeps := [(3, [3, 6, 7, 8])], own := [], dat := [], stk := [] })] }
def lValue_l1_G (F : Nat) (nx : lValue_l1_T.T → ZO) (kq : ZK) (x : lValue_l1_T.T) : ZO := lValue_l1 F none (fun n s6 s7 s8 => nx ((n, (s6, (s7, (s8, ())))), (((), ()), ()))) (fun y0 y1 y2 y3 => kq (.exit 0) (lValue_l1_T.inst ((y0, (y1, (y2, (y3, ())))), (((), ()), ())))) x.1.1 x.1.2.1 x.1.2.2.1 x.1.2.2.2.1
def lValue_l1_R (F m : Nat) (x : lValue_l1_T.T) (kq : ZK) : ZO := lValue_l1F F none (fun y0 y1 y2 y3 => kq (.exit 0) (lValue_l1_T.inst ((y0, (y1, (y2, (y3, ())))), (((), ()), ())))) m x.1.1 x.1.2.1 x.1.2.2.1 x.1.2.2.2.1
def lValue_lo (F : Nat) : List (LoE Unit) := [⟨129, 3, LO.of lValue_l1_T (lValue_l1_R F F)⟩]
def lValue_book (F : Nat) : BookL Unit := { toBook := lValue_book0, lo := losOf (lValue_lo F), need := needsOf [] }
theorem lValue_l1_step (F : Nat) : LStep prog (lValue_book F) F 129 0 3 lValue_l1_T (lValue_l1_G F) := fun d x KQ => by kernel_rfl
theorem lValue_loOk (F : Nat) : LoOk prog (lValue_book F) F := loOk_of (l := lValue_lo F) rfl (fa (loOne_of 0 (by kernel_rfl) (by kernel_rfl) (lstep_run (lValue_l1_step F) (fun _ _ => rfl) (fun _ _ _ _ => rfl))) fz)
theorem lValue_run (F : Nat) (x : ArgsT lValue_ps) (kend : List BV → ZO) : runFnL prog (lValue_book F) F 20 129 (argsInst lValue_ps x) [.d (.int .i64)] kend = lValue F x.1 none (fun y0 => kend [BV.d (.int .i64) y0]) := by kernel_rfl
theorem lValue_contract  : Contract prog 129 lValue_orc := con_of (B0 := lValue_book0) zN zG mix_ok zT lValue_run (orcsOf_ok fz) (by kernel_rfl) (fun _ => rfl) lValue_loOk (fun x h => (lValue_plain x.1 h).elim fun F hF => ⟨F, fun kend => hF none _⟩)
@[reducible] def lEnd_ps  : List PM := [.d (.slc (.int .u8)), .d (.int .i64)]
def lEnd_orc  : Orc := Orc.of lEnd_ps true 0 fun x => (lEnd_P x.1 x.2.1, [.d (.arr 16 (.int .u8)) (lEnd_r x.1 x.2.1)])
@[reducible] def lEnd_l1_T  : Tpl := { cur := ⟨[(0, .sl 0), (0, .var (.int .i64)), (4, .var (.int .i64)), (0, .var (.int .i64))], 15⟩, stk := [⟨[(0, .var (.slc (.int .u8))), (3, .ptr 1 []), (0, .ptr 0 [])], 19⟩, ⟨[], 0⟩], heap := [.box (.var (.arr 16 (.int .u8))), .box (.var (.arr 16 (.int .u8)))] }
@[reducible] def lEnd_l2_T  : Tpl := { cur := ⟨[(0, .sl 0), (0, .var (.int .i64)), (4, .var (.int .i64)), (0, .var (.int .i64))], 15⟩, stk := [⟨[(0, .var (.slc (.int .u8))), (3, .ptr 1 []), (0, .ptr 0 []), (4, .sl 0)], 14⟩, ⟨[], 0⟩], heap := [.box (.var (.arr 16 (.int .u8))), .box (.var (.arr 16 (.int .u8)))] }
@[reducible] def lEnd_l3_T  : Tpl := { cur := ⟨[(0, .sl 0), (0, .var (.int .i64)), (4, .var (.int .i64)), (0, .var (.int .i64))], 15⟩, stk := [⟨[(0, .var (.slc (.int .u8))), (3, .ptr 1 []), (0, .ptr 0 []), (4, .sl 0), (8, .sl 0)], 5⟩, ⟨[], 0⟩], heap := [.box (.var (.arr 16 (.int .u8))), .box (.var (.arr 16 (.int .u8)))] }
def lEnd_orcs  : List (FuncId × Orc) := [(107, needed_orc), (110, cSum_orc)]
def lEnd_book0  : Book := { Γ := gam, orc := orcsOf lEnd_orcs, hint := hintsOf [(109, { keep := some [0, 1, 6, 7], keeps := [(1, [0, 1, 6, 7])], own := [], dat := [], stk := [[0, 4, 5, 10, 19]] })] }
def lEnd_l1_G (F : Nat) (nx : lEnd_l1_T.T → ZO) (kq : ZK) (x : lEnd_l1_T.T) : ZO := lEnd_l1 F none (fun to_i to_n n s6 s7 payload to s4 => nx (((to_i, to_n), (n, (s6, (s7, ())))), (((payload, ((), ((), ()))), ((), ())), (to, (s4, ()))))) (fun y0 y1 y2 y3 y4 y5 y6 y7 => kq (.exit 0) (lEnd_l1_T.inst (((y0, y1), (y2, (y3, (y4, ())))), (((y5, ((), ((), ()))), ((), ())), (y6, (y7, ())))))) x.1.1.1 x.1.1.2 x.1.2.1 x.1.2.2.1 x.1.2.2.2.1 x.2.1.1.1 x.2.2.1 x.2.2.2.1
def lEnd_l1_R (F m : Nat) (x : lEnd_l1_T.T) (kq : ZK) : ZO := lEnd_l1F F none (fun y0 y1 y2 y3 y4 y5 y6 y7 => kq (.exit 0) (lEnd_l1_T.inst (((y0, y1), (y2, (y3, (y4, ())))), (((y5, ((), ((), ()))), ((), ())), (y6, (y7, ())))))) m x.1.1.1 x.1.1.2 x.1.2.1 x.1.2.2.1 x.1.2.2.2.1 x.2.1.1.1 x.2.2.1 x.2.2.2.1
def lEnd_l2_G (F : Nat) (nx : lEnd_l2_T.T → ZO) (kq : ZK) (x : lEnd_l2_T.T) : ZO := lEnd_l2 F none (fun to_i to_n n s6 s7 payload s10_i s10_n to s4 => nx (((to_i, to_n), (n, (s6, (s7, ())))), (((payload, ((), ((), ((s10_i, s10_n), ())))), ((), ())), (to, (s4, ()))))) (fun y0 y1 y2 y3 y4 y5 y6 y7 y8 y9 => kq (.exit 0) (lEnd_l2_T.inst (((y0, y1), (y2, (y3, (y4, ())))), (((y5, ((), ((), ((y6, y7), ())))), ((), ())), (y8, (y9, ())))))) x.1.1.1 x.1.1.2 x.1.2.1 x.1.2.2.1 x.1.2.2.2.1 x.2.1.1.1 x.2.1.1.2.2.2.1.1 x.2.1.1.2.2.2.1.2 x.2.2.1 x.2.2.2.1
def lEnd_l2_R (F m : Nat) (x : lEnd_l2_T.T) (kq : ZK) : ZO := lEnd_l2F F none (fun y0 y1 y2 y3 y4 y5 y6 y7 y8 y9 => kq (.exit 0) (lEnd_l2_T.inst (((y0, y1), (y2, (y3, (y4, ())))), (((y5, ((), ((), ((y6, y7), ())))), ((), ())), (y8, (y9, ())))))) m x.1.1.1 x.1.1.2 x.1.2.1 x.1.2.2.1 x.1.2.2.2.1 x.2.1.1.1 x.2.1.1.2.2.2.1.1 x.2.1.1.2.2.2.1.2 x.2.2.1 x.2.2.2.1
def lEnd_l3_G (F : Nat) (nx : lEnd_l3_T.T → ZO) (kq : ZK) (x : lEnd_l3_T.T) : ZO := lEnd_l3 F none (fun to_i to_n n s6 s7 payload s10_i s10_n s19_i s19_n to s4 => nx (((to_i, to_n), (n, (s6, (s7, ())))), (((payload, ((), ((), ((s10_i, s10_n), ((s19_i, s19_n), ()))))), ((), ())), (to, (s4, ()))))) (fun y0 y1 y2 y3 y4 y5 y6 y7 y8 y9 y10 y11 => kq (.exit 0) (lEnd_l3_T.inst (((y0, y1), (y2, (y3, (y4, ())))), (((y5, ((), ((), ((y6, y7), ((y8, y9), ()))))), ((), ())), (y10, (y11, ())))))) x.1.1.1 x.1.1.2 x.1.2.1 x.1.2.2.1 x.1.2.2.2.1 x.2.1.1.1 x.2.1.1.2.2.2.1.1 x.2.1.1.2.2.2.1.2 x.2.1.1.2.2.2.2.1.1 x.2.1.1.2.2.2.2.1.2 x.2.2.1 x.2.2.2.1
def lEnd_l3_R (F m : Nat) (x : lEnd_l3_T.T) (kq : ZK) : ZO := lEnd_l3F F none (fun y0 y1 y2 y3 y4 y5 y6 y7 y8 y9 y10 y11 => kq (.exit 0) (lEnd_l3_T.inst (((y0, y1), (y2, (y3, (y4, ())))), (((y5, ((), ((), ((y6, y7), ((y8, y9), ()))))), ((), ())), (y10, (y11, ())))))) m x.1.1.1 x.1.1.2 x.1.2.1 x.1.2.2.1 x.1.2.2.2.1 x.2.1.1.1 x.2.1.1.2.2.2.1.1 x.2.1.1.2.2.2.1.2 x.2.1.1.2.2.2.2.1.1 x.2.1.1.2.2.2.2.1.2 x.2.2.1 x.2.2.2.1
def lEnd_lo (F : Nat) : List (LoE Unit) := [⟨109, 1, LO.orT lEnd_l1_T (lEnd_l1_R F F) (LO.orT lEnd_l2_T (lEnd_l2_R F F) (LO.of lEnd_l3_T (lEnd_l3_R F F)))⟩]
def lEnd_book (F : Nat) : BookL Unit := { toBook := lEnd_book0, lo := losOf (lEnd_lo F), need := needsOf [] }
theorem lEnd_l1_step (F : Nat) : LStep prog (lEnd_book F) F 109 0 1 lEnd_l1_T (lEnd_l1_G F) := fun d x KQ => by kernel_rfl
theorem lEnd_l2_step (F : Nat) : LStep prog (lEnd_book F) F 109 0 1 lEnd_l2_T (lEnd_l2_G F) := fun d x KQ => by kernel_rfl
theorem lEnd_l3_step (F : Nat) : LStep prog (lEnd_book F) F 109 0 1 lEnd_l3_T (lEnd_l3_G F) := fun d x KQ => by kernel_rfl
theorem lEnd_loOk (F : Nat) : LoOk prog (lEnd_book F) F := loOk_of (l := lEnd_lo F) rfl (fa (loOne_of 0 (by kernel_rfl) (by kernel_rfl) (loIs_orT (lstep_run (lEnd_l1_step F) (fun _ _ => rfl) (fun _ _ _ _ => rfl)) (loIs_orT (lstep_run (lEnd_l2_step F) (fun _ _ => rfl) (fun _ _ _ _ => rfl)) (lstep_run (lEnd_l3_step F) (fun _ _ => rfl) (fun _ _ _ _ => rfl))))) fz)
theorem lEnd_run (F : Nat) (x : ArgsT lEnd_ps) (kend : List BV → ZO) : runFnL prog (lEnd_book F) F 20 62 (argsInst lEnd_ps x) [.d (.arr 16 (.int .u8))] kend = lEnd F x.1 x.2.1 none (fun y0 => kend [BV.d (.arr 16 (.int .u8)) y0]) := by kernel_rfl
theorem lEnd_contract  : Contract prog 62 lEnd_orc := con_of (B0 := lEnd_book0) zN zG mix_ok zT lEnd_run (orcsOf_ok (fa needed_contract (fa cSum_contract fz))) (by kernel_rfl) (fun _ => rfl) lEnd_loOk (fun x h => (lEnd_plain x.1 x.2.1 h).elim fun F hF => ⟨F, fun kend => hF none _⟩)
@[reducible] def lWrite_ps  : List PM := [.d (.int .i64), .d (.slc (.arr 16 (.int .u8)))]
def lWrite_orc  : Orc := Orc.of lWrite_ps false 0 fun x => (lWrite_P x.1 x.2.1, [.d (.pair (.int .i64) (.pair (.int .i64) (.pair (.slc (.arr 16 (.int .u8))) .unit))) (lWrite_r x.1 x.2.1)])
def lWrite_orcs  : List (FuncId × Orc) := []
def lWrite_book0  : Book := { Γ := gam, orc := orcsOf lWrite_orcs, hint := hintsOf [] }
def lWrite_lo (F : Nat) : List (LoE Unit) := []
def lWrite_book (F : Nat) : BookL Unit := { toBook := lWrite_book0, lo := losOf (lWrite_lo F), need := needsOf [] }
theorem lWrite_loOk (F : Nat) : LoOk prog (lWrite_book F) F := loOk_of (l := lWrite_lo F) rfl fz
theorem lWrite_run (F : Nat) (x : ArgsT lWrite_ps) (kend : List BV → ZO) : runFnL prog (lWrite_book F) F 20 60 (argsInst lWrite_ps x) [.d (.pair (.int .i64) (.pair (.int .i64) (.pair (.slc (.arr 16 (.int .u8))) .unit)))] kend = lWrite F x.1 x.2.1 none (fun y0 => kend [BV.d (.pair (.int .i64) (.pair (.int .i64) (.pair (.slc (.arr 16 (.int .u8))) .unit))) y0]) := by kernel_rfl
theorem lWrite_contract  : Contract prog 60 lWrite_orc := con_of (B0 := lWrite_book0) zN zG mix_ok zT lWrite_run (orcsOf_ok fz) (by kernel_rfl) (fun _ => rfl) lWrite_loOk (fun x h => (lWrite_plain x.1 x.2.1 h).elim fun F hF => ⟨F, fun kend => hF none _⟩)
@[reducible] def lSync_ps  : List PM := []
def lSync_orc  : Orc := Orc.of lSync_ps false 0 fun x => (lSync_P, [.d (.pair (.int .i64) (.pair (.int .i64) (.pair (.slc (.arr 16 (.int .u8))) .unit))) (lSync_r)])
def lSync_orcs  : List (FuncId × Orc) := []
def lSync_book0  : Book := { Γ := gam, orc := orcsOf lSync_orcs, hint := hintsOf [] }
def lSync_lo (F : Nat) : List (LoE Unit) := []
def lSync_book (F : Nat) : BookL Unit := { toBook := lSync_book0, lo := losOf (lSync_lo F), need := needsOf [] }
theorem lSync_loOk (F : Nat) : LoOk prog (lSync_book F) F := loOk_of (l := lSync_lo F) rfl fz
theorem lSync_run (F : Nat) (x : ArgsT lSync_ps) (kend : List BV → ZO) : runFnL prog (lSync_book F) F 20 61 (argsInst lSync_ps x) [.d (.pair (.int .i64) (.pair (.int .i64) (.pair (.slc (.arr 16 (.int .u8))) .unit)))] kend = lSync F  none (fun y0 => kend [BV.d (.pair (.int .i64) (.pair (.int .i64) (.pair (.slc (.arr 16 (.int .u8))) .unit))) y0]) := by kernel_rfl
theorem lSync_contract  : Contract prog 61 lSync_orc := con_of (B0 := lSync_book0) zN zG mix_ok zT lSync_run (orcsOf_ok fz) (by kernel_rfl) (fun _ => rfl) lSync_loOk (fun x h => (lSync_plain  h).elim fun F hF => ⟨F, fun kend => hF none _⟩)
@[reducible] def cfB_0_l1_T  : Tpl := { cur := ⟨[(0, .var (.slc (.int .u8))), (0, .fn 132 (.un)), (2, .var (.int .i64)), (2, .var (.int .i64)), (0, .var (.int .i64))], 10⟩, stk := [⟨[], 9⟩, ⟨[], 0⟩], heap := [] }
def cfB_0_orcs  : List (FuncId × Orc) := []
def cfB_0_book0  : Book := { Γ := gam, orc := orcsOf cfB_0_orcs, hint := hintsOf [(151, { keep := some [0, 1, 4, 7, 8], keeps := [(2, [0, 1, 4, 7, 8])], own := [], dat := [], stk := [[]] })] }
def cfB_0_l1_G (F : Nat) (nx : cfB_0_l1_T.T → ZO) (kq : ZK) (x : cfB_0_l1_T.T) : ZO := cfB_0_l1 F none (fun s s4 s7 s8 => nx ((s, ((), (s4, (s7, (s8, ()))))), (((), ((), ())), ()))) (fun y0 y1 y2 y3 => kq .ret (cfB_0_l1_T.inst ((y0, ((), (y1, (y2, (y3, ()))))), (((), ((), ())), ())))) (fun y0 y1 y2 y3 => kq (.exit 0) (cfB_0_l1_T.inst ((y0, ((), (y1, (y2, (y3, ()))))), (((), ((), ())), ())))) x.1.1 x.1.2.2.1 x.1.2.2.2.1 x.1.2.2.2.2.1
def cfB_0_l1_R (F m : Nat) (x : cfB_0_l1_T.T) (kq : ZK) : ZO := cfB_0_l1F F none (fun y0 y1 y2 y3 => kq .ret (cfB_0_l1_T.inst ((y0, ((), (y1, (y2, (y3, ()))))), (((), ((), ())), ())))) (fun y0 y1 y2 y3 => kq (.exit 0) (cfB_0_l1_T.inst ((y0, ((), (y1, (y2, (y3, ()))))), (((), ((), ())), ())))) m x.1.1 x.1.2.2.1 x.1.2.2.2.1 x.1.2.2.2.2.1
def cfB_0_lo (F : Nat) : List (LoE Unit) := [⟨151, 2, LO.of cfB_0_l1_T (cfB_0_l1_R F F)⟩]
def cfB_0_book (F : Nat) : BookL Unit := { toBook := cfB_0_book0, lo := losOf (cfB_0_lo F), need := needsOf [(151, 1)] }
theorem cfB_0_l1_step (F : Nat) : LStep prog (cfB_0_book F) F 151 0 2 cfB_0_l1_T (cfB_0_l1_G F) := fun d x KQ => by kernel_rfl
theorem cfB_0_loOk (F : Nat) : LoOk prog (cfB_0_book F) F := loOk_of (l := cfB_0_lo F) rfl (fa (loOne_of 0 (by kernel_rfl) (by kernel_rfl) (lstep_run (cfB_0_l1_step F) (fun _ _ => rfl) (fun _ _ _ _ => rfl))) fz)
theorem cfB_0_run (F : Nat) (s : ZB) (kend : List BV → ZO) : runFnL prog (cfB_0_book F) F 20 131 [.d (.slc (.int .u8)) s, .f 132] [.d .bool] kend = cfB_0 F s none (fun y0 => kend [BV.d .bool y0]) := by kernel_rfl
theorem cfB_0_contract  : Contract prog 131 (Orc.of [.d (.slc (.int .u8)), .f] true 0 fun x => ((Nat.beq x.2.1 132) && cfB_P x.1 x.2.1, [.d .bool (cfB_r x.1 x.2.1)])) := contract_of_runL (B0 := cfB_0_book0) zN zG mix_ok zT (orcsOf_ok fz) (by kernel_rfl) (fun x h => by
 obtain ⟨x0, x1, _⟩ := x
 simp only [Bool.and_eq_true] at h
 obtain ⟨e, h⟩ := h
 have e := Nat.eq_of_beq_eq_true e
 subst e
 obtain ⟨F, hF⟩ := cfB_0_plain x0 h
 exact ⟨F, 20, cfB_0_book F, rfl, cfB_0_loOk F, fun kend => (cfB_0_run F x0 kend).trans (hF none (fun y0 => kend [BV.d .bool y0]))⟩)
def cfB_orc  : Orc := Orc.of [.d (.slc (.int .u8)), .f] true 0 fun x => ((Nat.beq x.2.1 132) && cfB_P x.1 x.2.1, [.d .bool (cfB_r x.1 x.2.1)])
theorem cfB_contract  : Contract prog 131 cfB_orc := contract_cases cfB_0_contract.1 (fun x h => by
 obtain ⟨x0, x1, _⟩ := x
 simp only [Bool.and_eq_true] at h
 obtain ⟨e, _⟩ := h
 rcases e with e
 ·have e := Nat.eq_of_beq_eq_true e
  subst e
  exact ⟨_, cfB_0_contract, rfl⟩)
@[reducible] def lFormat_ps  : List PM := [.d (.int .i64)]
def lFormat_orc  : Orc := Orc.of lFormat_ps false 0 fun x => (lFormat_P x.1, [.d (.pair (.int .i64) (.pair (.int .i64) (.pair (.int .i64) .unit))) (lFormat_r0 x.1), .d (.slc (.pair (.int .i64) (.pair (.int .i64) (.pair (.slc (.arr 16 (.int .u8))) .unit)))) (lFormat_r1 x.1), .d (.int .i64) (lFormat_r2 x.1)])
def lFormat_orcs  : List (FuncId × Orc) := [(40, lHead_orc), (60, lWrite_orc), (61, lSync_orc)]
def lFormat_book0  : Book := { Γ := gam, orc := orcsOf lFormat_orcs, hint := hintsOf [] }
def lFormat_lo (F : Nat) : List (LoE Unit) := []
def lFormat_book (F : Nat) : BookL Unit := { toBook := lFormat_book0, lo := losOf (lFormat_lo F), need := needsOf [] }
theorem lFormat_loOk (F : Nat) : LoOk prog (lFormat_book F) F := loOk_of (l := lFormat_lo F) rfl fz
theorem lFormat_run (F : Nat) (x : ArgsT lFormat_ps) (kend : List BV → ZO) : runFnL prog (lFormat_book F) F 20 83 (argsInst lFormat_ps x) [.d (.pair (.int .i64) (.pair (.int .i64) (.pair (.int .i64) .unit))), .d (.slc (.pair (.int .i64) (.pair (.int .i64) (.pair (.slc (.arr 16 (.int .u8))) .unit)))), .d (.int .i64)] kend = lFormat F x.1 none (fun y0 y1 y2 => kend [BV.d (.pair (.int .i64) (.pair (.int .i64) (.pair (.int .i64) .unit))) y0, BV.d (.slc (.pair (.int .i64) (.pair (.int .i64) (.pair (.slc (.arr 16 (.int .u8))) .unit)))) y1, BV.d (.int .i64) y2]) := by kernel_rfl
theorem lFormat_contract  : Contract prog 83 lFormat_orc := con_of (B0 := lFormat_book0) zN zG mix_ok zT lFormat_run (orcsOf_ok (fa lHead_contract (fa lWrite_contract (fa lSync_contract fz)))) (by kernel_rfl) (fun _ => rfl) lFormat_loOk (fun x h => (lFormat_plain x.1 h).elim fun F hF => ⟨F, fun kend => hF none _⟩)
@[reducible] def lAppend_ps  : List PM := [.d (.pair (.int .i64) (.pair (.int .i64) (.pair (.int .i64) .unit))), .d (.slc (.int .u8))]
def lAppend_orc  : Orc := Orc.of lAppend_ps false 0 fun x => (lAppend_P x.1 x.2.1, [.d (.pair (.int .i64) (.pair (.int .i64) (.pair (.int .i64) .unit))) (lAppend_r0 x.1 x.2.1), .d (.slc (.pair (.int .i64) (.pair (.int .i64) (.pair (.slc (.arr 16 (.int .u8))) .unit)))) (lAppend_r1 x.1 x.2.1), .d (.int .i64) (lAppend_r2 x.1 x.2.1)])
@[reducible] def lAppend_l1_T  : Tpl := { cur := ⟨[(0, .hnd .yield 0), (0, .ptr 5 []), (0, .ptr 6 []), (1, .var (.int .i64))], 26⟩, stk := [⟨[(0, .hnd .yield 0)], 0⟩, ⟨[(2, .ptr 1 [])], 13⟩, ⟨[(0, .hnd .yield 2)], 0⟩, ⟨[(1, .var (.slc (.int .u8))), (0, .ptr 7 []), (1, .ptr 8 []), (0, .nils), (0, .var (.int .i64)), (1, .var (.int .i64)), (0, .nils), (0, .ptr 3 [])], 66⟩, ⟨[], 0⟩], heap := [.lp 108 2 ⟨[(2, .ptr 1 [])], 13⟩ .ready, .box (.hnd .yield 2), .lp 26 13 ⟨[(10, .ptr 3 [])], 66⟩ .ready, .box (.row 4), .row 93 (.arr 16 (.int .u8)) false, .box (.var (.slc (.int .u8))), .box (.var (.int .i64)), .box (.var (.pair (.int .i64) (.pair (.int .i64) (.pair (.int .i64) .unit)))), .box (.var (.pair (.int .i64) (.pair (.int .i64) (.pair (.int .i64) .unit))))] }
def lAppend_orcs  : List (FuncId × Orc) := [(24, lCheck_orc), (58, lPages_orc), (60, lWrite_orc), (61, lSync_orc), (62, lEnd_orc)]
def lAppend_book0  : Book := { Γ := gam, orc := orcsOf lAppend_orcs, hint := hintsOf [(26, { keep := some [], keeps := [], own := [], dat := [], stk := [], rgb := [(5012, [(10, 0, 36)])] }), (142, { keep := some [0, 1, 2, 4], keeps := [(1, [0, 1, 2, 4])], own := [], dat := [], stk := [[0], [2, 3, 4, 7, 15], [0], [1, 2, 4, 5, 6, 8, 9, 10, 11, 40, 45, 49, 63, 64, 67, 73]] })] }
def lAppend_l1_G (F : Nat) (nx : lAppend_l1_T.T → ZO) (kq : ZK) (x : lAppend_l1_T.T) : ZO := lAppend_l1 F none (fun i payload s6 n parts s1 s2 l s4 => nx (((), ((), ((), (i, ())))), ((((), ()), (((), ()), (((), ()), ((payload, ((), ((), ((), (s6, (n, ((), ((), ())))))))), ((), ()))))), (((), ()), ((), (((), ()), ((), (parts, (s1, (s2, (l, (s4, ())))))))))))) (fun y0 y1 y2 y3 y4 y5 y6 y7 y8 => kq (.exit 0) (lAppend_l1_T.inst (((), ((), ((), (y0, ())))), ((((), ()), (((), ()), (((), ()), ((y1, ((), ((), ((), (y2, (y3, ((), ((), ())))))))), ((), ()))))), (((), ()), ((), (((), ()), ((), (y4, (y5, (y6, (y7, (y8, ()))))))))))))) x.1.2.2.2.1 x.2.1.2.2.2.1.1 x.2.1.2.2.2.1.2.2.2.2.1 x.2.1.2.2.2.1.2.2.2.2.2.1 x.2.2.2.2.2.2.1 x.2.2.2.2.2.2.2.1 x.2.2.2.2.2.2.2.2.1 x.2.2.2.2.2.2.2.2.2.1 x.2.2.2.2.2.2.2.2.2.2.1
def lAppend_l1_R (F m : Nat) (x : lAppend_l1_T.T) (kq : ZK) : ZO := lAppend_l1F F none (fun y0 y1 y2 y3 y4 y5 y6 y7 y8 => kq (.exit 0) (lAppend_l1_T.inst (((), ((), ((), (y0, ())))), ((((), ()), (((), ()), (((), ()), ((y1, ((), ((), ((), (y2, (y3, ((), ((), ())))))))), ((), ()))))), (((), ()), ((), (((), ()), ((), (y4, (y5, (y6, (y7, (y8, ()))))))))))))) m x.1.2.2.2.1 x.2.1.2.2.2.1.1 x.2.1.2.2.2.1.2.2.2.2.1 x.2.1.2.2.2.1.2.2.2.2.2.1 x.2.2.2.2.2.2.1 x.2.2.2.2.2.2.2.1 x.2.2.2.2.2.2.2.2.1 x.2.2.2.2.2.2.2.2.2.1 x.2.2.2.2.2.2.2.2.2.2.1
def lAppend_lo (F : Nat) : List (LoE Unit) := [⟨142, 1, LO.of lAppend_l1_T (lAppend_l1_R F F)⟩]
def lAppend_book (F : Nat) : BookL Unit := { toBook := lAppend_book0, lo := losOf (lAppend_lo F), need := needsOf [(142, 2)] }
theorem lAppend_l1_step (F : Nat) : LStep prog (lAppend_book F) F 142 0 1 lAppend_l1_T (lAppend_l1_G F) := fun d x KQ => by kernel_rfl
theorem lAppend_loOk (F : Nat) : LoOk prog (lAppend_book F) F := loOk_of (l := lAppend_lo F) rfl (fa (loOne_of 0 (by kernel_rfl) (by kernel_rfl) (lstep_run (lAppend_l1_step F) (fun _ _ => rfl) (fun _ _ _ _ => rfl))) fz)
theorem lAppend_run (F : Nat) (x : ArgsT lAppend_ps) (kend : List BV → ZO) : runFnL prog (lAppend_book F) F 20 26 (argsInst lAppend_ps x) [.d (.pair (.int .i64) (.pair (.int .i64) (.pair (.int .i64) .unit))), .d (.slc (.pair (.int .i64) (.pair (.int .i64) (.pair (.slc (.arr 16 (.int .u8))) .unit)))), .d (.int .i64)] kend = lAppend F x.1 x.2.1 none (fun y0 y1 y2 => kend [BV.d (.pair (.int .i64) (.pair (.int .i64) (.pair (.int .i64) .unit))) y0, BV.d (.slc (.pair (.int .i64) (.pair (.int .i64) (.pair (.slc (.arr 16 (.int .u8))) .unit)))) y1, BV.d (.int .i64) y2]) := by kernel_rfl
theorem lAppend_contract  : Contract prog 26 lAppend_orc := con_of (B0 := lAppend_book0) zN zG mix_ok zT lAppend_run (orcsOf_ok (fa lCheck_contract (fa lPages_contract (fa lWrite_contract (fa lSync_contract (fa lEnd_contract fz)))))) (by kernel_rfl) (fun _ => rfl) lAppend_loOk (fun x h => (lAppend_plain x.1 x.2.1 h).elim fun F hF => ⟨F, fun kend => hF none _⟩)
@[reducible] def lScan_ps  : List PM := [.d (.slc (.arr 16 (.int .u8))), .d (.int .i64)]
def lScan_orc  : Orc := Orc.of lScan_ps false 0 fun x => (lScan_P x.1 x.2.1, [.d (.slc (.slc (.int .u8))) (lScan_r0 x.1 x.2.1), .d (.int .i64) (lScan_r1 x.1 x.2.1)])
@[reducible] def lScan_l2_T  : Tpl := { cur := ⟨[(0, .ptr 0 []), (0, .var (.int .i64)), (2, .ptr 1 []), (0, .ptr 3 []), (0, .ptr 4 []), (0, .var (.int .i64))], 63⟩, stk := [⟨[(0, .ptr 1 []), (0, .ptr 3 [])], 0⟩, ⟨[(0, .var (.slc (.arr 16 (.int .u8)))), (0, .var (.int .i64)), (2, .nils), (0, .var (.int .i64)), (0, .row 5), (0, .ptr 0 []), (0, .var (.int .i64))], 36⟩, ⟨[], 0⟩], heap := [.box (.var (.pair (.slc (.arr 16 (.int .u8))) .unit)), .box (.row 2), .row 5 (.int .u8) false, .box (.var .bool), .box (.var (.arr 16 (.int .u8))), .row 24 (.slc (.int .u8)) false] }
@[reducible] def lScan_l1_T  : Tpl := { cur := ⟨[(0, .var (.slc (.arr 16 (.int .u8)))), (0, .var (.int .i64)), (2, .nils), (0, .var (.int .i64)), (0, .row 0), (0, .ptr 1 [])], 37⟩, stk := [⟨[], 0⟩], heap := [.row 24 (.slc (.int .u8)) false, .box (.var (.pair (.slc (.arr 16 (.int .u8))) .unit))] }
@[reducible] def lScan_l1_T0  : Tpl := { cur := ⟨[(0, .var (.slc (.arr 16 (.int .u8)))), (0, .var (.int .i64)), (2, .row 0), (0, .var (.int .i64)), (0, .row 0), (0, .ptr 1 [])], 37⟩, stk := [⟨[], 0⟩], heap := [.row 24 (.slc (.int .u8)) false, .box (.var (.pair (.slc (.arr 16 (.int .u8))) .unit))] }
def lScan_orcs  : List (FuncId × Orc) := [(107, needed_orc), (110, cSum_orc), (129, lValue_orc), (131, cfB_orc)]
def lScan_book0  : Book := { Γ := gam, orc := orcsOf lScan_orcs, hint := hintsOf [(41, { keep := some [0, 1, 4, 5, 6, 7], keeps := [(5, [0, 1, 4, 5, 6, 7])], own := [(6, 51)], dat := [], stk := [] }), (88, { keep := some [0, 1, 4, 5, 6, 7], keeps := [(4, [0, 1, 4, 5, 6, 7])], own := [], dat := [], stk := [[0, 1, 2, 3, 4, 5, 6, 7], [0, 1, 4, 5, 6, 7, 8]], rgb := [(5002, [(4, 0, 24)])] })], rcv := rcvs }
def lScan_l2_G (F : Nat) (nx : lScan_l2_T.T → ZO) (kq : ZK) (x : lScan_l2_T.T) : ZO := lScan_l2 F none (fun number count l first s5 left r payload ok p out => nx (((), (number, ((), ((), ((), (count, ())))))), ((((), ((), ())), ((l, (first, ((), (s5, ((), ((), (left, ()))))))), ((), ()))), (r, ((), (payload, (ok, (p, (out, ()))))))))) (fun y0 y1 y2 y3 y4 y5 y6 y7 y8 y9 y10 => kq (.panic 186) (lScan_l2_T.inst (((), (y0, ((), ((), ((), (y1, ())))))), ((((), ((), ())), ((y2, (y3, ((), (y4, ((), ((), (y5, ()))))))), ((), ()))), (y6, ((), (y7, (y8, (y9, (y10, ())))))))))) (fun y0 y1 y2 y3 y4 y5 y6 y7 y8 y9 y10 => kq (.exit 0) (lScan_l2_T.inst (((), (y0, ((), ((), ((), (y1, ())))))), ((((), ((), ())), ((y2, (y3, ((), (y4, ((), ((), (y5, ()))))))), ((), ()))), (y6, ((), (y7, (y8, (y9, (y10, ())))))))))) x.1.2.1 x.1.2.2.2.2.2.1 x.2.1.2.1.1 x.2.1.2.1.2.1 x.2.1.2.1.2.2.2.1 x.2.1.2.1.2.2.2.2.2.2.1 x.2.2.1 x.2.2.2.2.1 x.2.2.2.2.2.1 x.2.2.2.2.2.2.1 x.2.2.2.2.2.2.2.1
def lScan_l2_R (F m : Nat) (x : lScan_l2_T.T) (kq : ZK) : ZO := lScan_l2F F none (fun y0 y1 y2 y3 y4 y5 y6 y7 y8 y9 y10 => kq (.panic 186) (lScan_l2_T.inst (((), (y0, ((), ((), ((), (y1, ())))))), ((((), ((), ())), ((y2, (y3, ((), (y4, ((), ((), (y5, ()))))))), ((), ()))), (y6, ((), (y7, (y8, (y9, (y10, ())))))))))) (fun y0 y1 y2 y3 y4 y5 y6 y7 y8 y9 y10 => kq (.exit 0) (lScan_l2_T.inst (((), (y0, ((), ((), ((), (y1, ())))))), ((((), ((), ())), ((y2, (y3, ((), (y4, ((), ((), (y5, ()))))))), ((), ()))), (y6, ((), (y7, (y8, (y9, (y10, ())))))))))) m x.1.2.1 x.1.2.2.2.2.2.1 x.2.1.2.1.1 x.2.1.2.1.2.1 x.2.1.2.1.2.2.2.1 x.2.1.2.1.2.2.2.2.2.2.1 x.2.2.1 x.2.2.2.2.1 x.2.2.2.2.2.1 x.2.2.2.2.2.2.1 x.2.2.2.2.2.2.2.1
def lScan_l1_G (F : Nat) (nx : lScan_l1_T.T → ZO) (kq : ZK) (x : lScan_l1_T.T) : ZO := lScan_l1 F none (fun l first s5 out r => nx ((l, (first, ((), (s5, ((), ((), ())))))), (((), ()), (out, (r, ()))))) (fun y0 y1 y2 y3 y4 => kq .ret (lScan_l1_T0.inst ((y0, (y1, ((), (y2, ((), ((), ())))))), (((), ()), (y3, (y4, ())))))) x.1.1 x.1.2.1 x.1.2.2.2.1 x.2.2.1 x.2.2.2.1
def lScan_l1_R (F m : Nat) (x : lScan_l1_T.T) (kq : ZK) : ZO := lScan_l1F F none (fun y0 y1 y2 y3 y4 => kq .ret (lScan_l1_T0.inst ((y0, (y1, ((), (y2, ((), ((), ())))))), (((), ()), (y3, (y4, ())))))) m x.1.1 x.1.2.1 x.1.2.2.2.1 x.2.2.1 x.2.2.2.1
def lScan_lo (F : Nat) : List (LoE Unit) := [⟨88, 4, LO.of lScan_l2_T (lScan_l2_R F F)⟩,
 ⟨41, 5, LO.of lScan_l1_T (lScan_l1_R F F)⟩]
def lScan_book (F : Nat) : BookL Unit := { toBook := lScan_book0, lo := losOf (lScan_lo F), need := needsOf [(41, 3), (88, 2)] }
theorem lScan_l2_step (F : Nat) : LStep prog (lScan_book F) F 88 0 4 lScan_l2_T (lScan_l2_G F) := fun d x KQ => by kernel_rfl
theorem lScan_l1_step (F : Nat) : LStep prog (lScan_book F) F 41 0 5 lScan_l1_T (lScan_l1_G F) := fun d x KQ => by kernel_rfl
theorem lScan_loOk (F : Nat) : LoOk prog (lScan_book F) F := loOk_of (l := lScan_lo F) rfl (fa (loOne_of 0 (by kernel_rfl) (by kernel_rfl) (lstep_run (lScan_l2_step F) (fun _ _ => rfl) (fun _ _ _ _ => rfl))) (fa (loOne_of 0 (by kernel_rfl) (by kernel_rfl) (lstep_run (lScan_l1_step F) (fun _ _ => rfl) (fun _ _ _ _ => rfl))) fz))
theorem lScan_run (F : Nat) (x : ArgsT lScan_ps) (kend : List BV → ZO) : runFnL prog (lScan_book F) F 20 41 (argsInst lScan_ps x) [.d (.slc (.slc (.int .u8))), .d (.int .i64)] kend = lScan F x.1 x.2.1 none (fun y0 y1 => kend [BV.d (.slc (.slc (.int .u8))) y0, BV.d (.int .i64) y1]) := by kernel_rfl
theorem lScan_contract  : Contract prog 41 lScan_orc := con_of (B0 := lScan_book0) zN zG mix_ok zT lScan_run (orcsOf_ok (fa needed_contract (fa cSum_contract (fa lValue_contract (fa cfB_contract fz))))) (by kernel_rfl) (fun _ => rfl) lScan_loOk (fun x h => (lScan_plain x.1 x.2.1 h).elim fun F hF => ⟨F, fun kend => hF none _⟩) (hR := rcvs_ok)
@[reducible] def lOpen_ps  : List PM := [.d (.pair (.slc (.arr 16 (.int .u8))) (.pair (.slc (.pair (.int .i64) (.pair (.arr 16 (.int .u8)) .unit))) .unit))]
def lOpen_orc  : Orc := Orc.of lOpen_ps false 0 fun x => (lOpen_P x.1, [.d (.pair (.int .i64) (.pair (.int .i64) (.pair (.int .i64) .unit))) (lOpen_r0 x.1), .d (.slc (.slc (.int .u8))) (lOpen_r1 x.1), .d (.int .i64) (lOpen_r2 x.1)])
def lOpen_orcs  : List (FuncId × Orc) := [(39, dRead_orc), (40, lHead_orc), (41, lScan_orc)]
def lOpen_book0  : Book := { Γ := gam, orc := orcsOf lOpen_orcs, hint := hintsOf [] }
def lOpen_lo (F : Nat) : List (LoE Unit) := []
def lOpen_book (F : Nat) : BookL Unit := { toBook := lOpen_book0, lo := losOf (lOpen_lo F), need := needsOf [] }
theorem lOpen_loOk (F : Nat) : LoOk prog (lOpen_book F) F := loOk_of (l := lOpen_lo F) rfl fz
theorem lOpen_run (F : Nat) (x : ArgsT lOpen_ps) (kend : List BV → ZO) : runFnL prog (lOpen_book F) F 20 19 (argsInst lOpen_ps x) [.d (.pair (.int .i64) (.pair (.int .i64) (.pair (.int .i64) .unit))), .d (.slc (.slc (.int .u8))), .d (.int .i64)] kend = lOpen F x.1 none (fun y0 y1 y2 => kend [BV.d (.pair (.int .i64) (.pair (.int .i64) (.pair (.int .i64) .unit))) y0, BV.d (.slc (.slc (.int .u8))) y1, BV.d (.int .i64) y2]) := by kernel_rfl
theorem lOpen_contract  : Contract prog 19 lOpen_orc := con_of (B0 := lOpen_book0) zN zG mix_ok zT lOpen_run (orcsOf_ok (fa dRead_contract (fa lHead_contract (fa lScan_contract fz)))) (by kernel_rfl) (fun _ => rfl) lOpen_loOk (fun x h => (lOpen_plain x.1 h).elim fun F hF => ⟨F, fun kend => hF none _⟩)
end Go.AI
namespace Go.AI
open Go
open Go.Proofs.Tryz (prog)
set_option linter.unusedVariables false
@[reducible] def tCheck_ps  : List PM := [.d (.slc (.pair (.int .i64) (.pair (.slc (.int .u8)) .unit)))]
def tCheck_orc  : Orc := Orc.of tCheck_ps true 0 fun x => (tCheck_P x.1, [.d (.int .i64) (tCheck_r x.1)])
@[reducible] def tCheck_l1_T  : Tpl := { cur := ⟨[(2, .var (.int .i64)), (5, .var (.slc (.pair (.int .i64) (.pair (.slc (.int .u8)) .unit)))), (0, .var (.int .i64)), (0, .var (.int .i64))], 14⟩, stk := [⟨[], 0⟩], heap := [] }
def tCheck_orcs  : List (FuncId × Orc) := []
def tCheck_book0  : Book := { Γ := gam, orc := orcsOf tCheck_orcs, hint := hintsOf [(37, { keep := some [2, 8, 9, 10], keeps := [(4, [2, 8, 9, 10])], own := [], dat := [], stk := [] })] }
def tCheck_l1_G (F : Nat) (nx : tCheck_l1_T.T → ZO) (kq : ZK) (x : tCheck_l1_T.T) : ZO := tCheck_l1 F none (fun s2 s8 s9 s10 => nx ((s2, (s8, (s9, (s10, ())))), (((), ()), ()))) (fun y0 y1 y2 y3 => kq .ret (tCheck_l1_T.inst ((y0, (y1, (y2, (y3, ())))), (((), ()), ())))) (fun y0 y1 y2 y3 => kq (.exit 0) (tCheck_l1_T.inst ((y0, (y1, (y2, (y3, ())))), (((), ()), ())))) x.1.1 x.1.2.1 x.1.2.2.1 x.1.2.2.2.1
def tCheck_l1_R (F m : Nat) (x : tCheck_l1_T.T) (kq : ZK) : ZO := tCheck_l1F F none (fun y0 y1 y2 y3 => kq .ret (tCheck_l1_T.inst ((y0, (y1, (y2, (y3, ())))), (((), ()), ())))) (fun y0 y1 y2 y3 => kq (.exit 0) (tCheck_l1_T.inst ((y0, (y1, (y2, (y3, ())))), (((), ()), ())))) m x.1.1 x.1.2.1 x.1.2.2.1 x.1.2.2.2.1
def tCheck_lo (F : Nat) : List (LoE Unit) := [⟨37, 4, LO.of tCheck_l1_T (tCheck_l1_R F F)⟩]
def tCheck_book (F : Nat) : BookL Unit := { toBook := tCheck_book0, lo := losOf (tCheck_lo F), need := needsOf [(37, 1)] }
theorem tCheck_l1_step (F : Nat) : LStep prog (tCheck_book F) F 37 0 4 tCheck_l1_T (tCheck_l1_G F) := fun d x KQ => by kernel_rfl
theorem tCheck_loOk (F : Nat) : LoOk prog (tCheck_book F) F := loOk_of (l := tCheck_lo F) rfl (fa (loOne_of 0 (by kernel_rfl) (by kernel_rfl) (lstep_run (tCheck_l1_step F) (fun _ _ => rfl) (fun _ _ _ _ => rfl))) fz)
theorem tCheck_run (F : Nat) (x : ArgsT tCheck_ps) (kend : List BV → ZO) : runFnL prog (tCheck_book F) F 20 37 (argsInst tCheck_ps x) [.d (.int .i64)] kend = tCheck F x.1 none (fun y0 => kend [BV.d (.int .i64) y0]) := by kernel_rfl
theorem tCheck_contract  : Contract prog 37 tCheck_orc := con_of (B0 := tCheck_book0) zN zG mix_ok zT tCheck_run (orcsOf_ok fz) (by kernel_rfl) (fun _ => rfl) tCheck_loOk (fun x h => (tCheck_plain x.1 h).elim fun F hF => ⟨F, fun kend => hF none _⟩)
def tputI_0_orcs  : List (FuncId × Orc) := [(51, wire_PutInt_orc)]
def tputI_0_book0  : Book := { Γ := gam, orc := orcsOf tputI_0_orcs, hint := hintsOf [] }
def tputI_0_lo (F : Nat) : List (LoE Unit) := []
def tputI_0_book (F : Nat) : BookL Unit := { toBook := tputI_0_book0, lo := losOf (tputI_0_lo F), need := needsOf [] }
theorem tputI_0_loOk (F : Nat) : LoOk prog (tputI_0_book F) F := loOk_of (l := tputI_0_lo F) rfl fz
theorem tputI_0_run (F : Nat) (b : ZB) (x_ : Int) (kend : List BV → ZO) : runFnL prog (tputI_0_book F) F 20 50 [.d (.slc (.int .u8)) b, .f 51, .d (.int .i64) x_] [.o 5 (.int .u8)] kend = tputI_0 F b x_ none (fun y0 => kend [BV.o 5 (.int .u8) y0]) := by kernel_rfl
theorem tputI_0_contract  : Contract prog 50 (Orc.of [.d (.slc (.int .u8)), .f, .d (.int .i64)] true 1 fun x => ((Nat.beq x.2.1 51) && tputI_P x.1 x.2.1 x.2.2.1, [.o 5 (.int .u8) (tputI_r x.1 x.2.1 x.2.2.1)])) := contract_of_runL (B0 := tputI_0_book0) zN zG mix_ok zT (orcsOf_ok (fa wire_PutInt_contract fz)) (by kernel_rfl) (fun x h => by
 obtain ⟨x0, x1, x2, _⟩ := x
 simp only [Bool.and_eq_true] at h
 obtain ⟨e, h⟩ := h
 have e := Nat.eq_of_beq_eq_true e
 subst e
 obtain ⟨F, hF⟩ := tputI_0_plain x0 x2 h
 exact ⟨F, 20, tputI_0_book F, rfl, tputI_0_loOk F, fun kend => (tputI_0_run F x0 x2 kend).trans (hF none (fun y0 => kend [BV.o 5 (.int .u8) y0]))⟩)
def tputI_orc  : Orc := Orc.of [.d (.slc (.int .u8)), .f, .d (.int .i64)] true 1 fun x => ((Nat.beq x.2.1 51) && tputI_P x.1 x.2.1 x.2.2.1, [.o 5 (.int .u8) (tputI_r x.1 x.2.1 x.2.2.1)])
theorem tputI_contract  : Contract prog 50 tputI_orc := contract_cases tputI_0_contract.1 (fun x h => by
 obtain ⟨x0, x1, x2, _⟩ := x
 simp only [Bool.and_eq_true] at h
 obtain ⟨e, _⟩ := h
 rcases e with e
 ·have e := Nat.eq_of_beq_eq_true e
  subst e
  exact ⟨_, tputI_0_contract, rfl⟩)
def tputB_0_orcs  : List (FuncId × Orc) := [(53, wire_PutBytes_orc)]
def tputB_0_book0  : Book := { Γ := gam, orc := orcsOf tputB_0_orcs, hint := hintsOf [] }
def tputB_0_lo (F : Nat) : List (LoE Unit) := []
def tputB_0_book (F : Nat) : BookL Unit := { toBook := tputB_0_book0, lo := losOf (tputB_0_lo F), need := needsOf [] }
theorem tputB_0_loOk (F : Nat) : LoOk prog (tputB_0_book F) F := loOk_of (l := tputB_0_lo F) rfl fz
theorem tputB_0_run (F : Nat) (b x_ : ZB) (kend : List BV → ZO) : runFnL prog (tputB_0_book F) F 20 52 [.d (.slc (.int .u8)) b, .f 53, .d (.slc (.int .u8)) x_] [.o 5 (.int .u8)] kend = tputB_0 F b x_ none (fun y0 => kend [BV.o 5 (.int .u8) y0]) := by kernel_rfl
theorem tputB_0_contract  : Contract prog 52 (Orc.of [.d (.slc (.int .u8)), .f, .d (.slc (.int .u8))] true 1 fun x => ((Nat.beq x.2.1 53) && tputB_P x.1 x.2.1 x.2.2.1, [.o 5 (.int .u8) (tputB_r x.1 x.2.1 x.2.2.1)])) := contract_of_runL (B0 := tputB_0_book0) zN zG mix_ok zT (orcsOf_ok (fa wire_PutBytes_contract fz)) (by kernel_rfl) (fun x h => by
 obtain ⟨x0, x1, x2, _⟩ := x
 simp only [Bool.and_eq_true] at h
 obtain ⟨e, h⟩ := h
 have e := Nat.eq_of_beq_eq_true e
 subst e
 obtain ⟨F, hF⟩ := tputB_0_plain x0 x2 h
 exact ⟨F, 20, tputB_0_book F, rfl, tputB_0_loOk F, fun kend => (tputB_0_run F x0 x2 kend).trans (hF none (fun y0 => kend [BV.o 5 (.int .u8) y0]))⟩)
def tputB_orc  : Orc := Orc.of [.d (.slc (.int .u8)), .f, .d (.slc (.int .u8))] true 1 fun x => ((Nat.beq x.2.1 53) && tputB_P x.1 x.2.1 x.2.2.1, [.o 5 (.int .u8) (tputB_r x.1 x.2.1 x.2.2.1)])
theorem tputB_contract  : Contract prog 52 tputB_orc := contract_cases tputB_0_contract.1 (fun x h => by
 obtain ⟨x0, x1, x2, _⟩ := x
 simp only [Bool.and_eq_true] at h
 obtain ⟨e, _⟩ := h
 rcases e with e
 ·have e := Nat.eq_of_beq_eq_true e
  subst e
  exact ⟨_, tputB_0_contract, rfl⟩)
@[reducible] def tEncode_ps  : List PM := [.d (.slc (.pair (.int .i64) (.pair (.slc (.int .u8)) .unit)))]
def tEncode_orc  : Orc := Orc.of tEncode_ps true 1 fun x => (tEncode_P x.1, [.o 5 (.int .u8) (tEncode_r0 x.1), .d (.int .i64) (tEncode_r1 x.1)])
@[reducible] def tEncode_l1_T  : Tpl := { cur := ⟨[(5, .row 0), (10, .var (.slc (.pair (.int .i64) (.pair (.slc (.int .u8)) .unit)))), (0, .var (.int .i64)), (0, .var (.int .i64))], 15⟩, stk := [⟨[], 0⟩], heap := [.row 5 (.int .u8) false] }
def tEncode_orcs  : List (FuncId × Orc) := [(37, tCheck_orc), (50, tputI_orc), (52, tputB_orc)]
def tEncode_book0  : Book := { Γ := gam, orc := orcsOf tEncode_orcs, hint := hintsOf [(23, { keep := some [5, 16, 17, 18], keeps := [(6, [5, 16, 17, 18])], own := [], dat := [], stk := [] })] }
def tEncode_l1_G (F : Nat) (nx : tEncode_l1_T.T → ZO) (kq : ZK) (x : tEncode_l1_T.T) : ZO := tEncode_l1 F none (fun s16 s17 s18 b => nx (((), (s16, (s17, (s18, ())))), (((), ()), (b, ())))) (fun y0 y1 y2 y3 => kq (.exit 0) (tEncode_l1_T.inst (((), (y0, (y1, (y2, ())))), (((), ()), (y3, ()))))) x.1.2.1 x.1.2.2.1 x.1.2.2.2.1 x.2.2.1
def tEncode_l1_R (F m : Nat) (x : tEncode_l1_T.T) (kq : ZK) : ZO := tEncode_l1F F none (fun y0 y1 y2 y3 => kq (.exit 0) (tEncode_l1_T.inst (((), (y0, (y1, (y2, ())))), (((), ()), (y3, ()))))) m x.1.2.1 x.1.2.2.1 x.1.2.2.2.1 x.2.2.1
def tEncode_lo (F : Nat) : List (LoE Unit) := [⟨23, 6, LO.of tEncode_l1_T (tEncode_l1_R F F)⟩]
def tEncode_book (F : Nat) : BookL Unit := { toBook := tEncode_book0, lo := losOf (tEncode_lo F), need := needsOf [] }
def tEncode_l1_z (tCheck_Pz : (List ZR) → Bool) (tCheck_rz : (List ZR) → Int) (tputI_Pz : ZB → Nat → Int → Bool) (tputI_rz : ZB → Nat → Int → ZB) (tputB_Pz : ZB → Nat → ZB → Bool) (tputB_rz : ZB → Nat → ZB → ZB) {X : Type} (F : Nat) (fail : X) (next ex0 : List ZR → Int → Int → ZB → X) (s16 : List ZR) (s17 s18 : Int) (b : ZB) : X :=
 bif (decide (s18 < s17)) then
  bif ((decide ((0 : Int) ≤ s18)) && (decide (s18 < ((s16.length : Nat) : Int)))) then
  bif (tputI_Pz b (51 : Nat) (List.getD s16 (s18).toNat ((0 : Int), (([] : ZB), ()))).1) then
  bif (tputB_Pz (tputI_rz b (51 : Nat) (List.getD s16 (s18).toNat ((0 : Int), (([] : ZB), ()))).1) (53 : Nat) (List.getD s16 (s18).toNat ((0 : Int), (([] : ZB), ()))).2.1) then
  next s16 s17 (addI s18 (1 : Int)) (tputB_rz (tputI_rz b (51 : Nat) (List.getD s16 (s18).toNat ((0 : Int), (([] : ZB), ()))).1) (53 : Nat) (List.getD s16 (s18).toNat ((0 : Int), (([] : ZB), ()))).2.1)
  else fail
  else fail
  else fail
 else
 ex0 s16 s17 s18 b
def tEncode_z (tCheck_Pz : (List ZR) → Bool) (tCheck_rz : (List ZR) → Int) (tputI_Pz : ZB → Nat → Int → Bool) (tputI_rz : ZB → Nat → Int → ZB) (tputB_Pz : ZB → Nat → ZB → Bool) (tputB_rz : ZB → Nat → ZB → ZB) {X : Type} (F : Nat) (l : List ZR) (fail : X) (ret : ZB → Int → X) : X :=
 bif (tCheck_Pz l) then
 bif ((tCheck_rz l) != (0 : Int)) then
  ret ([] : ZB) (tCheck_rz l)
 else
 bif (tputI_Pz ([] : ZB) (51 : Nat) ((l.length : Nat) : Int)) then
 tEncode_l1F F fail
  (fun (s16 : List ZR) (s17 : Int) (s18 : Int) (b : ZB) =>
   bif (decide (((b.length : Nat) : Int) > (65536 : Int))) then
    ret ([] : ZB) (5 : Int)
   else
   ret b (0 : Int))
  F l ((l.length : Nat) : Int) (0 : Int) (tputI_rz ([] : ZB) (51 : Nat) ((l.length : Nat) : Int))
 else fail
 else fail
def tEncode_orcs_z (tCheck_Pz : (List ZR) → Bool) (tCheck_rz : (List ZR) → Int) (tputI_Pz : ZB → Nat → Int → Bool) (tputI_rz : ZB → Nat → Int → ZB) (tputB_Pz : ZB → Nat → ZB → Bool) (tputB_rz : ZB → Nat → ZB → ZB) : List (FuncId × Orc) := [(37, Orc.of tCheck_ps true 0 fun x => (tCheck_Pz x.1, [.d (.int .i64) (tCheck_rz x.1)])), (50, Orc.of [.d (.slc (.int .u8)), .f, .d (.int .i64)] true 1 fun x => ((Nat.beq x.2.1 51) && tputI_Pz x.1 x.2.1 x.2.2.1, [.o 5 (.int .u8) (tputI_rz x.1 x.2.1 x.2.2.1)])), (52, Orc.of [.d (.slc (.int .u8)), .f, .d (.slc (.int .u8))] true 1 fun x => ((Nat.beq x.2.1 53) && tputB_Pz x.1 x.2.1 x.2.2.1, [.o 5 (.int .u8) (tputB_rz x.1 x.2.1 x.2.2.1)]))]
def tEncode_book0_z (tCheck_Pz : (List ZR) → Bool) (tCheck_rz : (List ZR) → Int) (tputI_Pz : ZB → Nat → Int → Bool) (tputI_rz : ZB → Nat → Int → ZB) (tputB_Pz : ZB → Nat → ZB → Bool) (tputB_rz : ZB → Nat → ZB → ZB) : Book := { Γ := gam, orc := orcsOf (tEncode_orcs_z tCheck_Pz tCheck_rz tputI_Pz tputI_rz tputB_Pz tputB_rz), hint := hintsOf [(23, { keep := some [5, 16, 17, 18], keeps := [(6, [5, 16, 17, 18])], own := [], dat := [], stk := [] })] }
def tEncode_book_z (tCheck_Pz : (List ZR) → Bool) (tCheck_rz : (List ZR) → Int) (tputI_Pz : ZB → Nat → Int → Bool) (tputI_rz : ZB → Nat → Int → ZB) (tputB_Pz : ZB → Nat → ZB → Bool) (tputB_rz : ZB → Nat → ZB → ZB) (F : Nat) : BookL Unit := { toBook := tEncode_book0_z tCheck_Pz tCheck_rz tputI_Pz tputI_rz tputB_Pz tputB_rz, lo := losOf (tEncode_lo F), need := needsOf [] }
def tEncode_l1_G_z (tCheck_Pz : (List ZR) → Bool) (tCheck_rz : (List ZR) → Int) (tputI_Pz : ZB → Nat → Int → Bool) (tputI_rz : ZB → Nat → Int → ZB) (tputB_Pz : ZB → Nat → ZB → Bool) (tputB_rz : ZB → Nat → ZB → ZB) (F : Nat) (nx : tEncode_l1_T.T → ZO) (kq : ZK) (x : tEncode_l1_T.T) : ZO := tEncode_l1_z tCheck_Pz tCheck_rz tputI_Pz tputI_rz tputB_Pz tputB_rz F none (fun s16 s17 s18 b => nx (((), (s16, (s17, (s18, ())))), (((), ()), (b, ())))) (fun y0 y1 y2 y3 => kq (.exit 0) (tEncode_l1_T.inst (((), (y0, (y1, (y2, ())))), (((), ()), (y3, ()))))) x.1.2.1 x.1.2.2.1 x.1.2.2.2.1 x.2.2.1
theorem tEncode_l1_step_z (tCheck_Pz : (List ZR) → Bool) (tCheck_rz : (List ZR) → Int) (tputI_Pz : ZB → Nat → Int → Bool) (tputI_rz : ZB → Nat → Int → ZB) (tputB_Pz : ZB → Nat → ZB → Bool) (tputB_rz : ZB → Nat → ZB → ZB) (F : Nat) : LStep prog (tEncode_book_z tCheck_Pz tCheck_rz tputI_Pz tputI_rz tputB_Pz tputB_rz F) F 23 0 6 tEncode_l1_T (tEncode_l1_G_z tCheck_Pz tCheck_rz tputI_Pz tputI_rz tputB_Pz tputB_rz F) := fun d x KQ => by kernel_rfl
theorem tEncode_run_z (tCheck_Pz : (List ZR) → Bool) (tCheck_rz : (List ZR) → Int) (tputI_Pz : ZB → Nat → Int → Bool) (tputI_rz : ZB → Nat → Int → ZB) (tputB_Pz : ZB → Nat → ZB → Bool) (tputB_rz : ZB → Nat → ZB → ZB) (F : Nat) (x : ArgsT tEncode_ps) (kend : List BV → ZO) : runFnL prog (tEncode_book_z tCheck_Pz tCheck_rz tputI_Pz tputI_rz tputB_Pz tputB_rz F) F 20 23 (argsInst tEncode_ps x) [.o 5 (.int .u8), .d (.int .i64)] kend = tEncode_z tCheck_Pz tCheck_rz tputI_Pz tputI_rz tputB_Pz tputB_rz F x.1 none (fun y0 y1 => kend [BV.o 5 (.int .u8) y0, BV.d (.int .i64) y1]) := by kernel_rfl
theorem tEncode_l1_step (F : Nat) : LStep prog (tEncode_book F) F 23 0 6 tEncode_l1_T (tEncode_l1_G F) := tEncode_l1_step_z tCheck_P tCheck_r tputI_P tputI_r tputB_P tputB_r F
theorem tEncode_loOk (F : Nat) : LoOk prog (tEncode_book F) F := loOk_of (l := tEncode_lo F) rfl (fa (loOne_of 0 (by kernel_rfl) (by kernel_rfl) (lstep_run (tEncode_l1_step F) (fun _ _ => rfl) (fun _ _ _ _ => rfl))) fz)
theorem tEncode_run (F : Nat) (x : ArgsT tEncode_ps) (kend : List BV → ZO) : runFnL prog (tEncode_book F) F 20 23 (argsInst tEncode_ps x) [.o 5 (.int .u8), .d (.int .i64)] kend = tEncode F x.1 none (fun y0 y1 => kend [BV.o 5 (.int .u8) y0, BV.d (.int .i64) y1]) := tEncode_run_z tCheck_P tCheck_r tputI_P tputI_r tputB_P tputB_r F x kend
theorem tEncode_contract  : Contract prog 23 tEncode_orc := con_of (B0 := tEncode_book0) zN zG mix_ok zT tEncode_run (orcsOf_ok (fa tCheck_contract (fa tputI_contract (fa tputB_contract fz)))) (by kernel_rfl) (fun _ => rfl) tEncode_loOk (fun x h => (tEncode_plain x.1 h).elim fun F hF => ⟨F, fun kend => hF none _⟩)
@[reducible] def tDecode_ps  : List PM := [.d (.slc (.int .u8))]
def tDecode_orc  : Orc := Orc.of tDecode_ps false 0 fun x => (tDecode_P x.1, [.d (.slc (.pair (.int .i64) (.pair (.slc (.int .u8)) .unit))) (tDecode_r0 x.1), .d (.int .i64) (tDecode_r1 x.1)])
@[reducible] def tDecode_l1_T  : Tpl := { cur := ⟨[(1, .ptr 0 []), (0, .nils), (0, .var (.int .i64)), (2, .row 1), (12, .var (.int .i64)), (0, .var (.int .i64))], 24⟩, stk := [⟨[], 0⟩], heap := [.box (.var (.slc (.int .u8))), .row 66 (.pair (.int .i64) (.pair (.slc (.int .u8)) .unit)) false] }
def tDecode_orcs  : List (FuncId × Orc) := [(72, wire_Int_orc), (75, wire_Bytes_orc)]
def tDecode_book0  : Book := { Γ := gam, orc := orcsOf tDecode_orcs, hint := hintsOf [(33, { keep := some [1, 2, 3, 6, 19, 20], keeps := [(11, [1, 2, 3, 6, 19, 20])], own := [(6, 25)], dat := [], stk := [] })] }
def tDecode_l1_G (F : Nat) (nx : tDecode_l1_T.T → ZO) (kq : ZK) (x : tDecode_l1_T.T) : ZO := tDecode_l1 F none (fun s3 s19 s20 b out => nx (((), ((), (s3, ((), (s19, (s20, ())))))), (((), ()), (b, (out, ()))))) (fun y0 y1 y2 y3 y4 => kq .ret (tDecode_l1_T.inst (((), ((), (y0, ((), (y1, (y2, ())))))), (((), ()), (y3, (y4, ())))))) (fun y0 y1 y2 y3 y4 => kq (.exit 0) (tDecode_l1_T.inst (((), ((), (y0, ((), (y1, (y2, ())))))), (((), ()), (y3, (y4, ())))))) x.1.2.2.1 x.1.2.2.2.2.1 x.1.2.2.2.2.2.1 x.2.2.1 x.2.2.2.1
def tDecode_l1_R (F m : Nat) (x : tDecode_l1_T.T) (kq : ZK) : ZO := tDecode_l1F F none (fun y0 y1 y2 y3 y4 => kq .ret (tDecode_l1_T.inst (((), ((), (y0, ((), (y1, (y2, ())))))), (((), ()), (y3, (y4, ())))))) (fun y0 y1 y2 y3 y4 => kq (.exit 0) (tDecode_l1_T.inst (((), ((), (y0, ((), (y1, (y2, ())))))), (((), ()), (y3, (y4, ())))))) m x.1.2.2.1 x.1.2.2.2.2.1 x.1.2.2.2.2.2.1 x.2.2.1 x.2.2.2.1
def tDecode_lo (F : Nat) : List (LoE Unit) := [⟨33, 11, LO.of tDecode_l1_T (tDecode_l1_R F F)⟩]
def tDecode_book (F : Nat) : BookL Unit := { toBook := tDecode_book0, lo := losOf (tDecode_lo F), need := needsOf [(33, 1)] }
def tDecode_l1_z (wire_Int_Pz : ZB → Bool) (wire_Int_r0z : ZB → Int) (wire_Int_r1z : ZB → ZB) (wire_Int_r2z : ZB → Int) (wire_Bytes_Pz : ZB → Bool) (wire_Bytes_r0z wire_Bytes_r1z : ZB → ZB) (wire_Bytes_r2z : ZB → Int) {X : Type} (F : Nat) (fail : X) (next ex0 ex1 : Int → Int → Int → ZB → List ZR → X) (s3 s19 s20 : Int) (b : ZB) (out : List ZR) : X :=
 bif (decide (s20 < s19)) then
  bif (wire_Int_Pz b) then
  bif ((wire_Int_r2z b) == (0 : Int)) then
   bif ((wire_Int_r2z b) != (0 : Int)) then
    ex0 (wire_Int_r2z b) s19 s20 (wire_Int_r1z b) out
   else
   bif (decide ((wire_Int_r0z b) ≥ (1 : Int))) then
    bif (!(decide ((wire_Int_r0z b) ≤ (4 : Int)))) then
     ex0 (1 : Int) s19 s20 (wire_Int_r1z b) out
    else
    bif (wire_Bytes_Pz (wire_Int_r1z b)) then
    bif ((wire_Bytes_r2z (wire_Int_r1z b)) == (0 : Int)) then
     bif ((wire_Bytes_r2z (wire_Int_r1z b)) != (0 : Int)) then
      ex0 (wire_Bytes_r2z (wire_Int_r1z b)) s19 s20 (wire_Bytes_r1z (wire_Int_r1z b)) out
     else
     bif (decide ((out ++ ([((wire_Int_r0z b), ((wire_Bytes_r0z (wire_Int_r1z b)), ()))] : List ZR)).length ≤ big)) then
     next s3 s19 (addI s20 (1 : Int)) (wire_Bytes_r1z (wire_Int_r1z b)) (out ++ ([((wire_Int_r0z b), ((wire_Bytes_r0z (wire_Int_r1z b)), ()))] : List ZR))
     else fail
    else
    bif ((wire_Bytes_r2z (wire_Int_r1z b)) != (0 : Int)) then
     ex0 (wire_Bytes_r2z (wire_Int_r1z b)) s19 s20 (wire_Int_r1z b) out
    else
    bif (decide ((out ++ ([((wire_Int_r0z b), (([] : ZB), ()))] : List ZR)).length ≤ big)) then
    next s3 s19 (addI s20 (1 : Int)) (wire_Int_r1z b) (out ++ ([((wire_Int_r0z b), (([] : ZB), ()))] : List ZR))
    else fail
    else fail
   else
   ex0 (1 : Int) s19 s20 (wire_Int_r1z b) out
  else
  bif ((wire_Int_r2z b) != (0 : Int)) then
   ex0 (wire_Int_r2z b) s19 s20 b out
  else
  ex0 (1 : Int) s19 s20 b out
  else fail
 else
 ex1 s3 s19 s20 b out
def tDecode_z (wire_Int_Pz : ZB → Bool) (wire_Int_r0z : ZB → Int) (wire_Int_r1z : ZB → ZB) (wire_Int_r2z : ZB → Int) (wire_Bytes_Pz : ZB → Bool) (wire_Bytes_r0z wire_Bytes_r1z : ZB → ZB) (wire_Bytes_r2z : ZB → Int) {X : Type} (F : Nat) (b : ZB) (fail : X) (ret : List ZR → Int → X) : X :=
 bif (decide (((b.length : Nat) : Int) > (65536 : Int))) then
  ret ([] : List ZR) (5 : Int)
 else
 bif (wire_Int_Pz b) then
 bif ((wire_Int_r2z b) == (0 : Int)) then
  bif ((wire_Int_r2z b) != (0 : Int)) then
   ret ([] : List ZR) (wire_Int_r2z b)
  else
  bif (decide ((wire_Int_r0z b) > (1024 : Int))) then
   ret ([] : List ZR) (6 : Int)
  else
  tDecode_l1F F fail
   (fun (s3 : Int) (s19 : Int) (s20 : Int) (b1 : ZB) (out : List ZR) =>
    ret ([] : List ZR) s3)
   (fun (s31 : Int) (s191 : Int) (s201 : Int) (b2 : ZB) (out1 : List ZR) =>
    bif (decide (((b2.length : Nat) : Int) > (0 : Int))) then
     ret ([] : List ZR) (3 : Int)
    else
    ret out1 (0 : Int))
   F (0 : Int) (wire_Int_r0z b) (0 : Int) (wire_Int_r1z b) ([] : List ZR)
 else
 bif ((wire_Int_r2z b) != (0 : Int)) then
  ret ([] : List ZR) (wire_Int_r2z b)
 else
 tDecode_l1F F fail
  (fun (s32 : Int) (s192 : Int) (s202 : Int) (b3 : ZB) (out2 : List ZR) =>
   ret ([] : List ZR) s32)
  (fun (s33 : Int) (s193 : Int) (s203 : Int) (b4 : ZB) (out3 : List ZR) =>
   bif (decide (((b4.length : Nat) : Int) > (0 : Int))) then
    ret ([] : List ZR) (3 : Int)
   else
   ret out3 (0 : Int))
  F (0 : Int) (0 : Int) (0 : Int) b ([] : List ZR)
 else fail
def tDecode_orcs_z (wire_Int_Pz : ZB → Bool) (wire_Int_r0z : ZB → Int) (wire_Int_r1z : ZB → ZB) (wire_Int_r2z : ZB → Int) (wire_Bytes_Pz : ZB → Bool) (wire_Bytes_r0z wire_Bytes_r1z : ZB → ZB) (wire_Bytes_r2z : ZB → Int) : List (FuncId × Orc) := [(72, Orc.of wire_Int_ps false 0 fun x => (wire_Int_Pz x.1, [.d (.int .i64) (wire_Int_r0z x.1), .d (.slc (.int .u8)) (wire_Int_r1z x.1), .d (.int .i64) (wire_Int_r2z x.1)])), (75, Orc.of wire_Bytes_ps false 0 fun x => (wire_Bytes_Pz x.1, [.d (.slc (.int .u8)) (wire_Bytes_r0z x.1), .d (.slc (.int .u8)) (wire_Bytes_r1z x.1), .d (.int .i64) (wire_Bytes_r2z x.1)]))]
def tDecode_book0_z (wire_Int_Pz : ZB → Bool) (wire_Int_r0z : ZB → Int) (wire_Int_r1z : ZB → ZB) (wire_Int_r2z : ZB → Int) (wire_Bytes_Pz : ZB → Bool) (wire_Bytes_r0z wire_Bytes_r1z : ZB → ZB) (wire_Bytes_r2z : ZB → Int) : Book := { Γ := gam, orc := orcsOf (tDecode_orcs_z wire_Int_Pz wire_Int_r0z wire_Int_r1z wire_Int_r2z wire_Bytes_Pz wire_Bytes_r0z wire_Bytes_r1z wire_Bytes_r2z), hint := hintsOf [(33, { keep := some [1, 2, 3, 6, 19, 20], keeps := [(11, [1, 2, 3, 6, 19, 20])], own := [(6, 25)], dat := [], stk := [] })] }
def tDecode_book_z (wire_Int_Pz : ZB → Bool) (wire_Int_r0z : ZB → Int) (wire_Int_r1z : ZB → ZB) (wire_Int_r2z : ZB → Int) (wire_Bytes_Pz : ZB → Bool) (wire_Bytes_r0z wire_Bytes_r1z : ZB → ZB) (wire_Bytes_r2z : ZB → Int) (F : Nat) : BookL Unit := { toBook := tDecode_book0_z wire_Int_Pz wire_Int_r0z wire_Int_r1z wire_Int_r2z wire_Bytes_Pz wire_Bytes_r0z wire_Bytes_r1z wire_Bytes_r2z, lo := losOf (tDecode_lo F), need := needsOf [(33, 1)] }
def tDecode_l1_G_z (wire_Int_Pz : ZB → Bool) (wire_Int_r0z : ZB → Int) (wire_Int_r1z : ZB → ZB) (wire_Int_r2z : ZB → Int) (wire_Bytes_Pz : ZB → Bool) (wire_Bytes_r0z wire_Bytes_r1z : ZB → ZB) (wire_Bytes_r2z : ZB → Int) (F : Nat) (nx : tDecode_l1_T.T → ZO) (kq : ZK) (x : tDecode_l1_T.T) : ZO := tDecode_l1_z wire_Int_Pz wire_Int_r0z wire_Int_r1z wire_Int_r2z wire_Bytes_Pz wire_Bytes_r0z wire_Bytes_r1z wire_Bytes_r2z F none (fun s3 s19 s20 b out => nx (((), ((), (s3, ((), (s19, (s20, ())))))), (((), ()), (b, (out, ()))))) (fun y0 y1 y2 y3 y4 => kq .ret (tDecode_l1_T.inst (((), ((), (y0, ((), (y1, (y2, ())))))), (((), ()), (y3, (y4, ())))))) (fun y0 y1 y2 y3 y4 => kq (.exit 0) (tDecode_l1_T.inst (((), ((), (y0, ((), (y1, (y2, ())))))), (((), ()), (y3, (y4, ())))))) x.1.2.2.1 x.1.2.2.2.2.1 x.1.2.2.2.2.2.1 x.2.2.1 x.2.2.2.1
theorem tDecode_l1_step_z (wire_Int_Pz : ZB → Bool) (wire_Int_r0z : ZB → Int) (wire_Int_r1z : ZB → ZB) (wire_Int_r2z : ZB → Int) (wire_Bytes_Pz : ZB → Bool) (wire_Bytes_r0z wire_Bytes_r1z : ZB → ZB) (wire_Bytes_r2z : ZB → Int) (F : Nat) : LStep prog (tDecode_book_z wire_Int_Pz wire_Int_r0z wire_Int_r1z wire_Int_r2z wire_Bytes_Pz wire_Bytes_r0z wire_Bytes_r1z wire_Bytes_r2z F) F 33 0 11 tDecode_l1_T (tDecode_l1_G_z wire_Int_Pz wire_Int_r0z wire_Int_r1z wire_Int_r2z wire_Bytes_Pz wire_Bytes_r0z wire_Bytes_r1z wire_Bytes_r2z F) := fun d x KQ => by kernel_rfl
theorem tDecode_run_z (wire_Int_Pz : ZB → Bool) (wire_Int_r0z : ZB → Int) (wire_Int_r1z : ZB → ZB) (wire_Int_r2z : ZB → Int) (wire_Bytes_Pz : ZB → Bool) (wire_Bytes_r0z wire_Bytes_r1z : ZB → ZB) (wire_Bytes_r2z : ZB → Int) (F : Nat) (x : ArgsT tDecode_ps) (kend : List BV → ZO) : runFnL prog (tDecode_book_z wire_Int_Pz wire_Int_r0z wire_Int_r1z wire_Int_r2z wire_Bytes_Pz wire_Bytes_r0z wire_Bytes_r1z wire_Bytes_r2z F) F 20 33 (argsInst tDecode_ps x) [.d (.slc (.pair (.int .i64) (.pair (.slc (.int .u8)) .unit))), .d (.int .i64)] kend = tDecode_z wire_Int_Pz wire_Int_r0z wire_Int_r1z wire_Int_r2z wire_Bytes_Pz wire_Bytes_r0z wire_Bytes_r1z wire_Bytes_r2z F x.1 none (fun y0 y1 => kend [BV.d (.slc (.pair (.int .i64) (.pair (.slc (.int .u8)) .unit))) y0, BV.d (.int .i64) y1]) := by kernel_rfl
theorem tDecode_l1_step (F : Nat) : LStep prog (tDecode_book F) F 33 0 11 tDecode_l1_T (tDecode_l1_G F) := tDecode_l1_step_z wire_Int_P wire_Int_r0 wire_Int_r1 wire_Int_r2 wire_Bytes_P wire_Bytes_r0 wire_Bytes_r1 wire_Bytes_r2 F
theorem tDecode_loOk (F : Nat) : LoOk prog (tDecode_book F) F := loOk_of (l := tDecode_lo F) rfl (fa (loOne_of 0 (by kernel_rfl) (by kernel_rfl) (lstep_run (tDecode_l1_step F) (fun _ _ => rfl) (fun _ _ _ _ => rfl))) fz)
theorem tDecode_run (F : Nat) (x : ArgsT tDecode_ps) (kend : List BV → ZO) : runFnL prog (tDecode_book F) F 20 33 (argsInst tDecode_ps x) [.d (.slc (.pair (.int .i64) (.pair (.slc (.int .u8)) .unit))), .d (.int .i64)] kend = tDecode F x.1 none (fun y0 y1 => kend [BV.d (.slc (.pair (.int .i64) (.pair (.slc (.int .u8)) .unit))) y0, BV.d (.int .i64) y1]) := tDecode_run_z wire_Int_P wire_Int_r0 wire_Int_r1 wire_Int_r2 wire_Bytes_P wire_Bytes_r0 wire_Bytes_r1 wire_Bytes_r2 F x kend
theorem tDecode_contract  : Contract prog 33 tDecode_orc := con_of (B0 := tDecode_book0) zN zG mix_ok zT tDecode_run (orcsOf_ok (fa wire_Int_contract (fa wire_Bytes_contract fz))) (by kernel_rfl) (fun _ => rfl) tDecode_loOk (fun x h => (tDecode_plain x.1 h).elim fun F hF => ⟨F, fun kend => hF none _⟩)
end Go.AI
namespace Go.AI
open Go
open Go.Proofs.Tryz (prog)
set_option linter.unusedVariables false
@[reducible] def tCommit_ps  : List PM := [.d (.pair (.int .i64) (.pair (.int .i64) (.pair (.int .i64) .unit))), .d (.slc (.int .u8)), .d (.slc (.pair (.int .i64) (.pair (.slc (.int .u8)) .unit)))]
def tCommit_orc  : Orc := Orc.of tCommit_ps false 0 fun x => (tCommit_P x.1 x.2.1 x.2.2.1, [.d (.pair (.int .i64) (.pair (.int .i64) (.pair (.int .i64) .unit))) (tCommit_r0 x.1 x.2.1 x.2.2.1), .d (.slc (.pair (.int .i64) (.pair (.int .i64) (.pair (.slc (.arr 16 (.int .u8))) .unit)))) (tCommit_r1 x.1 x.2.1 x.2.2.1), .d (.int .i64) (tCommit_r2 x.1 x.2.1 x.2.2.1)])
def tCommit_orcs  : List (FuncId × Orc) := [(23, tEncode_orc), (24, lCheck_orc), (25, cSeal_orc), (26, lAppend_orc)]
def tCommit_book0  : Book := { Γ := gam, orc := orcsOf tCommit_orcs, hint := hintsOf [] }
def tCommit_lo (F : Nat) : List (LoE Unit) := []
def tCommit_book (F : Nat) : BookL Unit := { toBook := tCommit_book0, lo := losOf (tCommit_lo F), need := needsOf [] }
theorem tCommit_loOk (F : Nat) : LoOk prog (tCommit_book F) F := loOk_of (l := tCommit_lo F) rfl fz
theorem tCommit_run (F : Nat) (x : ArgsT tCommit_ps) (kend : List BV → ZO) : runFnL prog (tCommit_book F) F 20 10 (argsInst tCommit_ps x) [.d (.pair (.int .i64) (.pair (.int .i64) (.pair (.int .i64) .unit))), .d (.slc (.pair (.int .i64) (.pair (.int .i64) (.pair (.slc (.arr 16 (.int .u8))) .unit)))), .d (.int .i64)] kend = tCommit F x.1 x.2.1 x.2.2.1 none (fun y0 y1 y2 => kend [BV.d (.pair (.int .i64) (.pair (.int .i64) (.pair (.int .i64) .unit))) y0, BV.d (.slc (.pair (.int .i64) (.pair (.int .i64) (.pair (.slc (.arr 16 (.int .u8))) .unit)))) y1, BV.d (.int .i64) y2]) := by kernel_rfl
theorem tCommit_contract  : Contract prog 10 tCommit_orc := con_of (B0 := tCommit_book0) zN zG mix_ok zT tCommit_run (orcsOf_ok (fa tEncode_contract (fa lCheck_contract (fa cSeal_contract (fa lAppend_contract fz))))) (by kernel_rfl) (fun _ => rfl) tCommit_loOk (fun x h => (tCommit_plain x.1 x.2.1 x.2.2.1 h).elim fun F hF => ⟨F, fun kend => hF none _⟩)
@[reducible] def law50_awake_ps  : List PM := []
def law50_awake_orc  : Orc := Orc.of law50_awake_ps true 0 fun x => (true, [.d .bool (law50_awake_r)])
def law50_awake_orcs  : List (FuncId × Orc) := [(10, tCommit_orc), (23, tEncode_orc)]
def law50_awake_book0  : Book := { Γ := gam, orc := orcsOf law50_awake_orcs, hint := hintsOf [] }
def law50_awake_lo (F : Nat) : List (LoE Unit) := []
def law50_awake_book (F : Nat) : BookL Unit := { toBook := law50_awake_book0, lo := losOf (law50_awake_lo F), need := needsOf [] }
theorem law50_awake_loOk (F : Nat) : LoOk prog (law50_awake_book F) F := loOk_of (l := law50_awake_lo F) rfl fz
theorem law50_awake_run (F : Nat) (x : ArgsT law50_awake_ps) (kend : List BV → ZO) : runFnL prog (law50_awake_book F) F 20 9 (argsInst law50_awake_ps x) [.d .bool] kend = law50_awake F  none (fun y0 => kend [BV.d .bool y0]) := by kernel_rfl
theorem law50_awake_contract  : Contract prog 9 law50_awake_orc := con_of (B0 := law50_awake_book0) zN zG mix_ok zT law50_awake_run (orcsOf_ok (fa tCommit_contract (fa tEncode_contract fz))) (by kernel_rfl) (fun _ => rfl) law50_awake_loOk (fun x _ => (law50_awake_plain ).elim fun F hF => ⟨F, fun kend => hF none _⟩)
end Go.AI
namespace Go.AI
open Go
open Go.Proofs.Tryz (prog)
set_option linter.unusedVariables false
@[reducible] def tReplay_ps  : List PM := [.d (.pair (.slc (.arr 16 (.int .u8))) (.pair (.slc (.pair (.int .i64) (.pair (.arr 16 (.int .u8)) .unit))) .unit)), .d (.slc (.int .u8))]
def tReplay_orc  : Orc := Orc.of tReplay_ps false 0 fun x => (tReplay_P x.1 x.2.1, [.d (.pair (.int .i64) (.pair (.int .i64) (.pair (.int .i64) .unit))) (tReplay_r0 x.1 x.2.1), .d (.slc (.slc (.pair (.int .i64) (.pair (.slc (.int .u8)) .unit)))) (tReplay_r1 x.1 x.2.1), .d (.int .i64) (tReplay_r2 x.1 x.2.1)])
@[reducible] def tReplay_l1_T  : Tpl := { cur := ⟨[(0, .hnd .yield 0), (1, .ptr 6 []), (4, .var (.slc (.slc (.int .u8)))), (0, .var (.int .i64)), (0, .var (.int .i64))], 21⟩, stk := [⟨[(0, .hnd .yield 0)], 0⟩, ⟨[(1, .var (.slc (.int .u8))), (2, .ptr 1 []), (0, .ptr 2 []), (0, .ptr 3 []), (0, .ptr 7 []), (2, .ptr 4 [])], 39⟩, ⟨[], 0⟩], heap := [.lp 14 8 ⟨[(4, .ptr 1 []), (0, .ptr 2 []), (0, .ptr 3 []), (3, .ptr 4 [])], 39⟩ .ready, .box (.var (.pair (.int .i64) (.pair (.int .i64) (.pair (.int .i64) .unit)))), .box (.nils), .box (.var (.int .i64)), .box (.row 5), .row 25 (.slc (.pair (.int .i64) (.pair (.slc (.int .u8)) .unit))) false, .box (.var (.slc (.int .u8))), .box (.var (.pair (.int .i64) (.pair (.int .i64) (.pair (.int .i64) .unit))))] }
@[reducible] def tReplay_l1_T0  : Tpl := { cur := ⟨[(0, .hnd .yield 0), (1, .ptr 6 []), (4, .var (.slc (.slc (.int .u8)))), (0, .var (.int .i64)), (0, .var (.int .i64))], 21⟩, stk := [⟨[(0, .hnd .yield 0)], 0⟩, ⟨[(1, .var (.slc (.int .u8))), (2, .ptr 1 []), (0, .ptr 2 []), (0, .ptr 3 []), (0, .ptr 7 []), (2, .ptr 4 [])], 39⟩, ⟨[], 0⟩], heap := [.lp 14 8 ⟨[(4, .ptr 1 []), (0, .ptr 2 []), (0, .ptr 3 []), (3, .ptr 4 [])], 39⟩ (.done .ret), .box (.var (.pair (.int .i64) (.pair (.int .i64) (.pair (.int .i64) .unit)))), .box (.nils), .box (.var (.int .i64)), .box (.row 5), .row 25 (.slc (.pair (.int .i64) (.pair (.slc (.int .u8)) .unit))) false, .box (.var (.slc (.int .u8))), .box (.var (.pair (.int .i64) (.pair (.int .i64) (.pair (.int .i64) .unit))))] }
def tReplay_orcs  : List (FuncId × Orc) := [(19, lOpen_orc), (33, tDecode_orc), (70, cOpen_orc)]
def tReplay_book0  : Book := { Γ := gam, orc := orcsOf tReplay_orcs, hint := hintsOf [(14, { keep := some [], keeps := [], own := [], dat := [], stk := [], rgb := [(5007, [(10, 0, 41)])] }), (69, { keep := some [0, 2, 7, 8, 9], keeps := [(1, [0, 2, 7, 8, 9])], own := [], dat := [], stk := [[0], [1, 4, 5, 6, 7, 10, 11, 12, 13, 31, 32, 34, 41]] })] }
def tReplay_l1_G (F : Nat) (nx : tReplay_l1_T.T → ZO) (kq : ZK) (x : tReplay_l1_T.T) : ZO := tReplay_l1 F none (fun s7 s8 s9 key s4 s6 out s2 l => nx (((), ((), (s7, (s8, (s9, ()))))), ((((), ()), ((key, ((), ((), ((), ((), ((), ())))))), ((), ()))), (((), ((), ((), ((), ())))), (s4, ((), (s6, ((), (out, (s2, (l, ()))))))))))) (fun y0 y1 y2 y3 y4 y5 y6 y7 y8 => kq .ret (tReplay_l1_T0.inst (((), ((), (y0, (y1, (y2, ()))))), ((((), ()), ((y3, ((), ((), ((), ((), ((), ())))))), ((), ()))), (((), ((), ((), ((), ())))), (y4, ((), (y5, ((), (y6, (y7, (y8, ())))))))))))) (fun y0 y1 y2 y3 y4 y5 y6 y7 y8 => kq (.exit 0) (tReplay_l1_T.inst (((), ((), (y0, (y1, (y2, ()))))), ((((), ()), ((y3, ((), ((), ((), ((), ((), ())))))), ((), ()))), (((), ((), ((), ((), ())))), (y4, ((), (y5, ((), (y6, (y7, (y8, ())))))))))))) x.1.2.2.1 x.1.2.2.2.1 x.1.2.2.2.2.1 x.2.1.2.1.1 x.2.2.2.1 x.2.2.2.2.2.1 x.2.2.2.2.2.2.2.1 x.2.2.2.2.2.2.2.2.1 x.2.2.2.2.2.2.2.2.2.1
def tReplay_l1_R (F m : Nat) (x : tReplay_l1_T.T) (kq : ZK) : ZO := tReplay_l1F F none (fun y0 y1 y2 y3 y4 y5 y6 y7 y8 => kq .ret (tReplay_l1_T0.inst (((), ((), (y0, (y1, (y2, ()))))), ((((), ()), ((y3, ((), ((), ((), ((), ((), ())))))), ((), ()))), (((), ((), ((), ((), ())))), (y4, ((), (y5, ((), (y6, (y7, (y8, ())))))))))))) (fun y0 y1 y2 y3 y4 y5 y6 y7 y8 => kq (.exit 0) (tReplay_l1_T.inst (((), ((), (y0, (y1, (y2, ()))))), ((((), ()), ((y3, ((), ((), ((), ((), ((), ())))))), ((), ()))), (((), ((), ((), ((), ())))), (y4, ((), (y5, ((), (y6, (y7, (y8, ())))))))))))) m x.1.2.2.1 x.1.2.2.2.1 x.1.2.2.2.2.1 x.2.1.2.1.1 x.2.2.2.1 x.2.2.2.2.2.1 x.2.2.2.2.2.2.2.1 x.2.2.2.2.2.2.2.2.1 x.2.2.2.2.2.2.2.2.2.1
def tReplay_lo (F : Nat) : List (LoE Unit) := [⟨69, 1, LO.of tReplay_l1_T (tReplay_l1_R F F)⟩]
def tReplay_book (F : Nat) : BookL Unit := { toBook := tReplay_book0, lo := losOf (tReplay_lo F), need := needsOf [(69, 1)] }
def tReplay_l1_z (lOpen_Pz : (ZD) → Bool) (lOpen_r0z : (ZD) → (ZL)) (lOpen_r1z : (ZD) → (List ZB)) (lOpen_r2z : (ZD) → Int) (tDecode_Pz : ZB → Bool) (tDecode_r0z : ZB → (List ZR)) (tDecode_r1z : ZB → Int) (cOpen_Pz : ZB → Int → ZB → Bool) (cOpen_r0z : ZB → Int → ZB → ZB) (cOpen_r1z : ZB → Int → ZB → Int) {X : Type} (F : Nat) (fail : X) (next ex0 ex1 : List ZB → Int → Int → ZB → ZL → Int → List (List ZR) → ZB → ZL → X) (s7 : List ZB) (s8 s9 : Int) (key : ZB) (s4 : ZL) (s6 : Int) (out : List (List ZR)) (s2 : ZB) (l : ZL) : X :=
 bif (decide (s9 < s8)) then
  bif ((decide ((0 : Int) ≤ s9)) && (decide (s9 < ((s7.length : Nat) : Int)))) then
  bif (decide (((s2.length : Nat) : Int) > (0 : Int))) then
   bif (cOpen_Pz s2 (addI s9 (1 : Int)) (List.getD s7 (s9).toNat ([] : ZB))) then
   bif ((cOpen_r1z s2 (addI s9 (1 : Int)) (List.getD s7 (s9).toNat ([] : ZB))) == (0 : Int)) then
    bif (tDecode_Pz (cOpen_r0z s2 (addI s9 (1 : Int)) (List.getD s7 (s9).toNat ([] : ZB)))) then
    bif ((tDecode_r1z (cOpen_r0z s2 (addI s9 (1 : Int)) (List.getD s7 (s9).toNat ([] : ZB)))) != (0 : Int)) then
     ex0 s7 s8 s9 key ((0 : Int), ((0 : Int), ((0 : Int), ()))) (tDecode_r1z (cOpen_r0z s2 (addI s9 (1 : Int)) (List.getD s7 (s9).toNat ([] : ZB)))) out s2 l
    else
    bif (decide ((out ++ ([(tDecode_r0z (cOpen_r0z s2 (addI s9 (1 : Int)) (List.getD s7 (s9).toNat ([] : ZB))))] : List (List ZR))).length ≤ big)) then
    next s7 s8 (addI s9 (1 : Int)) key s4 s6 (out ++ ([(tDecode_r0z (cOpen_r0z s2 (addI s9 (1 : Int)) (List.getD s7 (s9).toNat ([] : ZB))))] : List (List ZR))) s2 l
    else fail
    else fail
   else
   bif ((cOpen_r1z s2 (addI s9 (1 : Int)) (List.getD s7 (s9).toNat ([] : ZB))) != (0 : Int)) then
    ex0 s7 s8 s9 key ((0 : Int), ((0 : Int), ((0 : Int), ()))) (cOpen_r1z s2 (addI s9 (1 : Int)) (List.getD s7 (s9).toNat ([] : ZB))) out s2 l
   else
   bif (decide ((out ++ ([([] : List ZR)] : List (List ZR))).length ≤ big)) then
   next s7 s8 (addI s9 (1 : Int)) key s4 s6 (out ++ ([([] : List ZR)] : List (List ZR))) s2 l
   else fail
   else fail
  else
  bif (tDecode_Pz (List.getD s7 (s9).toNat ([] : ZB))) then
  bif ((tDecode_r1z (List.getD s7 (s9).toNat ([] : ZB))) != (0 : Int)) then
   ex0 s7 s8 s9 key ((0 : Int), ((0 : Int), ((0 : Int), ()))) (tDecode_r1z (List.getD s7 (s9).toNat ([] : ZB))) out s2 l
  else
  bif (decide ((out ++ ([(tDecode_r0z (List.getD s7 (s9).toNat ([] : ZB)))] : List (List ZR))).length ≤ big)) then
  next s7 s8 (addI s9 (1 : Int)) key s4 s6 (out ++ ([(tDecode_r0z (List.getD s7 (s9).toNat ([] : ZB)))] : List (List ZR))) s2 l
  else fail
  else fail
  else fail
 else
 ex1 s7 s8 s9 key s4 s6 out s2 l
def tReplay_z (lOpen_Pz : (ZD) → Bool) (lOpen_r0z : (ZD) → (ZL)) (lOpen_r1z : (ZD) → (List ZB)) (lOpen_r2z : (ZD) → Int) (tDecode_Pz : ZB → Bool) (tDecode_r0z : ZB → (List ZR)) (tDecode_r1z : ZB → Int) (cOpen_Pz : ZB → Int → ZB → Bool) (cOpen_r0z : ZB → Int → ZB → ZB) (cOpen_r1z : ZB → Int → ZB → Int) {X : Type} (F : Nat) (d_ : ZD) (key : ZB) (fail : X) (ret : ZL → List (List ZR) → Int → X) : X :=
 bif (lOpen_Pz d_) then
 bif ((lOpen_r2z d_) != (0 : Int)) then
  ret ((0 : Int), ((0 : Int), ((0 : Int), ()))) ([] : List (List ZR)) (lOpen_r2z d_)
 else
 bif (decide (((key.length : Nat) : Int) > (64 : Int))) then
  ret ((0 : Int), ((0 : Int), ((0 : Int), ()))) ([] : List (List ZR)) (1 : Int)
 else
 tReplay_l1F F fail
  (fun (s7 : List ZB) (s8 : Int) (s9 : Int) (key1 : ZB) (s4 : ZL) (s6 : Int) (out : List (List ZR)) (s2 : ZB) (l : ZL) =>
   ret s4 ([] : List (List ZR)) s6)
  (fun (s71 : List ZB) (s81 : Int) (s91 : Int) (key2 : ZB) (s41 : ZL) (s61 : Int) (out1 : List (List ZR)) (s21 : ZB) (l1 : ZL) =>
   ret l1 out1 (0 : Int))
  F (lOpen_r1z d_) (((lOpen_r1z d_).length : Nat) : Int) (0 : Int) key ((0 : Int), ((0 : Int), ((0 : Int), ()))) (0 : Int) ([] : List (List ZR)) key (lOpen_r0z d_)
 else fail
def tReplay_orcs_z (lOpen_Pz : (ZD) → Bool) (lOpen_r0z : (ZD) → (ZL)) (lOpen_r1z : (ZD) → (List ZB)) (lOpen_r2z : (ZD) → Int) (tDecode_Pz : ZB → Bool) (tDecode_r0z : ZB → (List ZR)) (tDecode_r1z : ZB → Int) (cOpen_Pz : ZB → Int → ZB → Bool) (cOpen_r0z : ZB → Int → ZB → ZB) (cOpen_r1z : ZB → Int → ZB → Int) : List (FuncId × Orc) := [(19, Orc.of lOpen_ps false 0 fun x => (lOpen_Pz x.1, [.d (.pair (.int .i64) (.pair (.int .i64) (.pair (.int .i64) .unit))) (lOpen_r0z x.1), .d (.slc (.slc (.int .u8))) (lOpen_r1z x.1), .d (.int .i64) (lOpen_r2z x.1)])), (33, Orc.of tDecode_ps false 0 fun x => (tDecode_Pz x.1, [.d (.slc (.pair (.int .i64) (.pair (.slc (.int .u8)) .unit))) (tDecode_r0z x.1), .d (.int .i64) (tDecode_r1z x.1)])), (70, Orc.of cOpen_ps true 1 fun x => (cOpen_Pz x.1 x.2.1 x.2.2.1, [.o 5 (.int .u8) (cOpen_r0z x.1 x.2.1 x.2.2.1), .d (.int .i64) (cOpen_r1z x.1 x.2.1 x.2.2.1)]))]
def tReplay_book0_z (lOpen_Pz : (ZD) → Bool) (lOpen_r0z : (ZD) → (ZL)) (lOpen_r1z : (ZD) → (List ZB)) (lOpen_r2z : (ZD) → Int) (tDecode_Pz : ZB → Bool) (tDecode_r0z : ZB → (List ZR)) (tDecode_r1z : ZB → Int) (cOpen_Pz : ZB → Int → ZB → Bool) (cOpen_r0z : ZB → Int → ZB → ZB) (cOpen_r1z : ZB → Int → ZB → Int) : Book := { Γ := gam, orc := orcsOf (tReplay_orcs_z lOpen_Pz lOpen_r0z lOpen_r1z lOpen_r2z tDecode_Pz tDecode_r0z tDecode_r1z cOpen_Pz cOpen_r0z cOpen_r1z), hint := hintsOf [(14, { keep := some [], keeps := [], own := [], dat := [], stk := [], rgb := [(5007, [(10, 0, 41)])] }), (69, { keep := some [0, 2, 7, 8, 9], keeps := [(1, [0, 2, 7, 8, 9])], own := [], dat := [], stk := [[0], [1, 4, 5, 6, 7, 10, 11, 12, 13, 31, 32, 34, 41]] })] }
def tReplay_book_z (lOpen_Pz : (ZD) → Bool) (lOpen_r0z : (ZD) → (ZL)) (lOpen_r1z : (ZD) → (List ZB)) (lOpen_r2z : (ZD) → Int) (tDecode_Pz : ZB → Bool) (tDecode_r0z : ZB → (List ZR)) (tDecode_r1z : ZB → Int) (cOpen_Pz : ZB → Int → ZB → Bool) (cOpen_r0z : ZB → Int → ZB → ZB) (cOpen_r1z : ZB → Int → ZB → Int) (F : Nat) : BookL Unit := { toBook := tReplay_book0_z lOpen_Pz lOpen_r0z lOpen_r1z lOpen_r2z tDecode_Pz tDecode_r0z tDecode_r1z cOpen_Pz cOpen_r0z cOpen_r1z, lo := losOf (tReplay_lo F), need := needsOf [(69, 1)] }
def tReplay_l1_G_z (lOpen_Pz : (ZD) → Bool) (lOpen_r0z : (ZD) → (ZL)) (lOpen_r1z : (ZD) → (List ZB)) (lOpen_r2z : (ZD) → Int) (tDecode_Pz : ZB → Bool) (tDecode_r0z : ZB → (List ZR)) (tDecode_r1z : ZB → Int) (cOpen_Pz : ZB → Int → ZB → Bool) (cOpen_r0z : ZB → Int → ZB → ZB) (cOpen_r1z : ZB → Int → ZB → Int) (F : Nat) (nx : tReplay_l1_T.T → ZO) (kq : ZK) (x : tReplay_l1_T.T) : ZO := tReplay_l1_z lOpen_Pz lOpen_r0z lOpen_r1z lOpen_r2z tDecode_Pz tDecode_r0z tDecode_r1z cOpen_Pz cOpen_r0z cOpen_r1z F none (fun s7 s8 s9 key s4 s6 out s2 l => nx (((), ((), (s7, (s8, (s9, ()))))), ((((), ()), ((key, ((), ((), ((), ((), ((), ())))))), ((), ()))), (((), ((), ((), ((), ())))), (s4, ((), (s6, ((), (out, (s2, (l, ()))))))))))) (fun y0 y1 y2 y3 y4 y5 y6 y7 y8 => kq .ret (tReplay_l1_T0.inst (((), ((), (y0, (y1, (y2, ()))))), ((((), ()), ((y3, ((), ((), ((), ((), ((), ())))))), ((), ()))), (((), ((), ((), ((), ())))), (y4, ((), (y5, ((), (y6, (y7, (y8, ())))))))))))) (fun y0 y1 y2 y3 y4 y5 y6 y7 y8 => kq (.exit 0) (tReplay_l1_T.inst (((), ((), (y0, (y1, (y2, ()))))), ((((), ()), ((y3, ((), ((), ((), ((), ((), ())))))), ((), ()))), (((), ((), ((), ((), ())))), (y4, ((), (y5, ((), (y6, (y7, (y8, ())))))))))))) x.1.2.2.1 x.1.2.2.2.1 x.1.2.2.2.2.1 x.2.1.2.1.1 x.2.2.2.1 x.2.2.2.2.2.1 x.2.2.2.2.2.2.2.1 x.2.2.2.2.2.2.2.2.1 x.2.2.2.2.2.2.2.2.2.1
theorem tReplay_l1_step_z (lOpen_Pz : (ZD) → Bool) (lOpen_r0z : (ZD) → (ZL)) (lOpen_r1z : (ZD) → (List ZB)) (lOpen_r2z : (ZD) → Int) (tDecode_Pz : ZB → Bool) (tDecode_r0z : ZB → (List ZR)) (tDecode_r1z : ZB → Int) (cOpen_Pz : ZB → Int → ZB → Bool) (cOpen_r0z : ZB → Int → ZB → ZB) (cOpen_r1z : ZB → Int → ZB → Int) (F : Nat) : LStep prog (tReplay_book_z lOpen_Pz lOpen_r0z lOpen_r1z lOpen_r2z tDecode_Pz tDecode_r0z tDecode_r1z cOpen_Pz cOpen_r0z cOpen_r1z F) F 69 0 1 tReplay_l1_T (tReplay_l1_G_z lOpen_Pz lOpen_r0z lOpen_r1z lOpen_r2z tDecode_Pz tDecode_r0z tDecode_r1z cOpen_Pz cOpen_r0z cOpen_r1z F) := fun d x KQ => by kernel_rfl
theorem tReplay_run_z (lOpen_Pz : (ZD) → Bool) (lOpen_r0z : (ZD) → (ZL)) (lOpen_r1z : (ZD) → (List ZB)) (lOpen_r2z : (ZD) → Int) (tDecode_Pz : ZB → Bool) (tDecode_r0z : ZB → (List ZR)) (tDecode_r1z : ZB → Int) (cOpen_Pz : ZB → Int → ZB → Bool) (cOpen_r0z : ZB → Int → ZB → ZB) (cOpen_r1z : ZB → Int → ZB → Int) (F : Nat) (x : ArgsT tReplay_ps) (kend : List BV → ZO) : runFnL prog (tReplay_book_z lOpen_Pz lOpen_r0z lOpen_r1z lOpen_r2z tDecode_Pz tDecode_r0z tDecode_r1z cOpen_Pz cOpen_r0z cOpen_r1z F) F 20 14 (argsInst tReplay_ps x) [.d (.pair (.int .i64) (.pair (.int .i64) (.pair (.int .i64) .unit))), .d (.slc (.slc (.pair (.int .i64) (.pair (.slc (.int .u8)) .unit)))), .d (.int .i64)] kend = tReplay_z lOpen_Pz lOpen_r0z lOpen_r1z lOpen_r2z tDecode_Pz tDecode_r0z tDecode_r1z cOpen_Pz cOpen_r0z cOpen_r1z F x.1 x.2.1 none (fun y0 y1 y2 => kend [BV.d (.pair (.int .i64) (.pair (.int .i64) (.pair (.int .i64) .unit))) y0, BV.d (.slc (.slc (.pair (.int .i64) (.pair (.slc (.int .u8)) .unit)))) y1, BV.d (.int .i64) y2]) := by kernel_rfl
theorem tReplay_l1_step (F : Nat) : LStep prog (tReplay_book F) F 69 0 1 tReplay_l1_T (tReplay_l1_G F) := tReplay_l1_step_z lOpen_P lOpen_r0 lOpen_r1 lOpen_r2 tDecode_P tDecode_r0 tDecode_r1 cOpen_P cOpen_r0 cOpen_r1 F
theorem tReplay_loOk (F : Nat) : LoOk prog (tReplay_book F) F := loOk_of (l := tReplay_lo F) rfl (fa (loOne_of 0 (by kernel_rfl) (by kernel_rfl) (lstep_run (tReplay_l1_step F) (fun _ _ => rfl) (fun _ _ _ _ => rfl))) fz)
theorem tReplay_run (F : Nat) (x : ArgsT tReplay_ps) (kend : List BV → ZO) : runFnL prog (tReplay_book F) F 20 14 (argsInst tReplay_ps x) [.d (.pair (.int .i64) (.pair (.int .i64) (.pair (.int .i64) .unit))), .d (.slc (.slc (.pair (.int .i64) (.pair (.slc (.int .u8)) .unit)))), .d (.int .i64)] kend = tReplay F x.1 x.2.1 none (fun y0 y1 y2 => kend [BV.d (.pair (.int .i64) (.pair (.int .i64) (.pair (.int .i64) .unit))) y0, BV.d (.slc (.slc (.pair (.int .i64) (.pair (.slc (.int .u8)) .unit)))) y1, BV.d (.int .i64) y2]) := tReplay_run_z lOpen_P lOpen_r0 lOpen_r1 lOpen_r2 tDecode_P tDecode_r0 tDecode_r1 cOpen_P cOpen_r0 cOpen_r1 F x kend
theorem tReplay_contract  : Contract prog 14 tReplay_orc := con_of (B0 := tReplay_book0) zN zG mix_ok zT tReplay_run (orcsOf_ok (fa lOpen_contract (fa tDecode_contract (fa cOpen_contract fz)))) (by kernel_rfl) (fun _ => rfl) tReplay_loOk (fun x h => (tReplay_plain x.1 x.2.1 h).elim fun F hF => ⟨F, fun kend => hF none _⟩)
end Go.AI
namespace Go.AI
open Go
open Go.Proofs.Tryz (prog)
set_option linter.unusedVariables false
@[reducible] def uFew_ps  : List PM := [.d (.slc (.pair (.int .i64) (.pair (.slc (.int .u8)) .unit)))]
def uFew_orc  : Orc := Orc.of uFew_ps true 0 fun x => (uFew_P x.1, [.d .bool (uFew_r x.1)])
@[reducible] def uFew_l1_T  : Tpl := { cur := ⟨[(0, .var (.slc (.pair (.int .i64) (.pair (.slc (.int .u8)) .unit)))), (1, .var .bool), (0, .var (.int .i64))], 20⟩, stk := [⟨[], 0⟩], heap := [] }
def uFew_orcs  : List (FuncId × Orc) := []
def uFew_book0  : Book := { Γ := gam, orc := orcsOf uFew_orcs, hint := hintsOf [(8, { keep := some [0, 2, 3], keeps := [(2, [0, 2, 3])], own := [], dat := [], stk := [] })] }
def uFew_l1_G (F : Nat) (nx : uFew_l1_T.T → ZO) (kq : ZK) (x : uFew_l1_T.T) : ZO := uFew_l1 F none (fun l s2 i => nx ((l, (s2, (i, ()))), (((), ()), ()))) (fun y0 y1 y2 => kq .ret (uFew_l1_T.inst ((y0, (y1, (y2, ()))), (((), ()), ())))) (fun y0 y1 y2 => kq (.exit 0) (uFew_l1_T.inst ((y0, (y1, (y2, ()))), (((), ()), ())))) x.1.1 x.1.2.1 x.1.2.2.1
def uFew_l1_R (F m : Nat) (x : uFew_l1_T.T) (kq : ZK) : ZO := uFew_l1F F none (fun y0 y1 y2 => kq .ret (uFew_l1_T.inst ((y0, (y1, (y2, ()))), (((), ()), ())))) (fun y0 y1 y2 => kq (.exit 0) (uFew_l1_T.inst ((y0, (y1, (y2, ()))), (((), ()), ())))) m x.1.1 x.1.2.1 x.1.2.2.1
def uFew_lo (F : Nat) : List (LoE Unit) := [⟨8, 2, LO.of uFew_l1_T (uFew_l1_R F F)⟩]
def uFew_book (F : Nat) : BookL Unit := { toBook := uFew_book0, lo := losOf (uFew_lo F), need := needsOf [] }
theorem uFew_l1_step (F : Nat) : LStep prog (uFew_book F) F 8 0 2 uFew_l1_T (uFew_l1_G F) := fun d x KQ => by kernel_rfl
theorem uFew_loOk (F : Nat) : LoOk prog (uFew_book F) F := loOk_of (l := uFew_lo F) rfl (fa (loOne_of 0 (by kernel_rfl) (by kernel_rfl) (lstep_run (uFew_l1_step F) (fun _ _ => rfl) (fun _ _ _ _ => rfl))) fz)
theorem uFew_run (F : Nat) (x : ArgsT uFew_ps) (kend : List BV → ZO) : runFnL prog (uFew_book F) F 20 8 (argsInst uFew_ps x) [.d .bool] kend = uFew F x.1 none (fun y0 => kend [BV.d .bool y0]) := by kernel_rfl
theorem uFew_contract  : Contract prog 8 uFew_orc := con_of (B0 := uFew_book0) zN zG mix_ok zT uFew_run (orcsOf_ok fz) (by kernel_rfl) (fun _ => rfl) uFew_loOk (fun x h => (uFew_plain x.1 h).elim fun F hF => ⟨F, fun kend => hF none _⟩)
@[reducible] def uSame_ps  : List PM := [.d (.slc (.pair (.int .i64) (.pair (.slc (.int .u8)) .unit))), .d (.slc (.pair (.int .i64) (.pair (.slc (.int .u8)) .unit)))]
def uSame_orc  : Orc := Orc.of uSame_ps true 0 fun x => (uSame_P x.1 x.2.1, [.d .bool (uSame_r x.1 x.2.1)])
@[reducible] def uSame_l1_T  : Tpl := { cur := ⟨[(0, .var (.slc (.pair (.int .i64) (.pair (.slc (.int .u8)) .unit)))), (0, .var (.slc (.pair (.int .i64) (.pair (.slc (.int .u8)) .unit)))), (2, .var .bool), (0, .var (.int .i64))], 37⟩, stk := [⟨[], 0⟩], heap := [] }
def uSame_orcs  : List (FuncId × Orc) := []
def uSame_book0  : Book := { Γ := gam, orc := orcsOf uSame_orcs, hint := hintsOf [(36, { keep := some [0, 1, 4, 5], keeps := [(4, [0, 1, 4, 5])], own := [], dat := [], stk := [] })] }
def uSame_l1_G (F : Nat) (nx : uSame_l1_T.T → ZO) (kq : ZK) (x : uSame_l1_T.T) : ZO := uSame_l1 F none (fun a b s4 i => nx ((a, (b, (s4, (i, ())))), (((), ()), ()))) (fun y0 y1 y2 y3 => kq .ret (uSame_l1_T.inst ((y0, (y1, (y2, (y3, ())))), (((), ()), ())))) (fun y0 y1 y2 y3 => kq (.exit 0) (uSame_l1_T.inst ((y0, (y1, (y2, (y3, ())))), (((), ()), ())))) x.1.1 x.1.2.1 x.1.2.2.1 x.1.2.2.2.1
def uSame_l1_R (F m : Nat) (x : uSame_l1_T.T) (kq : ZK) : ZO := uSame_l1F F none (fun y0 y1 y2 y3 => kq .ret (uSame_l1_T.inst ((y0, (y1, (y2, (y3, ())))), (((), ()), ())))) (fun y0 y1 y2 y3 => kq (.exit 0) (uSame_l1_T.inst ((y0, (y1, (y2, (y3, ())))), (((), ()), ())))) m x.1.1 x.1.2.1 x.1.2.2.1 x.1.2.2.2.1
def uSame_lo (F : Nat) : List (LoE Unit) := [⟨36, 4, LO.of uSame_l1_T (uSame_l1_R F F)⟩]
def uSame_book (F : Nat) : BookL Unit := { toBook := uSame_book0, lo := losOf (uSame_lo F), need := needsOf [] }
theorem uSame_l1_step (F : Nat) : LStep prog (uSame_book F) F 36 0 4 uSame_l1_T (uSame_l1_G F) := fun d x KQ => by kernel_rfl
theorem uSame_loOk (F : Nat) : LoOk prog (uSame_book F) F := loOk_of (l := uSame_lo F) rfl (fa (loOne_of 0 (by kernel_rfl) (by kernel_rfl) (lstep_run (uSame_l1_step F) (fun _ _ => rfl) (fun _ _ _ _ => rfl))) fz)
theorem uSame_run (F : Nat) (x : ArgsT uSame_ps) (kend : List BV → ZO) : runFnL prog (uSame_book F) F 20 36 (argsInst uSame_ps x) [.d .bool] kend = uSame F x.1 x.2.1 none (fun y0 => kend [BV.d .bool y0]) := by kernel_rfl
theorem uSame_contract  : Contract prog 36 uSame_orc := con_of (B0 := uSame_book0) zN zG mix_ok zT uSame_run (orcsOf_ok fz) (by kernel_rfl) (fun _ => rfl) uSame_loOk (fun x h => (uSame_plain x.1 x.2.1 h).elim fun F hF => ⟨F, fun kend => hF none _⟩)
@[reducible] def uSameAll_ps  : List PM := [.d (.slc (.slc (.pair (.int .i64) (.pair (.slc (.int .u8)) .unit)))), .d (.slc (.slc (.pair (.int .i64) (.pair (.slc (.int .u8)) .unit))))]
def uSameAll_orc  : Orc := Orc.of uSameAll_ps true 0 fun x => (uSameAll_P x.1 x.2.1, [.d .bool (uSameAll_r x.1 x.2.1)])
@[reducible] def uSameAll_l1_T  : Tpl := { cur := ⟨[(0, .var (.slc (.slc (.pair (.int .i64) (.pair (.slc (.int .u8)) .unit))))), (0, .var (.slc (.slc (.pair (.int .i64) (.pair (.slc (.int .u8)) .unit))))), (2, .var .bool), (0, .var (.int .i64))], 21⟩, stk := [⟨[], 0⟩], heap := [] }
def uSameAll_orcs  : List (FuncId × Orc) := [(36, uSame_orc)]
def uSameAll_book0  : Book := { Γ := gam, orc := orcsOf uSameAll_orcs, hint := hintsOf [(16, { keep := some [0, 1, 4, 5], keeps := [(4, [0, 1, 4, 5])], own := [], dat := [], stk := [] })] }
def uSameAll_l1_G (F : Nat) (nx : uSameAll_l1_T.T → ZO) (kq : ZK) (x : uSameAll_l1_T.T) : ZO := uSameAll_l1 F none (fun a b s4 i => nx ((a, (b, (s4, (i, ())))), (((), ()), ()))) (fun y0 y1 y2 y3 => kq .ret (uSameAll_l1_T.inst ((y0, (y1, (y2, (y3, ())))), (((), ()), ())))) (fun y0 y1 y2 y3 => kq (.exit 0) (uSameAll_l1_T.inst ((y0, (y1, (y2, (y3, ())))), (((), ()), ())))) x.1.1 x.1.2.1 x.1.2.2.1 x.1.2.2.2.1
def uSameAll_l1_R (F m : Nat) (x : uSameAll_l1_T.T) (kq : ZK) : ZO := uSameAll_l1F F none (fun y0 y1 y2 y3 => kq .ret (uSameAll_l1_T.inst ((y0, (y1, (y2, (y3, ())))), (((), ()), ())))) (fun y0 y1 y2 y3 => kq (.exit 0) (uSameAll_l1_T.inst ((y0, (y1, (y2, (y3, ())))), (((), ()), ())))) m x.1.1 x.1.2.1 x.1.2.2.1 x.1.2.2.2.1
def uSameAll_lo (F : Nat) : List (LoE Unit) := [⟨16, 4, LO.of uSameAll_l1_T (uSameAll_l1_R F F)⟩]
def uSameAll_book (F : Nat) : BookL Unit := { toBook := uSameAll_book0, lo := losOf (uSameAll_lo F), need := needsOf [] }
theorem uSameAll_l1_step (F : Nat) : LStep prog (uSameAll_book F) F 16 0 4 uSameAll_l1_T (uSameAll_l1_G F) := fun d x KQ => by kernel_rfl
theorem uSameAll_loOk (F : Nat) : LoOk prog (uSameAll_book F) F := loOk_of (l := uSameAll_lo F) rfl (fa (loOne_of 0 (by kernel_rfl) (by kernel_rfl) (lstep_run (uSameAll_l1_step F) (fun _ _ => rfl) (fun _ _ _ _ => rfl))) fz)
theorem uSameAll_run (F : Nat) (x : ArgsT uSameAll_ps) (kend : List BV → ZO) : runFnL prog (uSameAll_book F) F 20 16 (argsInst uSameAll_ps x) [.d .bool] kend = uSameAll F x.1 x.2.1 none (fun y0 => kend [BV.d .bool y0]) := by kernel_rfl
theorem uSameAll_contract  : Contract prog 16 uSameAll_orc := con_of (B0 := uSameAll_book0) zN zG mix_ok zT uSameAll_run (orcsOf_ok (fa uSame_contract fz)) (by kernel_rfl) (fun _ => rfl) uSameAll_loOk (fun x h => (uSameAll_plain x.1 x.2.1 h).elim fun F hF => ⟨F, fun kend => hF none _⟩)
end Go.AI
namespace Go.AI
open Go
open Go.Proofs.Tryz (prog)
set_option linter.unusedVariables false
@[reducible] def tfew_ps  : List PM := [.d (.slc (.slc (.pair (.int .i64) (.pair (.slc (.int .u8)) .unit)))), .d (.slc (.int .u8))]
def tfew_orc  : Orc := Orc.of tfew_ps true 0 fun x => (tfew_P x.1 x.2.1, [.d .bool (tfew_r x.1 x.2.1)])
@[reducible] def tfew_l2_T  : Tpl := { cur := ⟨[(0, .var (.slc (.slc (.pair (.int .i64) (.pair (.slc (.int .u8)) .unit))))), (0, .var (.slc (.int .u8))), (2, .var .bool), (0, .var (.int .i64)), (0, .var (.int .i64)), (0, .var (.int .i64))], 57⟩, stk := [⟨[], 0⟩], heap := [] }
@[reducible] def tfew_l1_T  : Tpl := { cur := ⟨[(0, .var (.slc (.slc (.pair (.int .i64) (.pair (.slc (.int .u8)) .unit))))), (0, .var (.slc (.int .u8))), (2, .var .bool), (0, .var (.int .i64)), (0, .var (.int .i64))], 58⟩, stk := [⟨[], 0⟩], heap := [] }
def tfew_orcs  : List (FuncId × Orc) := [(8, uFew_orc), (37, tCheck_orc)]
def tfew_book0  : Book := { Γ := gam, orc := orcsOf tfew_orcs, hint := hintsOf [(17, { keep := some [0, 1, 4, 5, 6, 7], keeps := [(3, [0, 1, 4, 5, 6]), (8, [0, 1, 4, 5, 6, 7])], own := [], dat := [], stk := [] })] }
def tfew_l2_G (F : Nat) (nx : tfew_l2_T.T → ZO) (kq : ZK) (x : tfew_l2_T.T) : ZO := tfew_l2 F none (fun l key s4 n i k => nx ((l, (key, (s4, (n, (i, (k, ())))))), (((), ()), ()))) (fun y0 y1 y2 y3 y4 y5 => kq (.exit 2) (tfew_l2_T.inst ((y0, (y1, (y2, (y3, (y4, (y5, ())))))), (((), ()), ())))) x.1.1 x.1.2.1 x.1.2.2.1 x.1.2.2.2.1 x.1.2.2.2.2.1 x.1.2.2.2.2.2.1
def tfew_l2_R (F m : Nat) (x : tfew_l2_T.T) (kq : ZK) : ZO := tfew_l2F F none (fun y0 y1 y2 y3 y4 y5 => kq (.exit 2) (tfew_l2_T.inst ((y0, (y1, (y2, (y3, (y4, (y5, ())))))), (((), ()), ())))) m x.1.1 x.1.2.1 x.1.2.2.1 x.1.2.2.2.1 x.1.2.2.2.2.1 x.1.2.2.2.2.2.1
def tfew_l1_G (F : Nat) (nx : tfew_l1_T.T → ZO) (kq : ZK) (x : tfew_l1_T.T) : ZO := tfew_l1 F none (fun l key s4 n i => nx ((l, (key, (s4, (n, (i, ()))))), (((), ()), ()))) (fun y0 y1 y2 y3 y4 => kq .ret (tfew_l1_T.inst ((y0, (y1, (y2, (y3, (y4, ()))))), (((), ()), ())))) (fun y0 y1 y2 y3 y4 => kq (.exit 0) (tfew_l1_T.inst ((y0, (y1, (y2, (y3, (y4, ()))))), (((), ()), ())))) x.1.1 x.1.2.1 x.1.2.2.1 x.1.2.2.2.1 x.1.2.2.2.2.1
def tfew_l1_R (F m : Nat) (x : tfew_l1_T.T) (kq : ZK) : ZO := tfew_l1F F none (fun y0 y1 y2 y3 y4 => kq .ret (tfew_l1_T.inst ((y0, (y1, (y2, (y3, (y4, ()))))), (((), ()), ())))) (fun y0 y1 y2 y3 y4 => kq (.exit 0) (tfew_l1_T.inst ((y0, (y1, (y2, (y3, (y4, ()))))), (((), ()), ())))) m x.1.1 x.1.2.1 x.1.2.2.1 x.1.2.2.2.1 x.1.2.2.2.2.1
def tfew_lo (F : Nat) : List (LoE Unit) := [⟨17, 8, LO.of tfew_l2_T (tfew_l2_R F F)⟩,
 ⟨17, 3, LO.of tfew_l1_T (tfew_l1_R F F)⟩]
def tfew_book (F : Nat) : BookL Unit := { toBook := tfew_book0, lo := losOf (tfew_lo F), need := needsOf [] }
theorem tfew_l2_step (F : Nat) : LStep prog (tfew_book F) F 17 1 8 tfew_l2_T (tfew_l2_G F) := fun d x KQ => by kernel_rfl
theorem tfew_l1_step (F : Nat) : LStep prog (tfew_book F) F 17 0 3 tfew_l1_T (tfew_l1_G F) := fun d x KQ => by kernel_rfl
theorem tfew_loOk (F : Nat) : LoOk prog (tfew_book F) F := loOk_of (l := tfew_lo F) rfl (fa (loOne_of 1 (by kernel_rfl) (by kernel_rfl) (lstep_run (tfew_l2_step F) (fun _ _ => rfl) (fun _ _ _ _ => rfl))) (fa (loOne_of 0 (by kernel_rfl) (by kernel_rfl) (lstep_run (tfew_l1_step F) (fun _ _ => rfl) (fun _ _ _ _ => rfl))) fz))
theorem tfew_run (F : Nat) (x : ArgsT tfew_ps) (kend : List BV → ZO) : runFnL prog (tfew_book F) F 20 17 (argsInst tfew_ps x) [.d .bool] kend = tfew F x.1 x.2.1 none (fun y0 => kend [BV.d .bool y0]) := by kernel_rfl
theorem tfew_contract  : Contract prog 17 tfew_orc := con_of (B0 := tfew_book0) zN zG mix_ok zT tfew_run (orcsOf_ok (fa uFew_contract (fa tCheck_contract fz))) (by kernel_rfl) (fun _ => rfl) tfew_loOk (fun x h => (tfew_plain x.1 x.2.1 h).elim fun F hF => ⟨F, fun kend => hF none _⟩)
@[reducible] def tbegin_ps  : List PM := []
def tbegin_orc  : Orc := Orc.of tbegin_ps false 0 fun x => (tbegin_P, [.d (.pair (.slc (.arr 16 (.int .u8))) (.pair (.slc (.pair (.int .i64) (.pair (.arr 16 (.int .u8)) .unit))) .unit)) (tbegin_r0), .d (.pair (.int .i64) (.pair (.int .i64) (.pair (.int .i64) .unit))) (tbegin_r1), .d .bool (tbegin_r2)])
def tbegin_orcs  : List (FuncId × Orc) := [(22, dRun_orc), (83, lFormat_orc), (84, dNew_orc)]
def tbegin_book0  : Book := { Γ := gam, orc := orcsOf tbegin_orcs, hint := hintsOf [] }
def tbegin_lo (F : Nat) : List (LoE Unit) := []
def tbegin_book (F : Nat) : BookL Unit := { toBook := tbegin_book0, lo := losOf (tbegin_lo F), need := needsOf [] }
theorem tbegin_loOk (F : Nat) : LoOk prog (tbegin_book F) F := loOk_of (l := tbegin_lo F) rfl fz
theorem tbegin_run (F : Nat) (x : ArgsT tbegin_ps) (kend : List BV → ZO) : runFnL prog (tbegin_book F) F 20 38 (argsInst tbegin_ps x) [.d (.pair (.slc (.arr 16 (.int .u8))) (.pair (.slc (.pair (.int .i64) (.pair (.arr 16 (.int .u8)) .unit))) .unit)), .d (.pair (.int .i64) (.pair (.int .i64) (.pair (.int .i64) .unit))), .d .bool] kend = tbegin F  none (fun y0 y1 y2 => kend [BV.d (.pair (.slc (.arr 16 (.int .u8))) (.pair (.slc (.pair (.int .i64) (.pair (.arr 16 (.int .u8)) .unit))) .unit)) y0, BV.d (.pair (.int .i64) (.pair (.int .i64) (.pair (.int .i64) .unit))) y1, BV.d .bool y2]) := by kernel_rfl
theorem tbegin_contract  : Contract prog 38 tbegin_orc := con_of (B0 := tbegin_book0) zN zG mix_ok zT tbegin_run (orcsOf_ok (fa dRun_contract (fa lFormat_contract (fa dNew_contract fz)))) (by kernel_rfl) (fun _ => rfl) tbegin_loOk (fun x h => (tbegin_plain  h).elim fun F hF => ⟨F, fun kend => hF none _⟩)
@[reducible] def tcommitted_ps  : List PM := [.d (.slc (.slc (.pair (.int .i64) (.pair (.slc (.int .u8)) .unit)))), .d (.slc (.int .u8))]
def tcommitted_orc  : Orc := Orc.of tcommitted_ps false 0 fun x => (tcommitted_P x.1 x.2.1, [.d (.pair (.slc (.arr 16 (.int .u8))) (.pair (.slc (.pair (.int .i64) (.pair (.arr 16 (.int .u8)) .unit))) .unit)) (tcommitted_r0 x.1 x.2.1), .d (.pair (.int .i64) (.pair (.int .i64) (.pair (.int .i64) .unit))) (tcommitted_r1 x.1 x.2.1), .d .bool (tcommitted_r2 x.1 x.2.1)])
@[reducible] def tcommitted_l1_T  : Tpl := { cur := ⟨[(0, .var (.slc (.slc (.pair (.int .i64) (.pair (.slc (.int .u8)) .unit))))), (0, .var (.slc (.int .u8))), (2, .ptr 0 []), (0, .ptr 1 []), (1, .ptr 2 []), (0, .ptr 3 []), (0, .var .bool), (0, .var (.int .i64))], 49⟩, stk := [⟨[], 0⟩], heap := [.box (.var (.pair (.slc (.arr 16 (.int .u8))) (.pair (.slc (.pair (.int .i64) (.pair (.arr 16 (.int .u8)) .unit))) .unit))), .box (.var (.pair (.int .i64) (.pair (.int .i64) (.pair (.int .i64) .unit)))), .box (.var (.pair (.slc (.arr 16 (.int .u8))) (.pair (.slc (.pair (.int .i64) (.pair (.arr 16 (.int .u8)) .unit))) .unit))), .box (.var (.pair (.int .i64) (.pair (.int .i64) (.pair (.int .i64) .unit))))] }
def tcommitted_orcs  : List (FuncId × Orc) := [(10, tCommit_orc), (22, dRun_orc), (38, tbegin_orc)]
def tcommitted_book0  : Book := { Γ := gam, orc := orcsOf tcommitted_orcs, hint := hintsOf [(18, { keep := some [0, 1, 4, 5, 7, 8, 9, 10], keeps := [(3, [0, 1, 4, 5, 7, 8, 9, 10])], own := [], dat := [], stk := [] })] }
def tcommitted_l1_G (F : Nat) (nx : tcommitted_l1_T.T → ZO) (kq : ZK) (x : tcommitted_l1_T.T) : ZO := tcommitted_l1 F none (fun l key ok i s4 s5 d_ x_ => nx ((l, (key, ((), ((), ((), ((), (ok, (i, ())))))))), (((), ()), (s4, (s5, (d_, (x_, ()))))))) (fun y0 y1 y2 y3 y4 y5 y6 y7 => kq (.exit 0) (tcommitted_l1_T.inst ((y0, (y1, ((), ((), ((), ((), (y2, (y3, ())))))))), (((), ()), (y4, (y5, (y6, (y7, ())))))))) x.1.1 x.1.2.1 x.1.2.2.2.2.2.2.1 x.1.2.2.2.2.2.2.2.1 x.2.2.1 x.2.2.2.1 x.2.2.2.2.1 x.2.2.2.2.2.1
def tcommitted_l1_R (F m : Nat) (x : tcommitted_l1_T.T) (kq : ZK) : ZO := tcommitted_l1F F none (fun y0 y1 y2 y3 y4 y5 y6 y7 => kq (.exit 0) (tcommitted_l1_T.inst ((y0, (y1, ((), ((), ((), ((), (y2, (y3, ())))))))), (((), ()), (y4, (y5, (y6, (y7, ())))))))) m x.1.1 x.1.2.1 x.1.2.2.2.2.2.2.1 x.1.2.2.2.2.2.2.2.1 x.2.2.1 x.2.2.2.1 x.2.2.2.2.1 x.2.2.2.2.2.1
def tcommitted_lo (F : Nat) : List (LoE Unit) := [⟨18, 3, LO.of tcommitted_l1_T (tcommitted_l1_R F F)⟩]
def tcommitted_book (F : Nat) : BookL Unit := { toBook := tcommitted_book0, lo := losOf (tcommitted_lo F), need := needsOf [] }
theorem tcommitted_l1_step (F : Nat) : LStep prog (tcommitted_book F) F 18 0 3 tcommitted_l1_T (tcommitted_l1_G F) := fun d x KQ => by kernel_rfl
theorem tcommitted_loOk (F : Nat) : LoOk prog (tcommitted_book F) F := loOk_of (l := tcommitted_lo F) rfl (fa (loOne_of 0 (by kernel_rfl) (by kernel_rfl) (lstep_run (tcommitted_l1_step F) (fun _ _ => rfl) (fun _ _ _ _ => rfl))) fz)
theorem tcommitted_run (F : Nat) (x : ArgsT tcommitted_ps) (kend : List BV → ZO) : runFnL prog (tcommitted_book F) F 20 18 (argsInst tcommitted_ps x) [.d (.pair (.slc (.arr 16 (.int .u8))) (.pair (.slc (.pair (.int .i64) (.pair (.arr 16 (.int .u8)) .unit))) .unit)), .d (.pair (.int .i64) (.pair (.int .i64) (.pair (.int .i64) .unit))), .d .bool] kend = tcommitted F x.1 x.2.1 none (fun y0 y1 y2 => kend [BV.d (.pair (.slc (.arr 16 (.int .u8))) (.pair (.slc (.pair (.int .i64) (.pair (.arr 16 (.int .u8)) .unit))) .unit)) y0, BV.d (.pair (.int .i64) (.pair (.int .i64) (.pair (.int .i64) .unit))) y1, BV.d .bool y2]) := by kernel_rfl
theorem tcommitted_contract  : Contract prog 18 tcommitted_orc := con_of (B0 := tcommitted_book0) zN zG mix_ok zT tcommitted_run (orcsOf_ok (fa tCommit_contract (fa dRun_contract (fa tbegin_contract fz)))) (by kernel_rfl) (fun _ => rfl) tcommitted_loOk (fun x h => (tcommitted_plain x.1 x.2.1 h).elim fun F hF => ⟨F, fun kend => hF none _⟩)
end Go.AI
namespace Go.AI
open Go
open Go.Proofs.Tryz (prog)
set_option linter.unusedVariables false
@[reducible] def TransactionReads_ps  : List PM := [.d (.slc (.slc (.pair (.int .i64) (.pair (.slc (.int .u8)) .unit)))), .d (.slc (.int .u8))]
def TransactionReads_orc  : Orc := Orc.of TransactionReads_ps true 0 fun x => (TransactionReads_P x.1 x.2.1, [.d .bool (TransactionReads_r x.1 x.2.1)])
def TransactionReads_orcs  : List (FuncId × Orc) := [(9, law50_awake_orc), (14, tReplay_orc), (16, uSameAll_orc), (17, tfew_orc), (18, tcommitted_orc)]
def TransactionReads_book0  : Book := { Γ := gam, orc := orcsOf TransactionReads_orcs, hint := hintsOf [] }
def TransactionReads_lo (F : Nat) : List (LoE Unit) := []
def TransactionReads_book (F : Nat) : BookL Unit := { toBook := TransactionReads_book0, lo := losOf (TransactionReads_lo F), need := needsOf [] }
theorem TransactionReads_loOk (F : Nat) : LoOk prog (TransactionReads_book F) F := loOk_of (l := TransactionReads_lo F) rfl fz
theorem TransactionReads_run (F : Nat) (x : ArgsT TransactionReads_ps) (kend : List BV → ZO) : runFnL prog (TransactionReads_book F) F 20 5 (argsInst TransactionReads_ps x) [.d .bool] kend = TransactionReads F x.1 x.2.1 none (fun y0 => kend [BV.d .bool y0]) := by kernel_rfl
theorem TransactionReads_contract  : Contract prog 5 TransactionReads_orc := con_of (B0 := TransactionReads_book0) zN zG mix_ok zT TransactionReads_run (orcsOf_ok (fa law50_awake_contract (fa tReplay_contract (fa uSameAll_contract (fa tfew_contract (fa tcommitted_contract fz)))))) (by kernel_rfl) (fun _ => rfl) TransactionReads_loOk (fun x h => (TransactionReads_plain x.1 x.2.1 h).elim fun F hF => ⟨F, fun kend => hF none _⟩)
end Go.AI
namespace Go.AI
open Go
abbrev raS : Sch := .slc (.slc (.pair (.int .i64) (.pair (.slc (.int .u8)) .unit)))
theorem TransactionReads_wf (x : LawT [raS, .slc (.int .u8)]) (_ : WfArgs [raS, .slc (.int .u8)] x) : TransactionReads_P x.1 x.2.1 = true := rfl
end Go.AI
