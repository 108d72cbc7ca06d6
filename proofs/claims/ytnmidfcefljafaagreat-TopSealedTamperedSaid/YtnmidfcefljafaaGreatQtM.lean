/- Texts of the proof, joined: Types WireM WireM2 DigestM DigestM2 CipherM CipherM2 DiskM LogR LogM TransM TransM4 TransM6 TransM2 TopL7 TopW7. -/
import Derived.Test.YtnmidfcefljafaaGreatProg
import Derived.Test.YtnmidfcefljafaaGreatQtA5
import Derived.KernelRfl
import Derived.Test.YtnmidfcefljafaaGreatQtWireP
import Derived.Test.YtnmidfcefljafaaGreatQtWireP2
import Derived.Test.YtnmidfcefljafaaGreatQtDigestP3
import Derived.Test.YtnmidfcefljafaaGreatQtDigestP4
import Derived.Test.YtnmidfcefljafaaGreatQtCipherP4
import Derived.Test.YtnmidfcefljafaaGreatQtDiskP3
import Derived.RecoverIn
import Derived.Tactics
import Derived.Tactics2
import Derived.TacticsInMore
import Derived.RegionIn
import Derived.Laws.Pointers
import Derived.Test.YtnmidfcefljafaaGreatQtLogP7
import Derived.Test.YtnmidfcefljafaaGreatQtTransP
import Derived.Test.YtnmidfcefljafaaGreatQtTransP2
import Derived.Test.YtnmidfcefljafaaGreatQtTransP5
import Derived.Test.YtnmidfcefljafaaGreatQtTopP7
set_option maxRecDepth 100000
namespace Go.AI
abbrev ZO := Option Unit
abbrev ZK := AExit → ASt → ZO
end Go.AI
namespace Go.AI
open Go
def gam  : Gam := [
 none,
 some ⟨.func, 1, none, false⟩,
 some ⟨.other, 1, some (.int .i64), false⟩,
 some ⟨.other, 1, some (.int .i64), false⟩,
 some ⟨.other, 1, some .bool, false⟩,
 some ⟨.other, 1, some (.int .u8), false⟩,
 some ⟨.other, 1, some (.int .u8), false⟩,
 some ⟨(.struct [(0, 2), (1, 3), (2, 4), (3, 6)]), 4, some (.pair (.int .i64) (.pair (.int .i64) (.pair .bool (.pair (.int .u8) .unit)))), false⟩,
 some ⟨(.struct [(0, 2), (1, 3), (2, 4), (3, 6)]), 4, some (.pair (.int .i64) (.pair (.int .i64) (.pair .bool (.pair (.int .u8) .unit)))), false⟩,
 some ⟨.other, 1, some .str, false⟩,
 some ⟨.other, 1, some .str, false⟩,
 some ⟨.other, 1, some .str, false⟩,
 some ⟨.other, 1, some (.int .u64), false⟩,
 some ⟨(.struct [(0, 9), (1, 12)]), 2, some (.pair .str (.pair (.int .u64) .unit)), false⟩,
 some ⟨(.struct [(0, 9), (1, 12)]), 2, some (.pair .str (.pair (.int .u64) .unit)), false⟩,
 some ⟨(.ptr 258), 1, none, false⟩,
 some ⟨(.ptr 261), 1, none, false⟩,
 some ⟨(.ptr 270), 1, none, false⟩,
 some ⟨(.struct [(0, 17)]), 1, none, false⟩,
 some ⟨(.struct [(0, 17)]), 1, none, false⟩,
 some ⟨.other, 1, none, false⟩,
 some ⟨.other, 1, some (.int .i32), false⟩,
 some ⟨(.slice 32), 1, some (.slc (.slc (.int .u8))), false⟩,
 some ⟨(.slice 62), 1, some (.slc (.arr 16 (.int .u8))), false⟩,
 some ⟨.func, 1, none, false⟩,
 some ⟨(.slice 137), 1, some (.slc (.pair (.int .i64) (.pair (.arr 16 (.int .u8)) .unit))), false⟩,
 some ⟨(.struct [(0, 23), (1, 25)]), 2, some (.pair (.slc (.arr 16 (.int .u8))) (.pair (.slc (.pair (.int .i64) (.pair (.arr 16 (.int .u8)) .unit))) .unit)), false⟩,
 some ⟨(.struct [(0, 23), (1, 25)]), 2, some (.pair (.slc (.arr 16 (.int .u8))) (.pair (.slc (.pair (.int .i64) (.pair (.arr 16 (.int .u8)) .unit))) .unit)), false⟩,
 some ⟨(.struct [(0, 3), (1, 3), (2, 3)]), 3, some (.pair (.int .i64) (.pair (.int .i64) (.pair (.int .i64) .unit))), true⟩,
 some ⟨(.struct [(0, 3), (1, 3), (2, 3)]), 3, some (.pair (.int .i64) (.pair (.int .i64) (.pair (.int .i64) .unit))), true⟩,
 none,
 some ⟨.func, 1, none, false⟩,
 some ⟨(.slice 5), 1, some (.slc (.int .u8)), false⟩,
 some ⟨(.slice 40), 1, some (.slc (.pair (.int .i64) (.pair (.int .i64) (.pair (.slc (.arr 16 (.int .u8))) .unit)))), false⟩,
 some ⟨.other, 1, some (.int .i64), false⟩,
 none,
 some ⟨.func, 1, none, false⟩,
 none,
 some ⟨.func, 1, none, false⟩,
 some ⟨(.struct [(0, 3), (1, 3), (2, 23)]), 3, some (.pair (.int .i64) (.pair (.int .i64) (.pair (.slc (.arr 16 (.int .u8))) .unit))), false⟩,
 some ⟨(.struct [(0, 3), (1, 3), (2, 23)]), 3, some (.pair (.int .i64) (.pair (.int .i64) (.pair (.slc (.arr 16 (.int .u8))) .unit))), false⟩,
 none,
 some ⟨.func, 1, none, false⟩,
 none,
 some ⟨.func, 1, none, false⟩,
 none,
 some ⟨.func, 1, none, false⟩,
 some ⟨.func, 1, none, false⟩,
 some ⟨.func, 1, none, false⟩,
 some ⟨(.slice 67), 1, some (.slc (.slc (.pair (.int .i64) (.pair (.slc (.int .u8)) .unit)))), false⟩,
 some ⟨.func, 1, none, false⟩,
 none,
 some ⟨.func, 1, none, false⟩,
 some ⟨.func, 1, none, false⟩,
 none,
 some ⟨.func, 1, none, false⟩,
 some ⟨.func, 1, none, false⟩,
 none,
 some ⟨.func, 1, none, false⟩,
 some ⟨.func, 1, none, false⟩,
 some ⟨(.array 3 5), 3, some (.arr 3 (.int .u8)), true⟩,
 some ⟨(.array 16 5), 16, some (.arr 16 (.int .u8)), true⟩,
 some ⟨(.array 16 5), 16, some (.arr 16 (.int .u8)), true⟩,
 some ⟨.func, 1, none, false⟩,
 some ⟨(.slice 3), 1, some (.slc (.int .i64)), false⟩,
 some ⟨(.struct [(0, 32), (1, 64)]), 2, some (.pair (.slc (.int .u8)) (.pair (.slc (.int .i64)) .unit)), false⟩,
 some ⟨(.struct [(0, 32), (1, 64)]), 2, some (.pair (.slc (.int .u8)) (.pair (.slc (.int .i64)) .unit)), false⟩,
 some ⟨(.slice 84), 1, some (.slc (.pair (.int .i64) (.pair (.slc (.int .u8)) .unit))), false⟩,
 some ⟨.func, 1, none, false⟩,
 none,
 some ⟨.func, 1, none, false⟩,
 some ⟨.func, 1, none, false⟩,
 some ⟨(.slice 81), 1, some (.slc (.pair (.slc (.pair (.int .i64) (.pair (.slc (.int .u8)) .unit))) (.pair .bool (.pair (.int .u8) .unit)))), false⟩,
 some ⟨.func, 1, none, false⟩,
 some ⟨(.struct [(0, 27), (2, 29), (5, 49)]), 6, some (.pair (.pair (.slc (.arr 16 (.int .u8))) (.pair (.slc (.pair (.int .i64) (.pair (.arr 16 (.int .u8)) .unit))) .unit)) (.pair (.pair (.int .i64) (.pair (.int .i64) (.pair (.int .i64) .unit))) (.pair (.slc (.slc (.pair (.int .i64) (.pair (.slc (.int .u8)) .unit)))) .unit))), false⟩,
 some ⟨(.struct [(0, 27), (2, 29), (5, 49)]), 6, some (.pair (.pair (.slc (.arr 16 (.int .u8))) (.pair (.slc (.pair (.int .i64) (.pair (.arr 16 (.int .u8)) .unit))) .unit)) (.pair (.pair (.int .i64) (.pair (.int .i64) (.pair (.int .i64) .unit))) (.pair (.slc (.slc (.pair (.int .i64) (.pair (.slc (.int .u8)) .unit)))) .unit))), false⟩,
 none,
 some ⟨.func, 1, none, false⟩,
 none,
 some ⟨.func, 1, none, false⟩,
 some ⟨(.struct [(0, 67), (1, 4), (2, 5)]), 3, some (.pair (.slc (.pair (.int .i64) (.pair (.slc (.int .u8)) .unit))) (.pair .bool (.pair (.int .u8) .unit))), false⟩,
 some ⟨(.struct [(0, 67), (1, 4), (2, 5)]), 3, some (.pair (.slc (.pair (.int .i64) (.pair (.slc (.int .u8)) .unit))) (.pair .bool (.pair (.int .u8) .unit))), false⟩,
 some ⟨.func, 1, none, false⟩,
 some ⟨(.struct [(0, 3), (1, 32)]), 2, some (.pair (.int .i64) (.pair (.slc (.int .u8)) .unit)), false⟩,
 some ⟨(.struct [(0, 3), (1, 32)]), 2, some (.pair (.int .i64) (.pair (.slc (.int .u8)) .unit)), false⟩,
 none,
 some ⟨.func, 1, none, false⟩,
 some ⟨.func, 1, none, false⟩,
 some ⟨.func, 1, none, false⟩,
 some ⟨.func, 1, none, false⟩,
 some ⟨.func, 1, none, false⟩,
 some ⟨.func, 1, none, false⟩,
 some ⟨.func, 1, none, false⟩,
 some ⟨.func, 1, none, false⟩,
 some ⟨.func, 1, none, false⟩,
 some ⟨.func, 1, none, false⟩,
 some ⟨.func, 1, none, false⟩,
 some ⟨.func, 1, none, false⟩,
 some ⟨.func, 1, none, false⟩,
 some ⟨(.array 2 98), 2, none, false⟩,
 some ⟨.func, 1, none, false⟩,
 some ⟨(.ptr 27), 1, none, false⟩,
 some ⟨.func, 1, none, false⟩,
 some ⟨.func, 1, none, false⟩,
 some ⟨.func, 1, none, false⟩,
 some ⟨(.ptr 107), 1, none, false⟩,
 some ⟨(.struct [(0, 23)]), 1, some (.pair (.slc (.arr 16 (.int .u8))) .unit), false⟩,
 some ⟨(.struct [(0, 23)]), 1, some (.pair (.slc (.arr 16 (.int .u8))) .unit), false⟩,
 none,
 some ⟨.func, 1, none, false⟩,
 some ⟨.func, 1, none, false⟩,
 some ⟨.func, 1, none, false⟩,
 some ⟨.func, 1, none, false⟩,
 some ⟨.func, 1, none, false⟩,
 some ⟨.func, 1, none, false⟩,
 none,
 some ⟨.func, 1, none, false⟩,
 some ⟨.func, 1, none, false⟩,
 none,
 some ⟨.func, 1, none, false⟩,
 none,
 some ⟨.func, 1, none, false⟩,
 none,
 some ⟨.func, 1, none, false⟩,
 none,
 some ⟨.func, 1, none, false⟩,
 some ⟨.func, 1, none, false⟩,
 some ⟨.func, 1, none, false⟩,
 some ⟨.func, 1, none, false⟩,
 some ⟨.func, 1, none, false⟩,
 some ⟨.func, 1, none, false⟩,
 some ⟨.func, 1, none, false⟩,
 some ⟨.func, 1, none, false⟩,
 some ⟨.func, 1, none, false⟩,
 some ⟨.other, 1, some (.int .u32), false⟩,
 some ⟨.func, 1, none, false⟩,
 some ⟨(.struct [(0, 3), (1, 62)]), 17, some (.pair (.int .i64) (.pair (.arr 16 (.int .u8)) .unit)), true⟩,
 some ⟨(.struct [(0, 3), (1, 62)]), 17, some (.pair (.int .i64) (.pair (.arr 16 (.int .u8)) .unit)), true⟩,
 some ⟨.func, 1, none, false⟩,
 some ⟨.func, 1, none, false⟩,
 some ⟨.func, 1, none, false⟩,
 some ⟨(.struct []), 0, none, false⟩,
 some ⟨(.struct []), 0, none, false⟩,
 none,
 some ⟨.func, 1, none, false⟩,
 some ⟨.func, 1, none, false⟩,
 some ⟨.func, 1, none, false⟩,
 some ⟨.func, 1, none, false⟩,
 some ⟨.func, 1, none, false⟩,
 some ⟨.func, 1, none, false⟩,
 some ⟨(.ptr 32), 1, none, false⟩,
 some ⟨.func, 1, none, false⟩,
 some ⟨(.ptr 3), 1, none, false⟩,
 some ⟨.func, 1, none, false⟩,
 some ⟨.func, 1, none, false⟩,
 some ⟨.func, 1, none, false⟩,
 some ⟨.func, 1, none, false⟩,
 none,
 some ⟨.func, 1, none, false⟩,
 some ⟨(.array 32 5), 32, some (.arr 32 (.int .u8)), true⟩,
 some ⟨(.array 32 5), 32, some (.arr 32 (.int .u8)), true⟩,
 none,
 some ⟨.func, 1, none, false⟩,
 some ⟨.func, 1, none, false⟩,
 some ⟨.func, 1, none, false⟩,
 none,
 some ⟨.func, 1, none, false⟩,
 none,
 some ⟨.func, 1, none, false⟩,
 some ⟨.func, 1, none, false⟩,
 some ⟨.func, 1, none, false⟩,
 some ⟨.func, 1, none, false⟩,
 some ⟨.func, 1, none, false⟩,
 some ⟨.func, 1, none, false⟩,
 some ⟨.func, 1, none, false⟩,
 some ⟨.func, 1, none, false⟩,
 some ⟨(.map 3 23), 1, none, true⟩,
 none,
 some ⟨.func, 1, none, false⟩,
 some ⟨.func, 1, none, false⟩,
 some ⟨.func, 1, none, false⟩,
 some ⟨.func, 1, none, false⟩,
 some ⟨.other, 1, some (.int .u64), false⟩,
 some ⟨.func, 1, none, false⟩,
 some ⟨.func, 1, none, false⟩,
 none,
 some ⟨.func, 1, none, false⟩,
 some ⟨.func, 1, none, false⟩,
 none,
 some ⟨.func, 1, none, false⟩,
 some ⟨.func, 1, none, false⟩,
 none,
 some ⟨.func, 1, none, false⟩,
 some ⟨.func, 1, none, false⟩,
 some ⟨.func, 1, none, false⟩,
 some ⟨.func, 1, none, false⟩,
 some ⟨.func, 1, none, false⟩,
 some ⟨(.struct [(0, 196)]), 1, none, false⟩,
 some ⟨(.struct [(0, 196)]), 1, none, false⟩,
 some ⟨.func, 1, none, false⟩,
 some ⟨.func, 1, none, false⟩,
 some ⟨.func, 1, none, false⟩,
 some ⟨.func, 1, none, false⟩,
 some ⟨.func, 1, none, false⟩,
 some ⟨.func, 1, none, false⟩,
 some ⟨.func, 1, none, false⟩,
 some ⟨.func, 1, none, false⟩,
 some ⟨.func, 1, none, false⟩,
 some ⟨(.array 64 5), 64, some (.arr 64 (.int .u8)), true⟩,
 some ⟨.func, 1, none, false⟩,
 some ⟨(.slice 134), 1, some (.slc (.int .u32)), false⟩,
 some ⟨.func, 1, none, false⟩,
 some ⟨.func, 1, none, false⟩,
 some ⟨.func, 1, none, false⟩,
 some ⟨(.array 8 134), 8, some (.arr 8 (.int .u32)), true⟩,
 some ⟨(.struct [(0, 214), (8, 32), (9, 3)]), 10, some (.pair (.arr 8 (.int .u32)) (.pair (.slc (.int .u8)) (.pair (.int .i64) .unit))), false⟩,
 some ⟨(.struct [(0, 214), (8, 32), (9, 3)]), 10, some (.pair (.arr 8 (.int .u32)) (.pair (.slc (.int .u8)) (.pair (.int .i64) .unit))), false⟩,
 some ⟨.func, 1, none, false⟩,
 some ⟨.func, 1, none, false⟩,
 some ⟨(.array 16 134), 16, some (.arr 16 (.int .u32)), true⟩,
 some ⟨(.array 16 134), 16, some (.arr 16 (.int .u32)), true⟩,
 some ⟨.func, 1, none, false⟩,
 some ⟨(.array 256 134), 256, some (.arr 256 (.int .u32)), true⟩,
 some ⟨.func, 1, none, false⟩,
 some ⟨.func, 1, none, false⟩,
 some ⟨.func, 1, none, false⟩,
 some ⟨.other, 1, some (.int .u64), false⟩,
 some ⟨.func, 1, none, false⟩,
 none,
 some ⟨.func, 1, none, false⟩,
 some ⟨.func, 1, none, false⟩,
 some ⟨.other, 1, some (.int .u32), false⟩,
 some ⟨(.array 8 231), 8, some (.arr 8 (.int .u32)), true⟩,
 some ⟨(.array 8 231), 8, some (.arr 8 (.int .u32)), true⟩,
 some ⟨.func, 1, none, false⟩,
 some ⟨(.ptr 220), 1, none, false⟩,
 some ⟨.func, 1, none, false⟩,
 some ⟨.func, 1, none, false⟩,
 some ⟨.func, 1, none, false⟩,
 some ⟨.func, 1, none, false⟩,
 some ⟨.func, 1, none, false⟩,
 some ⟨.func, 1, none, false⟩,
 some ⟨.func, 1, none, false⟩,
 some ⟨.func, 1, none, false⟩,
 some ⟨.func, 1, none, false⟩,
 some ⟨.func, 1, none, false⟩,
 some ⟨(.struct [(0, 3), (1, 3), (2, 3), (3, 3)]), 4, some (.pair (.int .i64) (.pair (.int .i64) (.pair (.int .i64) (.pair (.int .i64) .unit)))), true⟩,
 some ⟨(.array 4 246), 16, some (.arr 4 (.pair (.int .i64) (.pair (.int .i64) (.pair (.int .i64) (.pair (.int .i64) .unit))))), true⟩,
 some ⟨.func, 1, none, false⟩,
 some ⟨(.array 64 134), 64, some (.arr 64 (.int .u32)), true⟩,
 some ⟨.func, 1, none, false⟩,
 some ⟨.func, 1, none, false⟩,
 some ⟨.func, 1, none, false⟩,
 some ⟨(.array 16 231), 16, some (.arr 16 (.int .u32)), true⟩,
 some ⟨(.array 64 231), 64, some (.arr 64 (.int .u32)), true⟩,
 some ⟨.func, 1, none, false⟩,
 some ⟨.func, 1, none, false⟩,
 some ⟨(.struct [(0, 17), (1, 17), (2, 17), (3, 9)]), 4, none, false⟩,
 some ⟨(.struct [(0, 17), (1, 17), (2, 17), (3, 9)]), 4, none, false⟩,
 some ⟨(.array 0 16), 0, none, false⟩,
 some ⟨(.struct [(0, 259)]), 0, none, false⟩,
 some ⟨(.struct [(0, 259)]), 0, none, false⟩,
 some ⟨.func, 1, none, false⟩,
 some ⟨.other, 1, some (.int .u8), false⟩,
 some ⟨.other, 1, some (.int .u8), false⟩,
 some ⟨.func, 1, none, false⟩,
 some ⟨(.ptr 5), 1, none, false⟩,
 some ⟨.other, 1, some (.int .i32), false⟩,
 some ⟨.other, 1, some (.int .i32), false⟩,
 some ⟨(.struct [(0, 12), (1, 12), (2, 134), (3, 263), (4, 5), (5, 5), (6, 264), (7, 265), (8, 266), (9, 267), (10, 268)]), 11, none, false⟩,
 some ⟨(.struct [(0, 12), (1, 12), (2, 134), (3, 263), (4, 5), (5, 5), (6, 264), (7, 265), (8, 266), (9, 267), (10, 268)]), 11, none, false⟩,
 some ⟨.other, 1, none, false⟩]
theorem gam_ok  : gamB Go.Proofs.Tryz.prog gam = true := by kernel_rfl
theorem num_ok  : noNumB Go.Proofs.Tryz.prog = true := by kernel_rfl
theorem rng_ok  : rangesB Go.Proofs.Tryz.prog = true := by kernel_rfl
theorem mix_ok  : Go.Proofs.Tryz.prog.follows .mixedOrders = true := by kernel_rfl
theorem bkN  : NoNum Go.Proofs.Tryz.prog := noNumB_ok num_ok
theorem bkG  : RangesOk Go.Proofs.Tryz.prog := rangesB_ok rng_ok
theorem bkT  : GamOk Go.Proofs.Tryz.prog gam := gamB_ok gam_ok
def bkY (l : List (FuncId × Orc)) : Book := { Γ := gam, orc := orcsOf l, hint := hintsOf [] }
def bkZ (l : List (FuncId × Orc)) : BookL Unit := { toBook := bkY l, lo := losOf [], need := needsOf [] }
theorem bkO (l : List (FuncId × Orc)) (F : Nat) : LoOk Go.Proofs.Tryz.prog (bkZ l) F := loOk_of (l := []) rfl fz
end Go.AI
namespace Go.AI
open Go
open Go.Proofs.Tryz (prog)
set_option linter.unusedVariables false
@[reducible] def bits_Len64_ps  : List PM := [.d (.int .u64)]
def bits_Len64_orc  : Orc := Orc.of bits_Len64_ps true 0 fun x => (bits_Len64_P x.1, [.d (.int .i64) (bits_Len64_r x.1)])
def bits_Len64_orcs  : List (FuncId × Orc) := []
theorem bits_Len64_run (F : Nat) (x : ArgsT bits_Len64_ps) (kend : List BV → ZO) : runFnL prog (bkZ bits_Len64_orcs) F 20 152 (argsInst bits_Len64_ps x) [.d (.int .i64)] kend = bits_Len64 F x.1 none (fun y0 => kend [BV.d (.int .i64) y0]) := by kernel_rfl
theorem bits_Len64_contract  : Contract prog 152 bits_Len64_orc := con_of (B0 := bkY bits_Len64_orcs) bkN bkG mix_ok bkT bits_Len64_run (orcsOf_ok fz) (by kernel_rfl) (fun _ => rfl) (bkO _) (fun x h => (bits_Len64_plain x.1 h).elim fun F hF => ⟨F, fun kend => hF none _⟩)
@[reducible] def bits_Len8_ps  : List PM := [.d (.int .u8)]
def bits_Len8_orc  : Orc := Orc.of bits_Len8_ps true 0 fun x => (true, [.d (.int .i64) (bits_Len8_r x.1)])
def bits_Len8_orcs  : List (FuncId × Orc) := []
theorem bits_Len8_run (F : Nat) (x : ArgsT bits_Len8_ps) (kend : List BV → ZO) : runFnL prog (bkZ bits_Len8_orcs) F 20 131 (argsInst bits_Len8_ps x) [.d (.int .i64)] kend = bits_Len8 F x.1 none (fun y0 => kend [BV.d (.int .i64) y0]) := by kernel_rfl
theorem bits_Len8_contract  : Contract prog 131 bits_Len8_orc := con_of (B0 := bkY bits_Len8_orcs) bkN bkG mix_ok bkT bits_Len8_run (orcsOf_ok fz) (by kernel_rfl) (fun _ => rfl) (bkO _) (fun x _ => (bits_Len8_plain x.1).elim fun F hF => ⟨F, fun kend => hF none _⟩)
@[reducible] def bits_Len_ps  : List PM := [.d (.int .u64)]
def bits_Len_orc  : Orc := Orc.of bits_Len_ps true 0 fun x => (bits_Len_P x.1, [.d (.int .i64) (bits_Len_r x.1)])
def bits_Len_orcs  : List (FuncId × Orc) := [(152, bits_Len64_orc)]
theorem bits_Len_run (F : Nat) (x : ArgsT bits_Len_ps) (kend : List BV → ZO) : runFnL prog (bkZ bits_Len_orcs) F 20 132 (argsInst bits_Len_ps x) [.d (.int .i64)] kend = bits_Len F x.1 none (fun y0 => kend [BV.d (.int .i64) y0]) := by kernel_rfl
theorem bits_Len_contract  : Contract prog 132 bits_Len_orc := con_of (B0 := bkY bits_Len_orcs) bkN bkG mix_ok bkT bits_Len_run (orcsOf_ok (fa bits_Len64_contract fz)) (by kernel_rfl) (fun _ => rfl) (bkO _) (fun x h => (bits_Len_plain x.1 h).elim fun F hF => ⟨F, fun kend => hF none _⟩)
@[reducible] def bits_LeadingZeros8_ps  : List PM := [.d (.int .u8)]
def bits_LeadingZeros8_orc  : Orc := Orc.of bits_LeadingZeros8_ps true 0 fun x => (true, [.d (.int .i64) (bits_LeadingZeros8_r x.1)])
def bits_LeadingZeros8_orcs  : List (FuncId × Orc) := [(131, bits_Len8_orc)]
theorem bits_LeadingZeros8_run (F : Nat) (x : ArgsT bits_LeadingZeros8_ps) (kend : List BV → ZO) : runFnL prog (bkZ bits_LeadingZeros8_orcs) F 20 109 (argsInst bits_LeadingZeros8_ps x) [.d (.int .i64)] kend = bits_LeadingZeros8 F x.1 none (fun y0 => kend [BV.d (.int .i64) y0]) := by kernel_rfl
theorem bits_LeadingZeros8_contract  : Contract prog 109 bits_LeadingZeros8_orc := con_of (B0 := bkY bits_LeadingZeros8_orcs) bkN bkG mix_ok bkT bits_LeadingZeros8_run (orcsOf_ok (fa bits_Len8_contract fz)) (by kernel_rfl) (fun _ => rfl) (bkO _) (fun x _ => (bits_LeadingZeros8_plain x.1).elim fun F hF => ⟨F, fun kend => hF none _⟩)
@[reducible] def wire_number_ps  : List PM := [.d (.int .i64)]
def wire_number_orc  : Orc := Orc.of wire_number_ps true 0 fun x => (true, [.d (.int .i64) (wire_number_r x.1)])
def wire_number_orcs  : List (FuncId × Orc) := []
theorem wire_number_run (F : Nat) (x : ArgsT wire_number_ps) (kend : List BV → ZO) : runFnL prog (bkZ wire_number_orcs) F 20 142 (argsInst wire_number_ps x) [.d (.int .i64)] kend = wire_number F x.1 none (fun y0 => kend [BV.d (.int .i64) y0]) := by kernel_rfl
theorem wire_number_contract  : Contract prog 142 wire_number_orc := con_of (B0 := bkY wire_number_orcs) bkN bkG mix_ok bkT wire_number_run (orcsOf_ok fz) (by kernel_rfl) (fun _ => rfl) (bkO _) (fun x _ => (wire_number_plain x.1).elim fun F hF => ⟨F, fun kend => hF none _⟩)
@[reducible] def wire_further_ps  : List PM := [.d (.int .i64)]
def wire_further_orc  : Orc := Orc.of wire_further_ps true 0 fun x => (wire_further_P x.1, [.d (.int .i64) (wire_further_r x.1)])
def wire_further_orcs  : List (FuncId × Orc) := [(132, bits_Len_orc)]
theorem wire_further_run (F : Nat) (x : ArgsT wire_further_ps) (kend : List BV → ZO) : runFnL prog (bkZ wire_further_orcs) F 20 110 (argsInst wire_further_ps x) [.d (.int .i64)] kend = wire_further F x.1 none (fun y0 => kend [BV.d (.int .i64) y0]) := by kernel_rfl
theorem wire_further_contract  : Contract prog 110 wire_further_orc := con_of (B0 := bkY wire_further_orcs) bkN bkG mix_ok bkT wire_further_run (orcsOf_ok (fa bits_Len_contract fz)) (by kernel_rfl) (fun _ => rfl) (bkO _) (fun x h => (wire_further_plain x.1 h).elim fun F hF => ⟨F, fun kend => hF none _⟩)
@[reducible] def clone_byte_ps  : List PM := [.d (.slc (.int .u8))]
def clone_byte_orc  : Orc := Orc.of clone_byte_ps true 1 fun x => (clone_byte_P x.1, [.o 5 (.int .u8) (clone_byte_r x.1)])
def clone_byte_orcs  : List (FuncId × Orc) := []
theorem clone_byte_run (F : Nat) (x : ArgsT clone_byte_ps) (kend : List BV → ZO) : runFnL prog (bkZ clone_byte_orcs) F 20 111 (argsInst clone_byte_ps x) [.o 5 (.int .u8)] kend = clone_byte F x.1 none both (fun y0 => kend [BV.o 5 (.int .u8) y0]) := by kernel_rfl
theorem clone_byte_contract  : Contract prog 111 clone_byte_orc := con_of (B0 := bkY clone_byte_orcs) bkN bkG mix_ok bkT clone_byte_run (orcsOf_ok fz) (by kernel_rfl) (fun _ => rfl) (bkO _) (fun x h => (clone_byte_plain x.1 h).elim fun F hF => ⟨F, fun kend => hF none both both_self _⟩)
@[reducible] def wire_put_ps  : List PM := [.o 5 (.int .u8), .d (.int .i64)]
def wire_put_orc  : Orc := Orc.of wire_put_ps true 1 fun x => (wire_put_P x.1 x.2.1, [.o 5 (.int .u8) (wire_put_r x.1 x.2.1)])
@[reducible] def wire_put_l1_T  : Tpl := { cur := ⟨[(0, .row 0), (0, .var (.int .i64)), (5, .var (.int .i64))], 32⟩, stk := [⟨[], 0⟩], heap := [.row 5 (.int .u8) false] }
def wire_put_orcs  : List (FuncId × Orc) := [(110, wire_further_orc), (142, wire_number_orc)]
def wire_put_book0  : Book := { Γ := gam, orc := orcsOf wire_put_orcs, hint := hintsOf [(124, { keep := some [0, 1, 7], keeps := [(6, [0, 1, 7])], own := [], dat := [], stk := [] })] }
def wire_put_l1_G (F : Nat) (nx : wire_put_l1_T.T → ZO) (kq : ZK) (x : wire_put_l1_T.T) : ZO := wire_put_l1 F none (fun n i dst => nx (((), (n, (i, ()))), (((), ()), (dst, ())))) (fun y0 y1 y2 => kq (.exit 0) (wire_put_l1_T.inst (((), (y0, (y1, ()))), (((), ()), (y2, ()))))) x.1.2.1 x.1.2.2.1 x.2.2.1
def wire_put_l1_R (F m : Nat) (x : wire_put_l1_T.T) (kq : ZK) : ZO := wire_put_l1F F none (fun y0 y1 y2 => kq (.exit 0) (wire_put_l1_T.inst (((), (y0, (y1, ()))), (((), ()), (y2, ()))))) m x.1.2.1 x.1.2.2.1 x.2.2.1
def wire_put_lo (F : Nat) : List (LoE Unit) := [⟨124, 6, LO.of wire_put_l1_T (wire_put_l1_R F F)⟩]
def wire_put_book (F : Nat) : BookL Unit := { toBook := wire_put_book0, lo := losOf (wire_put_lo F), need := needsOf [] }
theorem wire_put_l1_step (F : Nat) : LStep prog (wire_put_book F) F 124 0 6 wire_put_l1_T (wire_put_l1_G F) := fun d x KQ => by kernel_rfl
theorem wire_put_loOk (F : Nat) : LoOk prog (wire_put_book F) F := loOk_of (l := wire_put_lo F) rfl (fa (loOne_of 0 (by kernel_rfl) (by kernel_rfl) (lstep_run (wire_put_l1_step F) (fun _ _ => rfl) (fun _ _ _ _ => rfl))) fz)
theorem wire_put_run (F : Nat) (x : ArgsT wire_put_ps) (kend : List BV → ZO) : runFnL prog (wire_put_book F) F 20 124 (argsInst wire_put_ps x) [.o 5 (.int .u8)] kend = wire_put F x.1 x.2.1 none (fun y0 => kend [BV.o 5 (.int .u8) y0]) := by kernel_rfl
theorem wire_put_contract  : Contract prog 124 wire_put_orc := con_of (B0 := wire_put_book0) bkN bkG mix_ok bkT wire_put_run (orcsOf_ok (fa wire_further_contract (fa wire_number_contract fz))) (by kernel_rfl) (fun _ => rfl) wire_put_loOk (fun x h => (wire_put_plain x.1 x.2.1 h).elim fun F hF => ⟨F, fun kend => hF none _⟩)
@[reducible] def wire_PutInt_ps  : List PM := [.d (.slc (.int .u8)), .d (.int .i64)]
def wire_PutInt_orc  : Orc := Orc.of wire_PutInt_ps true 1 fun x => (wire_PutInt_P x.1 x.2.1, [.o 5 (.int .u8) (wire_PutInt_r x.1 x.2.1)])
def wire_PutInt_orcs  : List (FuncId × Orc) := [(111, clone_byte_orc), (124, wire_put_orc)]
theorem wire_PutInt_run (F : Nat) (x : ArgsT wire_PutInt_ps) (kend : List BV → ZO) : runFnL prog (bkZ wire_PutInt_orcs) F 20 94 (argsInst wire_PutInt_ps x) [.o 5 (.int .u8)] kend = wire_PutInt F x.1 x.2.1 none (fun y0 => kend [BV.o 5 (.int .u8) y0]) := by kernel_rfl
theorem wire_PutInt_contract  : Contract prog 94 wire_PutInt_orc := con_of (B0 := bkY wire_PutInt_orcs) bkN bkG mix_ok bkT wire_PutInt_run (orcsOf_ok (fa clone_byte_contract (fa wire_put_contract fz))) (by kernel_rfl) (fun _ => rfl) (bkO _) (fun x h => (wire_PutInt_plain x.1 x.2.1 h).elim fun F hF => ⟨F, fun kend => hF none _⟩)
@[reducible] def wire_Int_ps  : List PM := [.d (.slc (.int .u8))]
def wire_Int_orc  : Orc := Orc.of wire_Int_ps false 0 fun x => (wire_Int_P x.1, [.d (.int .i64) (wire_Int_r0 x.1), .d (.slc (.int .u8)) (wire_Int_r1 x.1), .d (.int .i64) (wire_Int_r2 x.1)])
@[reducible] def wire_Int_l1_T  : Tpl := { cur := ⟨[(0, .var (.slc (.int .u8))), (4, .var (.int .i64)), (0, .var (.int .i64)), (26, .var (.slc (.int .u8))), (0, .var (.int .i64)), (0, .var (.int .i64))], 23⟩, stk := [⟨[], 0⟩], heap := [] }
def wire_Int_orcs  : List (FuncId × Orc) := [(109, bits_LeadingZeros8_orc), (110, wire_further_orc), (111, clone_byte_orc)]
def wire_Int_book0  : Book := { Γ := gam, orc := orcsOf wire_Int_orcs, hint := hintsOf [(77, { keep := some [0, 5, 6, 33, 34, 35], keeps := [(10, [0, 5, 6, 33, 34, 35])], own := [], dat := [], stk := [] })] }
def wire_Int_l1_G (F : Nat) (nx : wire_Int_l1_T.T → ZO) (kq : ZK) (x : wire_Int_l1_T.T) : ZO := wire_Int_l1 F none (fun src k n s33 s34 s35 => nx ((src, (k, (n, (s33, (s34, (s35, ())))))), (((), ()), ()))) (fun y0 y1 y2 y3 y4 y5 => kq (.exit 0) (wire_Int_l1_T.inst ((y0, (y1, (y2, (y3, (y4, (y5, ())))))), (((), ()), ())))) x.1.1 x.1.2.1 x.1.2.2.1 x.1.2.2.2.1 x.1.2.2.2.2.1 x.1.2.2.2.2.2.1
def wire_Int_l1_R (F m : Nat) (x : wire_Int_l1_T.T) (kq : ZK) : ZO := wire_Int_l1F F none (fun y0 y1 y2 y3 y4 y5 => kq (.exit 0) (wire_Int_l1_T.inst ((y0, (y1, (y2, (y3, (y4, (y5, ())))))), (((), ()), ())))) m x.1.1 x.1.2.1 x.1.2.2.1 x.1.2.2.2.1 x.1.2.2.2.2.1 x.1.2.2.2.2.2.1
def wire_Int_lo (F : Nat) : List (LoE Unit) := [⟨77, 10, LO.of wire_Int_l1_T (wire_Int_l1_R F F)⟩]
def wire_Int_book (F : Nat) : BookL Unit := { toBook := wire_Int_book0, lo := losOf (wire_Int_lo F), need := needsOf [] }
theorem wire_Int_l1_step (F : Nat) : LStep prog (wire_Int_book F) F 77 0 10 wire_Int_l1_T (wire_Int_l1_G F) := fun d x KQ => by kernel_rfl
theorem wire_Int_loOk (F : Nat) : LoOk prog (wire_Int_book F) F := loOk_of (l := wire_Int_lo F) rfl (fa (loOne_of 0 (by kernel_rfl) (by kernel_rfl) (lstep_run (wire_Int_l1_step F) (fun _ _ => rfl) (fun _ _ _ _ => rfl))) fz)
theorem wire_Int_run (F : Nat) (x : ArgsT wire_Int_ps) (kend : List BV → ZO) : runFnL prog (wire_Int_book F) F 20 77 (argsInst wire_Int_ps x) [.d (.int .i64), .d (.slc (.int .u8)), .d (.int .i64)] kend = wire_Int F x.1 none (fun y0 y1 y2 => kend [BV.d (.int .i64) y0, BV.d (.slc (.int .u8)) y1, BV.d (.int .i64) y2]) := by kernel_rfl
theorem wire_Int_contract  : Contract prog 77 wire_Int_orc := con_of (B0 := wire_Int_book0) bkN bkG mix_ok bkT wire_Int_run (orcsOf_ok (fa bits_LeadingZeros8_contract (fa wire_further_contract (fa clone_byte_contract fz)))) (by kernel_rfl) (fun _ => rfl) wire_Int_loOk (fun x h => (wire_Int_plain x.1 h).elim fun F hF => ⟨F, fun kend => hF none _⟩)
end Go.AI
namespace Go.AI
open Go
open Go.Proofs.Tryz (prog)
set_option linter.unusedVariables false
@[reducible] def wire_PutBytes_ps  : List PM := [.d (.slc (.int .u8)), .d (.slc (.int .u8))]
def wire_PutBytes_orc  : Orc := Orc.of wire_PutBytes_ps true 1 fun x => (wire_PutBytes_P x.1 x.2.1, [.o 5 (.int .u8) (wire_PutBytes_r x.1 x.2.1)])
@[reducible] def wire_PutBytes_l1_T  : Tpl := { cur := ⟨[(1, .row 0), (1, .ptr 1 []), (10, .var (.slc (.int .u8))), (0, .var (.int .i64)), (0, .var (.int .i64))], 10⟩, stk := [⟨[], 9⟩, ⟨[], 0⟩], heap := [.row 5 (.int .u8) false, .box (.pr (.fn 125 (.un)) (.var .unit))] }
def wire_PutBytes_orcs  : List (FuncId × Orc) := [(111, clone_byte_orc), (124, wire_put_orc)]
def wire_PutBytes_book0  : Book := { Γ := gam, orc := orcsOf wire_PutBytes_orcs, hint := hintsOf [(126, { keep := some [1, 3, 14, 15, 16], keeps := [(3, [1, 3, 14, 15, 16])], own := [], dat := [], stk := [[]] })] }
def wire_PutBytes_l1_G (F : Nat) (nx : wire_PutBytes_l1_T.T → ZO) (kq : ZK) (x : wire_PutBytes_l1_T.T) : ZO := wire_PutBytes_l1 F none (fun s14 s15 s16 dst => nx (((), ((), (s14, (s15, (s16, ()))))), (((), ((), ())), (dst, (((), ()), ()))))) (fun y0 y1 y2 y3 => kq (.exit 0) (wire_PutBytes_l1_T.inst (((), ((), (y0, (y1, (y2, ()))))), (((), ((), ())), (y3, (((), ()), ())))))) x.1.2.2.1 x.1.2.2.2.1 x.1.2.2.2.2.1 x.2.2.1
def wire_PutBytes_l1_R (F m : Nat) (x : wire_PutBytes_l1_T.T) (kq : ZK) : ZO := wire_PutBytes_l1F F none (fun y0 y1 y2 y3 => kq (.exit 0) (wire_PutBytes_l1_T.inst (((), ((), (y0, (y1, (y2, ()))))), (((), ((), ())), (y3, (((), ()), ())))))) m x.1.2.2.1 x.1.2.2.2.1 x.1.2.2.2.2.1 x.2.2.1
def wire_PutBytes_lo (F : Nat) : List (LoE Unit) := [⟨126, 3, LO.of wire_PutBytes_l1_T (wire_PutBytes_l1_R F F)⟩]
def wire_PutBytes_book (F : Nat) : BookL Unit := { toBook := wire_PutBytes_book0, lo := losOf (wire_PutBytes_lo F), need := needsOf [(126, 1)] }
theorem wire_PutBytes_l1_step (F : Nat) : LStep prog (wire_PutBytes_book F) F 126 0 3 wire_PutBytes_l1_T (wire_PutBytes_l1_G F) := fun d x KQ => by kernel_rfl
theorem wire_PutBytes_loOk (F : Nat) : LoOk prog (wire_PutBytes_book F) F := loOk_of (l := wire_PutBytes_lo F) rfl (fa (loOne_of 0 (by kernel_rfl) (by kernel_rfl) (lstep_run (wire_PutBytes_l1_step F) (fun _ _ => rfl) (fun _ _ _ _ => rfl))) fz)
theorem wire_PutBytes_run (F : Nat) (x : ArgsT wire_PutBytes_ps) (kend : List BV → ZO) : runFnL prog (wire_PutBytes_book F) F 20 96 (argsInst wire_PutBytes_ps x) [.o 5 (.int .u8)] kend = wire_PutBytes F x.1 x.2.1 none (fun y0 => kend [BV.o 5 (.int .u8) y0]) := by kernel_rfl
theorem wire_PutBytes_contract  : Contract prog 96 wire_PutBytes_orc := con_of (B0 := wire_PutBytes_book0) bkN bkG mix_ok bkT wire_PutBytes_run (orcsOf_ok (fa clone_byte_contract (fa wire_put_contract fz))) (by kernel_rfl) (fun _ => rfl) wire_PutBytes_loOk (fun x h => (wire_PutBytes_plain x.1 x.2.1 h).elim fun F hF => ⟨F, fun kend => hF none _⟩)
@[reducible] def wire_Bytes_ps  : List PM := [.d (.slc (.int .u8))]
def wire_Bytes_orc  : Orc := Orc.of wire_Bytes_ps false 0 fun x => (wire_Bytes_P x.1, [.d (.slc (.int .u8)) (wire_Bytes_r0 x.1), .d (.slc (.int .u8)) (wire_Bytes_r1 x.1), .d (.int .i64) (wire_Bytes_r2 x.1)])
def wire_Bytes_orcs  : List (FuncId × Orc) := [(77, wire_Int_orc), (111, clone_byte_orc)]
theorem wire_Bytes_run (F : Nat) (x : ArgsT wire_Bytes_ps) (kend : List BV → ZO) : runFnL prog (bkZ wire_Bytes_orcs) F 20 80 (argsInst wire_Bytes_ps x) [.d (.slc (.int .u8)), .d (.slc (.int .u8)), .d (.int .i64)] kend = wire_Bytes F x.1 none (fun y0 y1 y2 => kend [BV.d (.slc (.int .u8)) y0, BV.d (.slc (.int .u8)) y1, BV.d (.int .i64) y2]) := by kernel_rfl
theorem wire_Bytes_contract  : Contract prog 80 wire_Bytes_orc := con_of (B0 := bkY wire_Bytes_orcs) bkN bkG mix_ok bkT wire_Bytes_run (orcsOf_ok (fa wire_Int_contract (fa clone_byte_contract fz))) (by kernel_rfl) (fun _ => rfl) (bkO _) (fun x h => (wire_Bytes_plain x.1 h).elim fun F hF => ⟨F, fun kend => hF none _⟩)
end Go.AI
namespace Go.AI
open Go
open Go.Proofs.Tryz (prog)
set_option linter.unusedVariables false
@[reducible] def rotr_ps  : List PM := [.d (.int .u32), .d (.int .i64)]
def rotr_orc  : Orc := Orc.of rotr_ps true 0 fun x => (rotr_P x.1 x.2.1, [.d (.int .u32) (rotr_r x.1 x.2.1)])
def rotr_orcs  : List (FuncId × Orc) := []
theorem rotr_run (F : Nat) (x : ArgsT rotr_ps) (kend : List BV → ZO) : runFnL prog (bkZ rotr_orcs) F 20 169 (argsInst rotr_ps x) [.d (.int .u32)] kend = rotr F x.1 x.2.1 none (fun y0 => kend [BV.d (.int .u32) y0]) := by kernel_rfl
theorem rotr_contract  : Contract prog 169 rotr_orc := con_of (B0 := bkY rotr_orcs) bkN bkG mix_ok bkT rotr_run (orcsOf_ok fz) (by kernel_rfl) (fun _ => rfl) (bkO _) (fun x h => (rotr_plain x.1 x.2.1 h).elim fun F hF => ⟨F, fun kend => hF none _⟩)
@[reducible] def shr_ps  : List PM := [.d (.int .u32), .d (.int .i64)]
def shr_orc  : Orc := Orc.of shr_ps true 0 fun x => (shr_P x.1 x.2.1, [.d (.int .u32) (shr_r x.1 x.2.1)])
def shr_orcs  : List (FuncId × Orc) := []
theorem shr_run (F : Nat) (x : ArgsT shr_ps) (kend : List BV → ZO) : runFnL prog (bkZ shr_orcs) F 20 177 (argsInst shr_ps x) [.d (.int .u32)] kend = shr F x.1 x.2.1 none (fun y0 => kend [BV.d (.int .u32) y0]) := by kernel_rfl
theorem shr_contract  : Contract prog 177 shr_orc := con_of (B0 := bkY shr_orcs) bkN bkG mix_ok bkT shr_run (orcsOf_ok fz) (by kernel_rfl) (fun _ => rfl) (bkO _) (fun x h => (shr_plain x.1 x.2.1 h).elim fun F hF => ⟨F, fun kend => hF none _⟩)
def three_0_orcs  : List (FuncId × Orc) := [(169, rotr_orc)]
def three_0_book0  : Book := { Γ := gam, orc := orcsOf three_0_orcs, hint := hintsOf [] }
def three_0_lo (F : Nat) : List (LoE Unit) := []
def three_0_book (F : Nat) : BookL Unit := { toBook := three_0_book0, lo := losOf (three_0_lo F), need := needsOf [] }
theorem three_0_loOk (F : Nat) : LoOk prog (three_0_book F) F := loOk_of (l := three_0_lo F) rfl fz
theorem three_0_run (F : Nat) (x_ : UInt32) (a b c : Int) (kend : List BV → ZO) : runFnL prog (three_0_book F) F 20 168 [.d (.int .u32) x_, .d (.int .i64) a, .d (.int .i64) b, .d (.int .i64) c, .f 169] [.d (.int .u32)] kend = three_0 F x_ a b c none (fun y0 => kend [BV.d (.int .u32) y0]) := by kernel_rfl
theorem three_0_contract  : Contract prog 168 (Orc.of [.d (.int .u32), .d (.int .i64), .d (.int .i64), .d (.int .i64), .f] true 0 fun x => ((Nat.beq x.2.2.2.2.1 169) && three_P x.1 x.2.1 x.2.2.1 x.2.2.2.1 x.2.2.2.2.1, [.d (.int .u32) (three_r x.1 x.2.1 x.2.2.1 x.2.2.2.1 x.2.2.2.2.1)])) := contract_of_runL (B0 := three_0_book0) bkN bkG mix_ok bkT (orcsOf_ok (fa rotr_contract fz)) (by kernel_rfl) (fun x h => by
 obtain ⟨x0, x1, x2, x3, x4, _⟩ := x
 simp only [Bool.and_eq_true] at h
 obtain ⟨e, h⟩ := h
 have e := Nat.eq_of_beq_eq_true e
 subst e
 obtain ⟨F, hF⟩ := three_0_plain x0 x1 x2 x3 h
 exact ⟨F, 20, three_0_book F, rfl, three_0_loOk F, fun kend => (three_0_run F x0 x1 x2 x3 kend).trans (hF none (fun y0 => kend [BV.d (.int .u32) y0]))⟩)
def three_1_orcs  : List (FuncId × Orc) := [(169, rotr_orc), (177, shr_orc)]
def three_1_book0  : Book := { Γ := gam, orc := orcsOf three_1_orcs, hint := hintsOf [] }
def three_1_lo (F : Nat) : List (LoE Unit) := []
def three_1_book (F : Nat) : BookL Unit := { toBook := three_1_book0, lo := losOf (three_1_lo F), need := needsOf [] }
theorem three_1_loOk (F : Nat) : LoOk prog (three_1_book F) F := loOk_of (l := three_1_lo F) rfl fz
theorem three_1_run (F : Nat) (x_ : UInt32) (a b c : Int) (kend : List BV → ZO) : runFnL prog (three_1_book F) F 20 168 [.d (.int .u32) x_, .d (.int .i64) a, .d (.int .i64) b, .d (.int .i64) c, .f 177] [.d (.int .u32)] kend = three_1 F x_ a b c none (fun y0 => kend [BV.d (.int .u32) y0]) := by kernel_rfl
theorem three_1_contract  : Contract prog 168 (Orc.of [.d (.int .u32), .d (.int .i64), .d (.int .i64), .d (.int .i64), .f] true 0 fun x => ((Nat.beq x.2.2.2.2.1 177) && three_P x.1 x.2.1 x.2.2.1 x.2.2.2.1 x.2.2.2.2.1, [.d (.int .u32) (three_r x.1 x.2.1 x.2.2.1 x.2.2.2.1 x.2.2.2.2.1)])) := contract_of_runL (B0 := three_1_book0) bkN bkG mix_ok bkT (orcsOf_ok (fa rotr_contract (fa shr_contract fz))) (by kernel_rfl) (fun x h => by
 obtain ⟨x0, x1, x2, x3, x4, _⟩ := x
 simp only [Bool.and_eq_true] at h
 obtain ⟨e, h⟩ := h
 have e := Nat.eq_of_beq_eq_true e
 subst e
 obtain ⟨F, hF⟩ := three_1_plain x0 x1 x2 x3 h
 exact ⟨F, 20, three_1_book F, rfl, three_1_loOk F, fun kend => (three_1_run F x0 x1 x2 x3 kend).trans (hF none (fun y0 => kend [BV.d (.int .u32) y0]))⟩)
def three_orc  : Orc := Orc.of [.d (.int .u32), .d (.int .i64), .d (.int .i64), .d (.int .i64), .f] true 0 fun x => ((Nat.beq x.2.2.2.2.1 169 || Nat.beq x.2.2.2.2.1 177) && three_P x.1 x.2.1 x.2.2.1 x.2.2.2.1 x.2.2.2.2.1, [.d (.int .u32) (three_r x.1 x.2.1 x.2.2.1 x.2.2.2.1 x.2.2.2.2.1)])
theorem three_contract  : Contract prog 168 three_orc := contract_cases three_0_contract.1 (fun x h => by
 obtain ⟨x0, x1, x2, x3, x4, _⟩ := x
 simp only [Bool.and_eq_true, Bool.or_eq_true] at h
 obtain ⟨e, _⟩ := h
 rcases e with e | e
 ·have e := Nat.eq_of_beq_eq_true e
  subst e
  exact ⟨_, three_0_contract, rfl⟩
 ·have e := Nat.eq_of_beq_eq_true e
  subst e
  exact ⟨_, three_1_contract, rfl⟩)
@[reducible] def consts_ps  : List PM := []
def consts_orc  : Orc := Orc.of consts_ps true 0 fun x => (consts_P, [.d (.arr 64 (.int .u32)) (consts_r)])
def consts_orcs  : List (FuncId × Orc) := []
theorem consts_run (F : Nat) (x : ArgsT consts_ps) (kend : List BV → ZO) : runFnL prog (bkZ consts_orcs) F 20 176 (argsInst consts_ps x) [.d (.arr 64 (.int .u32))] kend = consts F  none (fun y0 => kend [BV.d (.arr 64 (.int .u32)) y0]) := by kernel_rfl
theorem consts_contract  : Contract prog 176 consts_orc := con_of (B0 := bkY consts_orcs) bkN bkG mix_ok bkT consts_run (orcsOf_ok fz) (by kernel_rfl) (fun _ => rfl) (bkO _) (fun x h => (consts_plain  h).elim fun F hF => ⟨F, fun kend => hF none _⟩)
@[reducible] def absorb_ps  : List PM := [.d (.arr 8 (.int .u32)), .d (.slc (.int .u8))]
def absorb_orc  : Orc := Orc.of absorb_ps true 0 fun x => (absorb_P x.1 x.2.1, [.d (.arr 8 (.int .u32)) (absorb_r x.1 x.2.1)])
@[reducible] def absorb_l2_T  : Tpl := { cur := ⟨[(0, .hnd .yield 0), (0, .ptr 2 []), (1, .ptr 3 []), (0, .var (.int .i64)), (0, .var (.int .u32)), (4, .var (.arr 64 (.int .u32))), (0, .var (.int .i64)), (11, .var (.slc (.int .u8))), (0, .var (.int .i64)), (0, .var (.int .i64))], 50⟩, stk := [⟨[(0, .hnd .yield 0)], 0⟩, ⟨[(2, .ptr 4 []), (1, .ptr 5 []), (0, .ptr 1 [])], 78⟩, ⟨[], 0⟩], heap := [.lp 160 3 ⟨[(5, .ptr 1 [])], 78⟩ .ready, .box (.var (.arr 8 (.int .u32))), .box (.var (.slc (.int .u8))), .box (.var (.arr 16 (.int .u32))), .box (.var (.arr 8 (.int .u32))), .box (.var (.arr 8 (.int .u32)))] }
@[reducible] def absorb_l1_T  : Tpl := { cur := ⟨[(0, .hnd .yield 0), (0, .ptr 2 []), (1, .ptr 3 []), (6, .var (.arr 64 (.int .u32))), (0, .var (.int .i64))], 64⟩, stk := [⟨[(0, .hnd .yield 0)], 0⟩, ⟨[(2, .ptr 4 []), (1, .ptr 5 []), (0, .ptr 1 [])], 78⟩, ⟨[], 0⟩], heap := [.lp 160 3 ⟨[(5, .ptr 1 [])], 78⟩ .ready, .box (.var (.arr 8 (.int .u32))), .box (.var (.slc (.int .u8))), .box (.var (.arr 16 (.int .u32))), .box (.var (.arr 8 (.int .u32))), .box (.var (.arr 8 (.int .u32)))] }
@[reducible] def absorb_l3_T  : Tpl := { cur := ⟨[(2, .ptr 0 []), (1, .ptr 1 []), (0, .ptr 2 []), (65, .var (.int .i64))], 12⟩, stk := [⟨[], 0⟩], heap := [.box (.var (.arr 8 (.int .u32))), .box (.var (.arr 8 (.int .u32))), .box (.var (.arr 8 (.int .u32)))] }
def absorb_orcs  : List (FuncId × Orc) := [(168, three_orc), (176, consts_orc)]
def absorb_book0  : Book := { Γ := gam, orc := orcsOf absorb_orcs, hint := hintsOf [(160, { keep := some [2, 4, 5, 71], keeps := [(9, [2, 4, 5, 71])], own := [], dat := [], stk := [] }), (175, { keep := some [0, 1, 3, 4, 5, 10, 11, 23, 24, 25], keeps := [(2, [0, 1, 3, 10, 11]), (6, [0, 1, 3, 4, 5, 10, 11, 23, 24, 25])], own := [], dat := [], stk := [[0], [2, 4, 5, 6, 7, 8, 9, 10, 15, 21]] })] }
def absorb_l2_G (F : Nat) (nx : absorb_l2_T.T → ZO) (kq : ZK) (x : absorb_l2_T.T) : ZO := absorb_l2 F none (fun i k s10 s11 s23 s24 s25 x_ s1 w s s4 => nx (((), ((), ((), (i, (k, (s10, (s11, (s23, (s24, (s25, ())))))))))), ((((), ()), (((), ((), ((), ()))), ((), ()))), (((), ()), (x_, (s1, (w, (s, (s4, ()))))))))) (fun y0 y1 y2 y3 y4 y5 y6 y7 y8 y9 y10 y11 => kq (.exit 2) (absorb_l2_T.inst (((), ((), ((), (y0, (y1, (y2, (y3, (y4, (y5, (y6, ())))))))))), ((((), ()), (((), ((), ((), ()))), ((), ()))), (((), ()), (y7, (y8, (y9, (y10, (y11, ())))))))))) x.1.2.2.2.1 x.1.2.2.2.2.1 x.1.2.2.2.2.2.1 x.1.2.2.2.2.2.2.1 x.1.2.2.2.2.2.2.2.1 x.1.2.2.2.2.2.2.2.2.1 x.1.2.2.2.2.2.2.2.2.2.1 x.2.2.2.1 x.2.2.2.2.1 x.2.2.2.2.2.1 x.2.2.2.2.2.2.1 x.2.2.2.2.2.2.2.1
def absorb_l2_R (F m : Nat) (x : absorb_l2_T.T) (kq : ZK) : ZO := absorb_l2F F none (fun y0 y1 y2 y3 y4 y5 y6 y7 y8 y9 y10 y11 => kq (.exit 2) (absorb_l2_T.inst (((), ((), ((), (y0, (y1, (y2, (y3, (y4, (y5, (y6, ())))))))))), ((((), ()), (((), ((), ((), ()))), ((), ()))), (((), ()), (y7, (y8, (y9, (y10, (y11, ())))))))))) m x.1.2.2.2.1 x.1.2.2.2.2.1 x.1.2.2.2.2.2.1 x.1.2.2.2.2.2.2.1 x.1.2.2.2.2.2.2.2.1 x.1.2.2.2.2.2.2.2.2.1 x.1.2.2.2.2.2.2.2.2.2.1 x.2.2.2.1 x.2.2.2.2.1 x.2.2.2.2.2.1 x.2.2.2.2.2.2.1 x.2.2.2.2.2.2.2.1
def absorb_l1_G (F : Nat) (nx : absorb_l1_T.T → ZO) (kq : ZK) (x : absorb_l1_T.T) : ZO := absorb_l1 F none (fun s10 s11 x_ s1 w s s4 => nx (((), ((), ((), (s10, (s11, ()))))), ((((), ()), (((), ((), ((), ()))), ((), ()))), (((), ()), (x_, (s1, (w, (s, (s4, ()))))))))) (fun y0 y1 y2 y3 y4 y5 y6 => kq (.exit 0) (absorb_l1_T.inst (((), ((), ((), (y0, (y1, ()))))), ((((), ()), (((), ((), ((), ()))), ((), ()))), (((), ()), (y2, (y3, (y4, (y5, (y6, ())))))))))) x.1.2.2.2.1 x.1.2.2.2.2.1 x.2.2.2.1 x.2.2.2.2.1 x.2.2.2.2.2.1 x.2.2.2.2.2.2.1 x.2.2.2.2.2.2.2.1
def absorb_l1_R (F m : Nat) (x : absorb_l1_T.T) (kq : ZK) : ZO := absorb_l1F F none (fun y0 y1 y2 y3 y4 y5 y6 => kq (.exit 0) (absorb_l1_T.inst (((), ((), ((), (y0, (y1, ()))))), ((((), ()), (((), ((), ((), ()))), ((), ()))), (((), ()), (y2, (y3, (y4, (y5, (y6, ())))))))))) m x.1.2.2.2.1 x.1.2.2.2.2.1 x.2.2.2.1 x.2.2.2.2.1 x.2.2.2.2.2.1 x.2.2.2.2.2.2.1 x.2.2.2.2.2.2.2.1
def absorb_l3_G (F : Nat) (nx : absorb_l3_T.T → ZO) (kq : ZK) (x : absorb_l3_T.T) : ZO := absorb_l3 F none (fun s71 s s4 x_ => nx (((), ((), ((), (s71, ())))), (((), ()), (s, (s4, (x_, ())))))) (fun y0 y1 y2 y3 => kq (.exit 2) (absorb_l3_T.inst (((), ((), ((), (y0, ())))), (((), ()), (y1, (y2, (y3, ()))))))) x.1.2.2.2.1 x.2.2.1 x.2.2.2.1 x.2.2.2.2.1
def absorb_l3_R (F m : Nat) (x : absorb_l3_T.T) (kq : ZK) : ZO := absorb_l3F F none (fun y0 y1 y2 y3 => kq (.exit 2) (absorb_l3_T.inst (((), ((), ((), (y0, ())))), (((), ()), (y1, (y2, (y3, ()))))))) m x.1.2.2.2.1 x.2.2.1 x.2.2.2.1 x.2.2.2.2.1
def absorb_lo (F : Nat) : List (LoE Unit) := [⟨175, 6, LO.of absorb_l2_T (absorb_l2_R F F)⟩,
 ⟨175, 2, LO.of absorb_l1_T (absorb_l1_R F F)⟩,
 ⟨160, 9, LO.of absorb_l3_T (absorb_l3_R F F)⟩]
def absorb_book (F : Nat) : BookL Unit := { toBook := absorb_book0, lo := losOf (absorb_lo F), need := needsOf [(175, 1)] }
theorem absorb_l2_step (F : Nat) : LStep prog (absorb_book F) F 175 1 6 absorb_l2_T (absorb_l2_G F) := fun d x KQ => by kernel_rfl
theorem absorb_l1_step (F : Nat) : LStep prog (absorb_book F) F 175 0 2 absorb_l1_T (absorb_l1_G F) := fun d x KQ => by kernel_rfl
theorem absorb_l3_step (F : Nat) : LStep prog (absorb_book F) F 160 0 9 absorb_l3_T (absorb_l3_G F) := fun d x KQ => by kernel_rfl
theorem absorb_loOk (F : Nat) : LoOk prog (absorb_book F) F := loOk_of (l := absorb_lo F) rfl (fa (loOne_of 1 (by kernel_rfl) (by kernel_rfl) (lstep_run (absorb_l2_step F) (fun _ _ => rfl) (fun _ _ _ _ => rfl))) (fa (loOne_of 0 (by kernel_rfl) (by kernel_rfl) (lstep_run (absorb_l1_step F) (fun _ _ => rfl) (fun _ _ _ _ => rfl))) (fa (loOne_of 0 (by kernel_rfl) (by kernel_rfl) (lstep_run (absorb_l3_step F) (fun _ _ => rfl) (fun _ _ _ _ => rfl))) fz)))
theorem absorb_run (F : Nat) (x : ArgsT absorb_ps) (kend : List BV → ZO) : runFnL prog (absorb_book F) F 20 160 (argsInst absorb_ps x) [.d (.arr 8 (.int .u32))] kend = absorb F x.1 x.2.1 none (fun y0 => kend [BV.d (.arr 8 (.int .u32)) y0]) := by kernel_rfl
theorem absorb_contract  : Contract prog 160 absorb_orc := con_of (B0 := absorb_book0) bkN bkG mix_ok bkT absorb_run (orcsOf_ok (fa three_contract (fa consts_contract fz))) (by kernel_rfl) (fun _ => rfl) absorb_loOk (fun x h => (absorb_plain x.1 x.2.1 h).elim fun F hF => ⟨F, fun kend => hF none _⟩)
@[reducible] def hNew_ps  : List PM := []
def hNew_orc  : Orc := Orc.of hNew_ps false 0 fun x => (hNew_P, [.d (.pair (.arr 8 (.int .u32)) (.pair (.slc (.int .u8)) (.pair (.int .i64) .unit))) (hNew_r)])
def hNew_orcs  : List (FuncId × Orc) := []
theorem hNew_run (F : Nat) (x : ArgsT hNew_ps) (kend : List BV → ZO) : runFnL prog (bkZ hNew_orcs) F 20 145 (argsInst hNew_ps x) [.d (.pair (.arr 8 (.int .u32)) (.pair (.slc (.int .u8)) (.pair (.int .i64) .unit)))] kend = hNew F  none (fun y0 => kend [BV.d (.pair (.arr 8 (.int .u32)) (.pair (.slc (.int .u8)) (.pair (.int .i64) .unit))) y0]) := by kernel_rfl
theorem hNew_contract  : Contract prog 145 hNew_orc := con_of (B0 := bkY hNew_orcs) bkN bkG mix_ok bkT hNew_run (orcsOf_ok fz) (by kernel_rfl) (fun _ => rfl) (bkO _) (fun x h => (hNew_plain  h).elim fun F hF => ⟨F, fun kend => hF none _⟩)
@[reducible] def hwrite_ps  : List PM := [.d (.pair (.arr 8 (.int .u32)) (.pair (.slc (.int .u8)) (.pair (.int .i64) .unit))), .d (.slc (.int .u8))]
def hwrite_orc  : Orc := Orc.of hwrite_ps false 0 fun x => (hwrite_P x.1 x.2.1, [.d (.pair (.arr 8 (.int .u32)) (.pair (.slc (.int .u8)) (.pair (.int .i64) .unit))) (hwrite_r x.1 x.2.1)])
@[reducible] def hwrite_l1_T  : Tpl := { cur := ⟨[(1, .var (.slc (.int .u8))), (0, .ptr 0 []), (1, .ptr 1 []), (0, .ptr 2 []), (7, .var (.arr 8 (.int .u32))), (0, .var (.int .i64))], 45⟩, stk := [⟨[], 0⟩], heap := [.box (.var (.pair (.arr 8 (.int .u32)) (.pair (.slc (.int .u8)) (.pair (.int .i64) .unit)))), .box (.var (.pair (.arr 8 (.int .u32)) (.pair (.slc (.int .u8)) (.pair (.int .i64) .unit)))), .box (.var (.arr 8 (.int .u32)))] }
@[reducible] def hwrite_l2_T  : Tpl := { cur := ⟨[(1, .var (.slc (.int .u8))), (0, .ptr 0 []), (1, .ptr 1 []), (0, .ptr 2 []), (2, .var (.slc (.int .u8)))], 51⟩, stk := [⟨[], 0⟩], heap := [.box (.var (.pair (.arr 8 (.int .u32)) (.pair (.slc (.int .u8)) (.pair (.int .i64) .unit)))), .box (.var (.pair (.arr 8 (.int .u32)) (.pair (.slc (.int .u8)) (.pair (.int .i64) .unit)))), .box (.var (.arr 8 (.int .u32)))] }
@[reducible] def hwrite_l3_T  : Tpl := { cur := ⟨[(4, .ptr 0 []), (4, .ptr 1 []), (39, .var (.arr 8 (.int .u32))), (0, .var (.int .i64))], 9⟩, stk := [⟨[], 0⟩], heap := [.box (.var (.pair (.arr 8 (.int .u32)) (.pair (.slc (.int .u8)) (.pair (.int .i64) .unit)))), .box (.pr (.var (.arr 8 (.int .u32))) (.pr (.row 2) (.var (.pair (.int .i64) .unit)))), .row 5 (.int .u8) false] }
def hwrite_orcs  : List (FuncId × Orc) := [(160, absorb_orc)]
def hwrite_book0  : Book := { Γ := gam, orc := orcsOf hwrite_orcs, hint := hintsOf [(144, { keep := some [1, 2, 4, 5, 8, 9, 13, 14, 49, 50], keeps := [(3, [1, 2, 4, 5, 13, 14]), (8, [1, 2, 4, 5, 8]), (13, [4, 9, 49, 50])], own := [], dat := [], stk := [] })] }
def hwrite_l1_G (F : Nat) (nx : hwrite_l1_T.T → ZO) (kq : ZK) (x : hwrite_l1_T.T) : ZO := hwrite_l1 F none (fun b s13 s14 h s4 s => nx ((b, ((), ((), ((), (s13, (s14, ())))))), (((), ()), (h, (s4, (s, ())))))) (fun y0 y1 y2 y3 y4 y5 => kq (.exit 0) (hwrite_l1_T.inst ((y0, ((), ((), ((), (y1, (y2, ())))))), (((), ()), (y3, (y4, (y5, ()))))))) x.1.1 x.1.2.2.2.2.1 x.1.2.2.2.2.2.1 x.2.2.1 x.2.2.2.1 x.2.2.2.2.1
def hwrite_l1_R (F m : Nat) (x : hwrite_l1_T.T) (kq : ZK) : ZO := hwrite_l1F F none (fun y0 y1 y2 y3 y4 y5 => kq (.exit 0) (hwrite_l1_T.inst ((y0, ((), ((), ((), (y1, (y2, ())))))), (((), ()), (y3, (y4, (y5, ()))))))) m x.1.1 x.1.2.2.2.2.1 x.1.2.2.2.2.2.1 x.2.2.1 x.2.2.2.1 x.2.2.2.2.1
def hwrite_l2_G (F : Nat) (nx : hwrite_l2_T.T → ZO) (kq : ZK) (x : hwrite_l2_T.T) : ZO := hwrite_l2 F none (fun b all h s4 s => nx ((b, ((), ((), ((), (all, ()))))), (((), ()), (h, (s4, (s, ())))))) (fun y0 y1 y2 y3 y4 => kq (.exit 2) (hwrite_l2_T.inst ((y0, ((), ((), ((), (y1, ()))))), (((), ()), (y2, (y3, (y4, ()))))))) x.1.1 x.1.2.2.2.2.1 x.2.2.1 x.2.2.2.1 x.2.2.2.2.1
def hwrite_l2_R (F m : Nat) (x : hwrite_l2_T.T) (kq : ZK) : ZO := hwrite_l2F F none (fun y0 y1 y2 y3 y4 => kq (.exit 2) (hwrite_l2_T.inst ((y0, ((), ((), ((), (y1, ()))))), (((), ()), (y2, (y3, (y4, ()))))))) m x.1.1 x.1.2.2.2.2.1 x.2.2.1 x.2.2.2.1 x.2.2.2.2.1
def hwrite_l3_G (F : Nat) (nx : hwrite_l3_T.T → ZO) (kq : ZK) (x : hwrite_l3_T.T) : ZO := hwrite_l3 F none (fun s49 s50 s4 out out1 h2 => nx (((), ((), (s49, (s50, ())))), (((), ()), (s4, ((out, ((), out1)), (h2, ())))))) (fun y0 y1 y2 y3 y4 y5 => kq (.exit 4) (hwrite_l3_T.inst (((), ((), (y0, (y1, ())))), (((), ()), (y2, ((y3, ((), y4)), (y5, ()))))))) x.1.2.2.1 x.1.2.2.2.1 x.2.2.1 x.2.2.2.1.1 x.2.2.2.1.2.2 x.2.2.2.2.1
def hwrite_l3_R (F m : Nat) (x : hwrite_l3_T.T) (kq : ZK) : ZO := hwrite_l3F F none (fun y0 y1 y2 y3 y4 y5 => kq (.exit 4) (hwrite_l3_T.inst (((), ((), (y0, (y1, ())))), (((), ()), (y2, ((y3, ((), y4)), (y5, ()))))))) m x.1.2.2.1 x.1.2.2.2.1 x.2.2.1 x.2.2.2.1.1 x.2.2.2.1.2.2 x.2.2.2.2.1
def hwrite_lo (F : Nat) : List (LoE Unit) := [⟨144, 3, LO.of hwrite_l1_T (hwrite_l1_R F F)⟩,
 ⟨144, 8, LO.of hwrite_l2_T (hwrite_l2_R F F)⟩,
 ⟨144, 13, LO.of hwrite_l3_T (hwrite_l3_R F F)⟩]
def hwrite_book (F : Nat) : BookL Unit := { toBook := hwrite_book0, lo := losOf (hwrite_lo F), need := needsOf [] }
theorem hwrite_l1_step (F : Nat) : LStep prog (hwrite_book F) F 144 0 3 hwrite_l1_T (hwrite_l1_G F) := fun d x KQ => by kernel_rfl
theorem hwrite_l2_step (F : Nat) : LStep prog (hwrite_book F) F 144 1 8 hwrite_l2_T (hwrite_l2_G F) := fun d x KQ => by kernel_rfl
theorem hwrite_l3_step (F : Nat) : LStep prog (hwrite_book F) F 144 2 13 hwrite_l3_T (hwrite_l3_G F) := fun d x KQ => by kernel_rfl
theorem hwrite_loOk (F : Nat) : LoOk prog (hwrite_book F) F := loOk_of (l := hwrite_lo F) rfl (fa (loOne_of 0 (by kernel_rfl) (by kernel_rfl) (lstep_run (hwrite_l1_step F) (fun _ _ => rfl) (fun _ _ _ _ => rfl))) (fa (loOne_of 1 (by kernel_rfl) (by kernel_rfl) (lstep_run (hwrite_l2_step F) (fun _ _ => rfl) (fun _ _ _ _ => rfl))) (fa (loOne_of 2 (by kernel_rfl) (by kernel_rfl) (lstep_run (hwrite_l3_step F) (fun _ _ => rfl) (fun _ _ _ _ => rfl))) fz)))
theorem hwrite_run (F : Nat) (x : ArgsT hwrite_ps) (kend : List BV → ZO) : runFnL prog (hwrite_book F) F 20 144 (argsInst hwrite_ps x) [.d (.pair (.arr 8 (.int .u32)) (.pair (.slc (.int .u8)) (.pair (.int .i64) .unit)))] kend = hwrite F x.1 x.2.1 none (fun y0 => kend [BV.d (.pair (.arr 8 (.int .u32)) (.pair (.slc (.int .u8)) (.pair (.int .i64) .unit))) y0]) := by kernel_rfl
theorem hwrite_contract  : Contract prog 144 hwrite_orc := con_of (B0 := hwrite_book0) bkN bkG mix_ok bkT hwrite_run (orcsOf_ok (fa absorb_contract fz)) (by kernel_rfl) (fun _ => rfl) hwrite_loOk (fun x h => (hwrite_plain x.1 x.2.1 h).elim fun F hF => ⟨F, fun kend => hF none _⟩)
@[reducible] def hfinish_ps  : List PM := [.d (.pair (.arr 8 (.int .u32)) (.pair (.slc (.int .u8)) (.pair (.int .i64) .unit)))]
def hfinish_orc  : Orc := Orc.of hfinish_ps true 0 fun x => (hfinish_P x.1, [.d (.arr 32 (.int .u8)) (hfinish_r x.1)])
@[reducible] def hfinish_l1_T  : Tpl := { cur := ⟨[(1, .ptr 0 []), (0, .ptr 1 []), (0, .row 2), (0, .var (.int .i64))], 52⟩, stk := [⟨[], 0⟩], heap := [.box (.var (.pair (.arr 8 (.int .u32)) (.pair (.slc (.int .u8)) (.pair (.int .i64) .unit)))), .box (.var (.arr 32 (.int .u8))), .row 5 (.int .u8) false] }
@[reducible] def hfinish_l3_T  : Tpl := { cur := ⟨[(2, .ptr 0 []), (2, .ptr 1 []), (0, .var (.int .i64)), (0, .var (.int .u32)), (27, .var (.arr 8 (.int .u32))), (0, .var (.int .i64)), (3, .var (.int .i64))], 16⟩, stk := [⟨[], 0⟩], heap := [.box (.var (.arr 32 (.int .u8))), .box (.var (.arr 32 (.int .u8)))] }
@[reducible] def hfinish_l2_T  : Tpl := { cur := ⟨[(2, .ptr 0 []), (2, .ptr 1 []), (29, .var (.arr 8 (.int .u32))), (0, .var (.int .i64))], 20⟩, stk := [⟨[], 0⟩], heap := [.box (.var (.arr 32 (.int .u8))), .box (.var (.arr 32 (.int .u8)))] }
def hfinish_orcs  : List (FuncId × Orc) := [(144, hwrite_orc)]
def hfinish_book0  : Book := { Γ := gam, orc := orcsOf hfinish_orcs, hint := hintsOf [(143, { keep := some [1, 2, 3, 4, 5, 6, 7, 35, 36, 40], keeps := [(4, [1, 2, 3, 4]), (9, [2, 5, 35, 36]), (12, [2, 5, 6, 7, 35, 36, 40])], own := [], dat := [], stk := [] })] }
def hfinish_l1_G (F : Nat) (nx : hfinish_l1_T.T → ZO) (kq : ZK) (x : hfinish_l1_T.T) : ZO := hfinish_l1 F none (fun shift h s2 pad => nx (((), ((), ((), (shift, ())))), (((), ()), (h, (s2, (pad, ())))))) (fun y0 y1 y2 y3 => kq (.exit 0) (hfinish_l1_T.inst (((), ((), ((), (y0, ())))), (((), ()), (y1, (y2, (y3, ()))))))) x.1.2.2.2.1 x.2.2.1 x.2.2.2.1 x.2.2.2.2.1
def hfinish_l1_R (F m : Nat) (x : hfinish_l1_T.T) (kq : ZK) : ZO := hfinish_l1F F none (fun y0 y1 y2 y3 => kq (.exit 0) (hfinish_l1_T.inst (((), ((), ((), (y0, ())))), (((), ()), (y1, (y2, (y3, ()))))))) m x.1.2.2.2.1 x.2.2.1 x.2.2.2.1 x.2.2.2.2.1
def hfinish_l3_G (F : Nat) (nx : hfinish_l3_T.T → ZO) (kq : ZK) (x : hfinish_l3_T.T) : ZO := hfinish_l3 F none (fun i x_ s35 s36 s40 s2 out => nx (((), ((), (i, (x_, (s35, (s36, (s40, ()))))))), (((), ()), (s2, (out, ()))))) (fun y0 y1 y2 y3 y4 y5 y6 => kq (.exit 4) (hfinish_l3_T.inst (((), ((), (y0, (y1, (y2, (y3, (y4, ()))))))), (((), ()), (y5, (y6, ())))))) x.1.2.2.1 x.1.2.2.2.1 x.1.2.2.2.2.1 x.1.2.2.2.2.2.1 x.1.2.2.2.2.2.2.1 x.2.2.1 x.2.2.2.1
def hfinish_l3_R (F m : Nat) (x : hfinish_l3_T.T) (kq : ZK) : ZO := hfinish_l3F F none (fun y0 y1 y2 y3 y4 y5 y6 => kq (.exit 4) (hfinish_l3_T.inst (((), ((), (y0, (y1, (y2, (y3, (y4, ()))))))), (((), ()), (y5, (y6, ())))))) m x.1.2.2.1 x.1.2.2.2.1 x.1.2.2.2.2.1 x.1.2.2.2.2.2.1 x.1.2.2.2.2.2.2.1 x.2.2.1 x.2.2.2.1
def hfinish_l2_G (F : Nat) (nx : hfinish_l2_T.T → ZO) (kq : ZK) (x : hfinish_l2_T.T) : ZO := hfinish_l2 F none (fun s35 s36 s2 out => nx (((), ((), (s35, (s36, ())))), (((), ()), (s2, (out, ()))))) (fun y0 y1 y2 y3 => kq (.exit 2) (hfinish_l2_T.inst (((), ((), (y0, (y1, ())))), (((), ()), (y2, (y3, ())))))) x.1.2.2.1 x.1.2.2.2.1 x.2.2.1 x.2.2.2.1
def hfinish_l2_R (F m : Nat) (x : hfinish_l2_T.T) (kq : ZK) : ZO := hfinish_l2F F none (fun y0 y1 y2 y3 => kq (.exit 2) (hfinish_l2_T.inst (((), ((), (y0, (y1, ())))), (((), ()), (y2, (y3, ())))))) m x.1.2.2.1 x.1.2.2.2.1 x.2.2.1 x.2.2.2.1
def hfinish_lo (F : Nat) : List (LoE Unit) := [⟨143, 4, LO.of hfinish_l1_T (hfinish_l1_R F F)⟩,
 ⟨143, 12, LO.of hfinish_l3_T (hfinish_l3_R F F)⟩,
 ⟨143, 9, LO.of hfinish_l2_T (hfinish_l2_R F F)⟩]
def hfinish_book (F : Nat) : BookL Unit := { toBook := hfinish_book0, lo := losOf (hfinish_lo F), need := needsOf [] }
theorem hfinish_l1_step (F : Nat) : LStep prog (hfinish_book F) F 143 0 4 hfinish_l1_T (hfinish_l1_G F) := fun d x KQ => by kernel_rfl
theorem hfinish_l3_step (F : Nat) : LStep prog (hfinish_book F) F 143 2 12 hfinish_l3_T (hfinish_l3_G F) := fun d x KQ => by kernel_rfl
theorem hfinish_l2_step (F : Nat) : LStep prog (hfinish_book F) F 143 1 9 hfinish_l2_T (hfinish_l2_G F) := fun d x KQ => by kernel_rfl
theorem hfinish_loOk (F : Nat) : LoOk prog (hfinish_book F) F := loOk_of (l := hfinish_lo F) rfl (fa (loOne_of 0 (by kernel_rfl) (by kernel_rfl) (lstep_run (hfinish_l1_step F) (fun _ _ => rfl) (fun _ _ _ _ => rfl))) (fa (loOne_of 2 (by kernel_rfl) (by kernel_rfl) (lstep_run (hfinish_l3_step F) (fun _ _ => rfl) (fun _ _ _ _ => rfl))) (fa (loOne_of 1 (by kernel_rfl) (by kernel_rfl) (lstep_run (hfinish_l2_step F) (fun _ _ => rfl) (fun _ _ _ _ => rfl))) fz)))
theorem hfinish_run (F : Nat) (x : ArgsT hfinish_ps) (kend : List BV → ZO) : runFnL prog (hfinish_book F) F 20 143 (argsInst hfinish_ps x) [.d (.arr 32 (.int .u8))] kend = hfinish F x.1 none (fun y0 => kend [BV.d (.arr 32 (.int .u8)) y0]) := by kernel_rfl
theorem hfinish_contract  : Contract prog 143 hfinish_orc := con_of (B0 := hfinish_book0) bkN bkG mix_ok bkT hfinish_run (orcsOf_ok (fa hwrite_contract fz)) (by kernel_rfl) (fun _ => rfl) hfinish_loOk (fun x h => (hfinish_plain x.1 h).elim fun F hF => ⟨F, fun kend => hF none _⟩)
@[reducible] def dSum_ps  : List PM := [.d (.slc (.int .u8))]
def dSum_orc  : Orc := Orc.of dSum_ps true 0 fun x => (dSum_P x.1, [.d (.arr 32 (.int .u8)) (dSum_r x.1)])
def dSum_orcs  : List (FuncId × Orc) := [(143, hfinish_orc), (144, hwrite_orc), (145, hNew_orc)]
theorem dSum_run (F : Nat) (x : ArgsT dSum_ps) (kend : List BV → ZO) : runFnL prog (bkZ dSum_orcs) F 20 161 (argsInst dSum_ps x) [.d (.arr 32 (.int .u8))] kend = dSum F x.1 none (fun y0 => kend [BV.d (.arr 32 (.int .u8)) y0]) := by kernel_rfl
theorem dSum_contract  : Contract prog 161 dSum_orc := con_of (B0 := bkY dSum_orcs) bkN bkG mix_ok bkT dSum_run (orcsOf_ok (fa hfinish_contract (fa hwrite_contract (fa hNew_contract fz)))) (by kernel_rfl) (fun _ => rfl) (bkO _) (fun x h => (dSum_plain x.1 h).elim fun F hF => ⟨F, fun kend => hF none _⟩)
end Go.AI
namespace Go.AI
open Go
open Go.Proofs.Tryz (prog)
set_option linter.unusedVariables false
@[reducible] def padded_ps  : List PM := [.d (.slc (.int .u8)), .d (.int .u8)]
def padded_orc  : Orc := Orc.of padded_ps true 1 fun x => (padded_P x.1 x.2.1, [.o 5 (.int .u8) (padded_r x.1 x.2.1)])
@[reducible] def padded_l1_T  : Tpl := { cur := ⟨[(1, .var (.int .u8)), (4, .row 0), (12, .var (.int .i64)), (0, .var (.int .i64))], 11⟩, stk := [⟨[], 0⟩], heap := [.row 5 (.int .u8) false] }
def padded_orcs  : List (FuncId × Orc) := [(161, dSum_orc)]
def padded_book0  : Book := { Γ := gam, orc := orcsOf padded_orcs, hint := hintsOf [(146, { keep := some [1, 6, 19, 20], keeps := [(7, [1, 6, 19, 20])], own := [], dat := [], stk := [] })] }
def padded_l1_G (F : Nat) (nx : padded_l1_T.T → ZO) (kq : ZK) (x : padded_l1_T.T) : ZO := padded_l1 F none (fun by_ s19 s20 out => nx ((by_, ((), (s19, (s20, ())))), (((), ()), (out, ())))) (fun y0 y1 y2 y3 => kq (.exit 0) (padded_l1_T.inst ((y0, ((), (y1, (y2, ())))), (((), ()), (y3, ()))))) x.1.1 x.1.2.2.1 x.1.2.2.2.1 x.2.2.1
def padded_l1_R (F m : Nat) (x : padded_l1_T.T) (kq : ZK) : ZO := padded_l1F F none (fun y0 y1 y2 y3 => kq (.exit 0) (padded_l1_T.inst ((y0, ((), (y1, (y2, ())))), (((), ()), (y3, ()))))) m x.1.1 x.1.2.2.1 x.1.2.2.2.1 x.2.2.1
def padded_lo (F : Nat) : List (LoE Unit) := [⟨146, 7, LO.of padded_l1_T (padded_l1_R F F)⟩]
def padded_book (F : Nat) : BookL Unit := { toBook := padded_book0, lo := losOf (padded_lo F), need := needsOf [] }
theorem padded_l1_step (F : Nat) : LStep prog (padded_book F) F 146 0 7 padded_l1_T (padded_l1_G F) := fun d x KQ => by kernel_rfl
theorem padded_loOk (F : Nat) : LoOk prog (padded_book F) F := loOk_of (l := padded_lo F) rfl (fa (loOne_of 0 (by kernel_rfl) (by kernel_rfl) (lstep_run (padded_l1_step F) (fun _ _ => rfl) (fun _ _ _ _ => rfl))) fz)
theorem padded_run (F : Nat) (x : ArgsT padded_ps) (kend : List BV → ZO) : runFnL prog (padded_book F) F 20 146 (argsInst padded_ps x) [.o 5 (.int .u8)] kend = padded F x.1 x.2.1 none (fun y0 => kend [BV.o 5 (.int .u8) y0]) := by kernel_rfl
theorem padded_contract  : Contract prog 146 padded_orc := con_of (B0 := padded_book0) bkN bkG mix_ok bkT padded_run (orcsOf_ok (fa dSum_contract fz)) (by kernel_rfl) (fun _ => rfl) padded_loOk (fun x h => (padded_plain x.1 x.2.1 h).elim fun F hF => ⟨F, fun kend => hF none _⟩)
@[reducible] def dMac_ps  : List PM := [.d (.slc (.int .u8)), .d (.slc (.int .u8))]
def dMac_orc  : Orc := Orc.of dMac_ps true 0 fun x => (dMac_P x.1 x.2.1, [.d (.arr 32 (.int .u8)) (dMac_r x.1 x.2.1)])
def dMac_orcs  : List (FuncId × Orc) := [(143, hfinish_orc), (144, hwrite_orc), (145, hNew_orc), (146, padded_orc)]
theorem dMac_run (F : Nat) (x : ArgsT dMac_ps) (kend : List BV → ZO) : runFnL prog (bkZ dMac_orcs) F 20 127 (argsInst dMac_ps x) [.d (.arr 32 (.int .u8))] kend = dMac F x.1 x.2.1 none (fun y0 => kend [BV.d (.arr 32 (.int .u8)) y0]) := by kernel_rfl
theorem dMac_contract  : Contract prog 127 dMac_orc := con_of (B0 := bkY dMac_orcs) bkN bkG mix_ok bkT dMac_run (orcsOf_ok (fa hfinish_contract (fa hwrite_contract (fa hNew_contract (fa padded_contract fz))))) (by kernel_rfl) (fun _ => rfl) (bkO _) (fun x h => (dMac_plain x.1 x.2.1 h).elim fun F hF => ⟨F, fun kend => hF none _⟩)
end Go.AI
namespace Go.AI
open Go
open Go.Proofs.Tryz (prog)
set_option linter.unusedVariables false
@[reducible] def rol32_ps  : List PM := [.d (.int .u32), .d (.int .i64)]
def rol32_orc  : Orc := Orc.of rol32_ps true 0 fun x => (rol32_P x.1 x.2.1, [.d (.int .u32) (rol32_r x.1 x.2.1)])
def rol32_orcs  : List (FuncId × Orc) := []
theorem rol32_run (F : Nat) (x : ArgsT rol32_ps) (kend : List BV → ZO) : runFnL prog (bkZ rol32_orcs) F 20 170 (argsInst rol32_ps x) [.d (.int .u32)] kend = rol32 F x.1 x.2.1 none (fun y0 => kend [BV.d (.int .u32) y0]) := by kernel_rfl
theorem rol32_contract  : Contract prog 170 rol32_orc := con_of (B0 := bkY rol32_orcs) bkN bkG mix_ok bkT rol32_run (orcsOf_ok fz) (by kernel_rfl) (fun _ => rfl) (bkO _) (fun x h => (rol32_plain x.1 x.2.1 h).elim fun F hF => ⟨F, fun kend => hF none _⟩)
@[reducible] def cFirst_ps  : List PM := [.d (.arr 32 (.int .u8)), .d (.int .i64), .d (.int .i64)]
def cFirst_orc  : Orc := Orc.of cFirst_ps true 0 fun x => (cFirst_P x.1 x.2.1 x.2.2.1, [.d (.arr 16 (.int .u32)) (cFirst_r x.1 x.2.1 x.2.2.1)])
@[reducible] def cFirst_l2_T  : Tpl := { cur := ⟨[(1, .var (.int .i64)), (0, .var (.int .i64)), (0, .ptr 0 []), (2, .ptr 1 []), (0, .ptr 2 []), (0, .var (.int .i64)), (2, .var (.int .i64)), (2, .var (.int .i64))], 31⟩, stk := [⟨[], 0⟩], heap := [.box (.var (.arr 32 (.int .u8))), .box (.var (.arr 16 (.int .u32))), .box (.var (.arr 16 (.int .u32)))] }
@[reducible] def cFirst_l1_T  : Tpl := { cur := ⟨[(1, .var (.int .i64)), (0, .var (.int .i64)), (0, .ptr 0 []), (2, .ptr 1 []), (0, .ptr 2 []), (3, .var (.int .i64))], 34⟩, stk := [⟨[], 0⟩], heap := [.box (.var (.arr 32 (.int .u8))), .box (.var (.arr 16 (.int .u32))), .box (.var (.arr 16 (.int .u32)))] }
def cFirst_orcs  : List (FuncId × Orc) := []
def cFirst_book0  : Book := { Γ := gam, orc := orcsOf cFirst_orcs, hint := hintsOf [(147, { keep := some [1, 2, 3, 6, 7, 8, 11, 14], keeps := [(3, [1, 2, 3, 6, 7, 11]), (6, [1, 2, 3, 6, 7, 8, 11, 14])], own := [], dat := [], stk := [] })] }
def cFirst_l2_G (F : Nat) (nx : cFirst_l2_T.T → ZO) (kq : ZK) (x : cFirst_l2_T.T) : ZO := cFirst_l2 F none (fun nonce counter i s11 s14 key s6 w => nx ((nonce, (counter, ((), ((), ((), (i, (s11, (s14, ())))))))), (((), ()), (key, (s6, (w, ())))))) (fun y0 y1 y2 y3 y4 y5 y6 y7 => kq (.exit 2) (cFirst_l2_T.inst ((y0, (y1, ((), ((), ((), (y2, (y3, (y4, ())))))))), (((), ()), (y5, (y6, (y7, ()))))))) x.1.1 x.1.2.1 x.1.2.2.2.2.2.1 x.1.2.2.2.2.2.2.1 x.1.2.2.2.2.2.2.2.1 x.2.2.1 x.2.2.2.1 x.2.2.2.2.1
def cFirst_l2_R (F m : Nat) (x : cFirst_l2_T.T) (kq : ZK) : ZO := cFirst_l2F F none (fun y0 y1 y2 y3 y4 y5 y6 y7 => kq (.exit 2) (cFirst_l2_T.inst ((y0, (y1, ((), ((), ((), (y2, (y3, (y4, ())))))))), (((), ()), (y5, (y6, (y7, ()))))))) m x.1.1 x.1.2.1 x.1.2.2.2.2.2.1 x.1.2.2.2.2.2.2.1 x.1.2.2.2.2.2.2.2.1 x.2.2.1 x.2.2.2.1 x.2.2.2.2.1
def cFirst_l1_G (F : Nat) (nx : cFirst_l1_T.T → ZO) (kq : ZK) (x : cFirst_l1_T.T) : ZO := cFirst_l1 F none (fun nonce counter s11 key s6 w => nx ((nonce, (counter, ((), ((), ((), (s11, ())))))), (((), ()), (key, (s6, (w, ())))))) (fun y0 y1 y2 y3 y4 y5 => kq (.exit 0) (cFirst_l1_T.inst ((y0, (y1, ((), ((), ((), (y2, ())))))), (((), ()), (y3, (y4, (y5, ()))))))) x.1.1 x.1.2.1 x.1.2.2.2.2.2.1 x.2.2.1 x.2.2.2.1 x.2.2.2.2.1
def cFirst_l1_R (F m : Nat) (x : cFirst_l1_T.T) (kq : ZK) : ZO := cFirst_l1F F none (fun y0 y1 y2 y3 y4 y5 => kq (.exit 0) (cFirst_l1_T.inst ((y0, (y1, ((), ((), ((), (y2, ())))))), (((), ()), (y3, (y4, (y5, ()))))))) m x.1.1 x.1.2.1 x.1.2.2.2.2.2.1 x.2.2.1 x.2.2.2.1 x.2.2.2.2.1
def cFirst_lo (F : Nat) : List (LoE Unit) := [⟨147, 6, LO.of cFirst_l2_T (cFirst_l2_R F F)⟩,
 ⟨147, 3, LO.of cFirst_l1_T (cFirst_l1_R F F)⟩]
def cFirst_book (F : Nat) : BookL Unit := { toBook := cFirst_book0, lo := losOf (cFirst_lo F), need := needsOf [] }
theorem cFirst_l2_step (F : Nat) : LStep prog (cFirst_book F) F 147 1 6 cFirst_l2_T (cFirst_l2_G F) := fun d x KQ => by kernel_rfl
theorem cFirst_l1_step (F : Nat) : LStep prog (cFirst_book F) F 147 0 3 cFirst_l1_T (cFirst_l1_G F) := fun d x KQ => by kernel_rfl
theorem cFirst_loOk (F : Nat) : LoOk prog (cFirst_book F) F := loOk_of (l := cFirst_lo F) rfl (fa (loOne_of 1 (by kernel_rfl) (by kernel_rfl) (lstep_run (cFirst_l2_step F) (fun _ _ => rfl) (fun _ _ _ _ => rfl))) (fa (loOne_of 0 (by kernel_rfl) (by kernel_rfl) (lstep_run (cFirst_l1_step F) (fun _ _ => rfl) (fun _ _ _ _ => rfl))) fz))
theorem cFirst_run (F : Nat) (x : ArgsT cFirst_ps) (kend : List BV → ZO) : runFnL prog (cFirst_book F) F 20 147 (argsInst cFirst_ps x) [.d (.arr 16 (.int .u32))] kend = cFirst F x.1 x.2.1 x.2.2.1 none (fun y0 => kend [BV.d (.arr 16 (.int .u32)) y0]) := by kernel_rfl
theorem cFirst_contract  : Contract prog 147 cFirst_orc := con_of (B0 := cFirst_book0) bkN bkG mix_ok bkT cFirst_run (orcsOf_ok fz) (by kernel_rfl) (fun _ => rfl) cFirst_loOk (fun x h => (cFirst_plain x.1 x.2.1 x.2.2.1 h).elim fun F hF => ⟨F, fun kend => hF none _⟩)
@[reducible] def cBlk_ps  : List PM := [.d (.arr 32 (.int .u8)), .d (.int .i64), .d (.int .i64)]
def cBlk_orc  : Orc := Orc.of cBlk_ps true 1 fun x => (cBlk_P x.1 x.2.1 x.2.2.1, [.o 5 (.int .u8) (cBlk_r x.1 x.2.1 x.2.2.1)])
@[reducible] def cBlk_l3_T  : Tpl := { cur := ⟨[(0, .ptr 0 []), (29, .var (.arr 4 (.pair (.int .i64) (.pair (.int .i64) (.pair (.int .i64) (.pair (.int .i64) .unit)))))), (0, .var (.int .i64))], 39⟩, stk := [⟨[(2, .mv 162 (.pr (.ptr 0 []) (.un))), (4, .var (.int .i64)), (1, .var (.int .i64))], 32⟩, ⟨[(7, .ptr 1 []), (0, .ptr 0 [])], 35⟩, ⟨[], 0⟩], heap := [.box (.var (.arr 16 (.int .u32))), .box (.var (.arr 16 (.int .u32)))] }
@[reducible] def cBlk_l2_T  : Tpl := { cur := ⟨[(2, .mv 162 (.pr (.ptr 0 []) (.un))), (4, .var (.int .i64)), (1, .var (.int .i64))], 32⟩, stk := [⟨[(7, .ptr 1 []), (0, .ptr 0 [])], 35⟩, ⟨[], 0⟩], heap := [.box (.var (.arr 16 (.int .u32))), .box (.var (.arr 16 (.int .u32)))] }
@[reducible] def cBlk_l5_T  : Tpl := { cur := ⟨[(0, .ptr 0 []), (29, .var (.arr 4 (.pair (.int .i64) (.pair (.int .i64) (.pair (.int .i64) (.pair (.int .i64) .unit)))))), (0, .var (.int .i64))], 39⟩, stk := [⟨[(2, .mv 162 (.pr (.ptr 0 []) (.un))), (4, .var (.int .i64)), (14, .var (.int .i64))], 19⟩, ⟨[(7, .ptr 1 []), (0, .ptr 0 [])], 35⟩, ⟨[], 0⟩], heap := [.box (.var (.arr 16 (.int .u32))), .box (.var (.arr 16 (.int .u32)))] }
@[reducible] def cBlk_l4_T  : Tpl := { cur := ⟨[(2, .mv 162 (.pr (.ptr 0 []) (.un))), (4, .var (.int .i64)), (14, .var (.int .i64))], 19⟩, stk := [⟨[(7, .ptr 1 []), (0, .ptr 0 [])], 35⟩, ⟨[], 0⟩], heap := [.box (.var (.arr 16 (.int .u32))), .box (.var (.arr 16 (.int .u32)))] }
@[reducible] def cBlk_l1_T  : Tpl := { cur := ⟨[(2, .mv 162 (.pr (.ptr 0 []) (.un))), (4, .var (.int .i64))], 34⟩, stk := [⟨[(7, .ptr 1 []), (0, .ptr 0 [])], 35⟩, ⟨[], 0⟩], heap := [.box (.var (.arr 16 (.int .u32))), .box (.var (.arr 16 (.int .u32)))] }
@[reducible] def cBlk_l6_T  : Tpl := { cur := ⟨[(7, .ptr 0 []), (1, .row 1), (8, .var (.arr 16 (.int .u32))), (0, .var (.int .i64))], 24⟩, stk := [⟨[], 0⟩], heap := [.box (.var (.arr 16 (.int .u32))), .row 5 (.int .u8) false] }
def cBlk_orcs  : List (FuncId × Orc) := [(147, cFirst_orc), (170, rol32_orc)]
def cBlk_book0  : Book := { Γ := gam, orc := orcsOf cBlk_orcs, hint := hintsOf [(128, { keep := some [7, 9, 18, 19], keeps := [(6, [7, 9, 18, 19])], own := [(9, 32)], dat := [], stk := [] }), (148, { keep := some [2, 7, 9, 22], keeps := [(2, [2, 7]), (4, [2, 7, 9]), (9, [2, 7, 22])], own := [], dat := [], stk := [[7, 8]] }), (162, { keep := some [0, 30, 31], keeps := [(2, [0, 30, 31])], own := [], dat := [], stk := [[2, 7, 9, 22], [7, 8]] })] }
def cBlk_l3_G (F : Nat) (nx : cBlk_l3_T.T → ZO) (kq : ZK) (x : cBlk_l3_T.T) : ZO := cBlk_l3 F none (fun s30 s31 s7 s9 w w1 => nx (((), (s30, (s31, ()))), (((((), ()), (s7, (s9, ()))), (((), ((), ())), ((), ()))), (w, (w1, ()))))) (fun y0 y1 y2 y3 y4 y5 => kq (.exit 0) (cBlk_l3_T.inst (((), (y0, (y1, ()))), (((((), ()), (y2, (y3, ()))), (((), ((), ())), ((), ()))), (y4, (y5, ())))))) x.1.2.1 x.1.2.2.1 x.2.1.1.2.1 x.2.1.1.2.2.1 x.2.2.1 x.2.2.2.1
def cBlk_l3_R (F m : Nat) (x : cBlk_l3_T.T) (kq : ZK) : ZO := cBlk_l3F F none (fun y0 y1 y2 y3 y4 y5 => kq (.exit 0) (cBlk_l3_T.inst (((), (y0, (y1, ()))), (((((), ()), (y2, (y3, ()))), (((), ((), ())), ((), ()))), (y4, (y5, ())))))) m x.1.2.1 x.1.2.2.1 x.2.1.1.2.1 x.2.1.1.2.2.1 x.2.2.1 x.2.2.2.1
def cBlk_l2_G (F : Nat) (nx : cBlk_l2_T.T → ZO) (kq : ZK) (x : cBlk_l2_T.T) : ZO := cBlk_l2 F none (fun s7 s9 change w => nx ((((), ()), (s7, (s9, ()))), ((((), ((), ())), ((), ())), (change, (w, ()))))) (fun y0 y1 y2 y3 => kq (.exit 2) (cBlk_l2_T.inst ((((), ()), (y0, (y1, ()))), ((((), ((), ())), ((), ())), (y2, (y3, ())))))) x.1.2.1 x.1.2.2.1 x.2.2.1 x.2.2.2.1
def cBlk_l2_R (F m : Nat) (x : cBlk_l2_T.T) (kq : ZK) : ZO := cBlk_l2F F none (fun y0 y1 y2 y3 => kq (.exit 2) (cBlk_l2_T.inst ((((), ()), (y0, (y1, ()))), ((((), ((), ())), ((), ())), (y2, (y3, ())))))) m x.1.2.1 x.1.2.2.1 x.2.2.1 x.2.2.2.1
def cBlk_l5_G (F : Nat) (nx : cBlk_l5_T.T → ZO) (kq : ZK) (x : cBlk_l5_T.T) : ZO := cBlk_l5 F none (fun s30 s31 s7 s22 w w1 => nx (((), (s30, (s31, ()))), (((((), ()), (s7, (s22, ()))), (((), ((), ())), ((), ()))), (w, (w1, ()))))) (fun y0 y1 y2 y3 y4 y5 => kq (.exit 0) (cBlk_l5_T.inst (((), (y0, (y1, ()))), (((((), ()), (y2, (y3, ()))), (((), ((), ())), ((), ()))), (y4, (y5, ())))))) x.1.2.1 x.1.2.2.1 x.2.1.1.2.1 x.2.1.1.2.2.1 x.2.2.1 x.2.2.2.1
def cBlk_l5_R (F m : Nat) (x : cBlk_l5_T.T) (kq : ZK) : ZO := cBlk_l5F F none (fun y0 y1 y2 y3 y4 y5 => kq (.exit 0) (cBlk_l5_T.inst (((), (y0, (y1, ()))), (((((), ()), (y2, (y3, ()))), (((), ((), ())), ((), ()))), (y4, (y5, ())))))) m x.1.2.1 x.1.2.2.1 x.2.1.1.2.1 x.2.1.1.2.2.1 x.2.2.1 x.2.2.2.1
def cBlk_l4_G (F : Nat) (nx : cBlk_l4_T.T → ZO) (kq : ZK) (x : cBlk_l4_T.T) : ZO := cBlk_l4 F none (fun s7 s22 change w => nx ((((), ()), (s7, (s22, ()))), ((((), ((), ())), ((), ())), (change, (w, ()))))) (fun y0 y1 y2 y3 => kq (.exit 4) (cBlk_l4_T.inst ((((), ()), (y0, (y1, ()))), ((((), ((), ())), ((), ())), (y2, (y3, ())))))) x.1.2.1 x.1.2.2.1 x.2.2.1 x.2.2.2.1
def cBlk_l4_R (F m : Nat) (x : cBlk_l4_T.T) (kq : ZK) : ZO := cBlk_l4F F none (fun y0 y1 y2 y3 => kq (.exit 4) (cBlk_l4_T.inst ((((), ()), (y0, (y1, ()))), ((((), ((), ())), ((), ())), (y2, (y3, ())))))) m x.1.2.1 x.1.2.2.1 x.2.2.1 x.2.2.2.1
def cBlk_l1_G (F : Nat) (nx : cBlk_l1_T.T → ZO) (kq : ZK) (x : cBlk_l1_T.T) : ZO := cBlk_l1 F none (fun s7 change w => nx ((((), ()), (s7, ())), ((((), ((), ())), ((), ())), (change, (w, ()))))) (fun y0 y1 y2 => kq (.exit 0) (cBlk_l1_T.inst ((((), ()), (y0, ())), ((((), ((), ())), ((), ())), (y1, (y2, ())))))) x.1.2.1 x.2.2.1 x.2.2.2.1
def cBlk_l1_R (F m : Nat) (x : cBlk_l1_T.T) (kq : ZK) : ZO := cBlk_l1F F none (fun y0 y1 y2 => kq (.exit 0) (cBlk_l1_T.inst ((((), ()), (y0, ())), ((((), ((), ())), ((), ())), (y1, (y2, ())))))) m x.1.2.1 x.2.2.1 x.2.2.2.1
def cBlk_l6_G (F : Nat) (nx : cBlk_l6_T.T → ZO) (kq : ZK) (x : cBlk_l6_T.T) : ZO := cBlk_l6 F none (fun s18 s19 w out => nx (((), ((), (s18, (s19, ())))), (((), ()), (w, (out, ()))))) (fun y0 y1 y2 y3 => kq (.exit 0) (cBlk_l6_T.inst (((), ((), (y0, (y1, ())))), (((), ()), (y2, (y3, ())))))) x.1.2.2.1 x.1.2.2.2.1 x.2.2.1 x.2.2.2.1
def cBlk_l6_R (F m : Nat) (x : cBlk_l6_T.T) (kq : ZK) : ZO := cBlk_l6F F none (fun y0 y1 y2 y3 => kq (.exit 0) (cBlk_l6_T.inst (((), ((), (y0, (y1, ())))), (((), ()), (y2, (y3, ())))))) m x.1.2.2.1 x.1.2.2.2.1 x.2.2.1 x.2.2.2.1
def cBlk_lo (F : Nat) : List (LoE Unit) := [⟨162, 2, LO.orT cBlk_l3_T (cBlk_l3_R F F) (LO.of cBlk_l5_T (cBlk_l5_R F F))⟩,
 ⟨148, 4, LO.of cBlk_l2_T (cBlk_l2_R F F)⟩,
 ⟨148, 9, LO.of cBlk_l4_T (cBlk_l4_R F F)⟩,
 ⟨148, 2, LO.of cBlk_l1_T (cBlk_l1_R F F)⟩,
 ⟨128, 6, LO.of cBlk_l6_T (cBlk_l6_R F F)⟩]
def cBlk_book (F : Nat) : BookL Unit := { toBook := cBlk_book0, lo := losOf (cBlk_lo F), need := needsOf [(148, 1)] }
theorem cBlk_l3_step (F : Nat) : LStep prog (cBlk_book F) F 162 0 2 cBlk_l3_T (cBlk_l3_G F) := fun d x KQ => by kernel_rfl
theorem cBlk_l2_step (F : Nat) : LStep prog (cBlk_book F) F 148 1 4 cBlk_l2_T (cBlk_l2_G F) := fun d x KQ => by kernel_rfl
theorem cBlk_l5_step (F : Nat) : LStep prog (cBlk_book F) F 162 0 2 cBlk_l5_T (cBlk_l5_G F) := fun d x KQ => by kernel_rfl
theorem cBlk_l4_step (F : Nat) : LStep prog (cBlk_book F) F 148 2 9 cBlk_l4_T (cBlk_l4_G F) := fun d x KQ => by kernel_rfl
theorem cBlk_l1_step (F : Nat) : LStep prog (cBlk_book F) F 148 0 2 cBlk_l1_T (cBlk_l1_G F) := fun d x KQ => by kernel_rfl
theorem cBlk_l6_step (F : Nat) : LStep prog (cBlk_book F) F 128 0 6 cBlk_l6_T (cBlk_l6_G F) := fun d x KQ => by kernel_rfl
theorem cBlk_loOk (F : Nat) : LoOk prog (cBlk_book F) F := loOk_of (l := cBlk_lo F) rfl (fa (loOne_of 0 (by kernel_rfl) (by kernel_rfl) (loIs_orT (lstep_run (cBlk_l3_step F) (fun _ _ => rfl) (fun _ _ _ _ => rfl)) (lstep_run (cBlk_l5_step F) (fun _ _ => rfl) (fun _ _ _ _ => rfl)))) (fa (loOne_of 1 (by kernel_rfl) (by kernel_rfl) (lstep_run (cBlk_l2_step F) (fun _ _ => rfl) (fun _ _ _ _ => rfl))) (fa (loOne_of 2 (by kernel_rfl) (by kernel_rfl) (lstep_run (cBlk_l4_step F) (fun _ _ => rfl) (fun _ _ _ _ => rfl))) (fa (loOne_of 0 (by kernel_rfl) (by kernel_rfl) (lstep_run (cBlk_l1_step F) (fun _ _ => rfl) (fun _ _ _ _ => rfl))) (fa (loOne_of 0 (by kernel_rfl) (by kernel_rfl) (lstep_run (cBlk_l6_step F) (fun _ _ => rfl) (fun _ _ _ _ => rfl))) fz)))))
theorem cBlk_run (F : Nat) (x : ArgsT cBlk_ps) (kend : List BV → ZO) : runFnL prog (cBlk_book F) F 20 128 (argsInst cBlk_ps x) [.o 5 (.int .u8)] kend = cBlk F x.1 x.2.1 x.2.2.1 none (fun y0 => kend [BV.o 5 (.int .u8) y0]) := by kernel_rfl
theorem cBlk_contract  : Contract prog 128 cBlk_orc := con_of (B0 := cBlk_book0) bkN bkG mix_ok bkT cBlk_run (orcsOf_ok (fa cFirst_contract (fa rol32_contract fz))) (by kernel_rfl) (fun _ => rfl) cBlk_loOk (fun x h => (cBlk_plain x.1 x.2.1 x.2.2.1 h).elim fun F hF => ⟨F, fun kend => hF none _⟩)
@[reducible] def cRange_ps  : List PM := [.d (.int .i64)]
def cRange_orc  : Orc := Orc.of cRange_ps true 0 fun x => (true, [.d .bool (cRange_r x.1)])
def cRange_orcs  : List (FuncId × Orc) := []
theorem cRange_run (F : Nat) (x : ArgsT cRange_ps) (kend : List BV → ZO) : runFnL prog (bkZ cRange_orcs) F 20 107 (argsInst cRange_ps x) [.d .bool] kend = cRange F x.1 none (fun y0 => kend [BV.d .bool y0]) := by kernel_rfl
theorem cRange_contract  : Contract prog 107 cRange_orc := con_of (B0 := bkY cRange_orcs) bkN bkG mix_ok bkT cRange_run (orcsOf_ok fz) (by kernel_rfl) (fun _ => rfl) (bkO _) (fun x _ => (cRange_plain x.1).elim fun F hF => ⟨F, fun kend => hF none _⟩)
end Go.AI
namespace Go.AI
open Go
open Go.Proofs.Tryz (prog)
set_option linter.unusedVariables false
@[reducible] def equal_byte_ps  : List PM := [.d (.slc (.int .u8)), .d (.slc (.int .u8))]
def equal_byte_orc  : Orc := Orc.of equal_byte_ps true 0 fun x => (equal_byte_P x.1 x.2.1, [.d .bool (equal_byte_r x.1 x.2.1)])
@[reducible] def equal_byte_l1_T  : Tpl := { cur := ⟨[(0, .var (.slc (.int .u8))), (0, .var (.slc (.int .u8))), (2, .var .bool), (7, .var (.int .i64)), (0, .var (.int .i64))], 12⟩, stk := [⟨[], 0⟩], heap := [] }
def equal_byte_orcs  : List (FuncId × Orc) := []
def equal_byte_book0  : Book := { Γ := gam, orc := orcsOf equal_byte_orcs, hint := hintsOf [(108, { keep := some [0, 1, 4, 12, 13], keeps := [(4, [0, 1, 4, 12, 13])], own := [], dat := [], stk := [] })] }
def equal_byte_l1_G (F : Nat) (nx : equal_byte_l1_T.T → ZO) (kq : ZK) (x : equal_byte_l1_T.T) : ZO := equal_byte_l1 F none (fun s1 s2 s4 s12 s13 => nx ((s1, (s2, (s4, (s12, (s13, ()))))), (((), ()), ()))) (fun y0 y1 y2 y3 y4 => kq .ret (equal_byte_l1_T.inst ((y0, (y1, (y2, (y3, (y4, ()))))), (((), ()), ())))) (fun y0 y1 y2 y3 y4 => kq (.exit 0) (equal_byte_l1_T.inst ((y0, (y1, (y2, (y3, (y4, ()))))), (((), ()), ())))) x.1.1 x.1.2.1 x.1.2.2.1 x.1.2.2.2.1 x.1.2.2.2.2.1
def equal_byte_l1_R (F m : Nat) (x : equal_byte_l1_T.T) (kq : ZK) : ZO := equal_byte_l1F F none (fun y0 y1 y2 y3 y4 => kq .ret (equal_byte_l1_T.inst ((y0, (y1, (y2, (y3, (y4, ()))))), (((), ()), ())))) (fun y0 y1 y2 y3 y4 => kq (.exit 0) (equal_byte_l1_T.inst ((y0, (y1, (y2, (y3, (y4, ()))))), (((), ()), ())))) m x.1.1 x.1.2.1 x.1.2.2.1 x.1.2.2.2.1 x.1.2.2.2.2.1
def equal_byte_lo (F : Nat) : List (LoE Unit) := [⟨108, 4, LO.of equal_byte_l1_T (equal_byte_l1_R F F)⟩]
def equal_byte_book (F : Nat) : BookL Unit := { toBook := equal_byte_book0, lo := losOf (equal_byte_lo F), need := needsOf [] }
theorem equal_byte_l1_step (F : Nat) : LStep prog (equal_byte_book F) F 108 0 4 equal_byte_l1_T (equal_byte_l1_G F) := fun d x KQ => by kernel_rfl
theorem equal_byte_loOk (F : Nat) : LoOk prog (equal_byte_book F) F := loOk_of (l := equal_byte_lo F) rfl (fa (loOne_of 0 (by kernel_rfl) (by kernel_rfl) (lstep_run (equal_byte_l1_step F) (fun _ _ => rfl) (fun _ _ _ _ => rfl))) fz)
theorem equal_byte_run (F : Nat) (x : ArgsT equal_byte_ps) (kend : List BV → ZO) : runFnL prog (equal_byte_book F) F 20 108 (argsInst equal_byte_ps x) [.d .bool] kend = equal_byte F x.1 x.2.1 none (fun y0 => kend [BV.d .bool y0]) := by kernel_rfl
theorem equal_byte_contract  : Contract prog 108 equal_byte_orc := con_of (B0 := equal_byte_book0) bkN bkG mix_ok bkT equal_byte_run (orcsOf_ok fz) (by kernel_rfl) (fun _ => rfl) equal_byte_loOk (fun x h => (equal_byte_plain x.1 x.2.1 h).elim fun F hF => ⟨F, fun kend => hF none _⟩)
@[reducible] def cStream_ps  : List PM := [.d (.arr 32 (.int .u8)), .d (.int .i64), .d (.slc (.int .u8))]
def cStream_orc  : Orc := Orc.of cStream_ps true 1 fun x => (cStream_P x.1 x.2.1 x.2.2.1, [.o 5 (.int .u8) (cStream_r0 x.1 x.2.1 x.2.2.1), .d (.int .i64) (cStream_r1 x.1 x.2.1 x.2.2.1)])
@[reducible] def cStream_l2_T  : Tpl := { cur := ⟨[(9, .ptr 0 []), (0, .sl 1), (0, .row 2), (19, .var (.int .i64)), (0, .var (.int .i64))], 16⟩, stk := [⟨[(0, .hnd .yield 3)], 0⟩, ⟨[(0, .hnd .yield 3), (0, .ptr 6 []), (0, .ptr 7 []), (1, .var (.int .i64))], 26⟩, ⟨[(0, .hnd .yield 3)], 0⟩, ⟨[(2, .var (.slc (.int .u8))), (0, .ptr 4 []), (0, .ptr 5 []), (1, .nils), (0, .var (.int .i64)), (0, .row 1), (0, .ptr 0 [])], 39⟩, ⟨[], 0⟩], heap := [.box (.var (.int .i64)), .row 5 (.int .u8) false, .row 5 (.int .u8) false, .lp 99 8 ⟨[(3, .ptr 4 []), (0, .ptr 5 []), (4, .ptr 0 [])], 39⟩ .busy, .box (.var (.arr 32 (.int .u8))), .box (.var (.int .i64)), .box (.row 1), .box (.var (.int .i64))] }
@[reducible] def cStream_l1_T  : Tpl := { cur := ⟨[(0, .hnd .yield 0), (0, .ptr 4 []), (0, .ptr 6 []), (1, .var (.int .i64))], 26⟩, stk := [⟨[(0, .hnd .yield 0)], 0⟩, ⟨[(2, .var (.slc (.int .u8))), (0, .ptr 1 []), (0, .ptr 2 []), (1, .nils), (0, .var (.int .i64)), (0, .row 5), (0, .ptr 3 [])], 39⟩, ⟨[], 0⟩], heap := [.lp 99 8 ⟨[(3, .ptr 1 []), (0, .ptr 2 []), (4, .ptr 3 [])], 39⟩ .ready, .box (.var (.arr 32 (.int .u8))), .box (.var (.int .i64)), .box (.var (.int .i64)), .box (.row 5), .row 5 (.int .u8) false, .box (.var (.int .i64))] }
def cStream_orcs  : List (FuncId × Orc) := [(107, cRange_orc), (111, clone_byte_orc), (128, cBlk_orc)]
def cStream_book0  : Book := { Γ := gam, orc := orcsOf cStream_orcs, hint := hintsOf [(99, { keep := some [9, 10, 11, 31, 32], keeps := [(11, [9, 10, 11, 31, 32])], own := [], dat := [], stk := [[0], [0, 1, 2, 4], [0], [2, 3, 4, 6, 7, 8, 9, 10, 11, 12, 25, 31, 32, 33]] }), (103, { keep := some [0, 1, 2, 4], keeps := [(1, [0, 1, 2, 4])], own := [], dat := [], stk := [[0], [2, 3, 4, 6, 7, 8, 9, 10, 11, 12, 25, 31, 32, 33]] })] }
def cStream_l2_G (F : Nat) (nx : cStream_l2_T.T → ZO) (kq : ZK) (x : cStream_l2_T.T) : ZO := cStream_l2 F none (fun part_i part_n s31 s32 i b s7 counter part s key nonce s2 => nx (((), ((part_i, part_n), ((), (s31, (s32, ()))))), ((((), ()), (((), ((), ((), (i, ())))), (((), ()), ((b, ((), ((), ((), (s7, ((), ((), ()))))))), ((), ()))))), (counter, (part, (s, (((), ((), ((), ()))), (key, (nonce, ((), (s2, ()))))))))))) (fun y0 y1 y2 y3 y4 y5 y6 y7 y8 y9 y10 y11 y12 => kq (.exit 3) (cStream_l2_T.inst (((), ((y0, y1), ((), (y2, (y3, ()))))), ((((), ()), (((), ((), ((), (y4, ())))), (((), ()), ((y5, ((), ((), ((), (y6, ((), ((), ()))))))), ((), ()))))), (y7, (y8, (y9, (((), ((), ((), ()))), (y10, (y11, ((), (y12, ())))))))))))) x.1.2.1.1 x.1.2.1.2 x.1.2.2.2.1 x.1.2.2.2.2.1 x.2.1.2.1.2.2.2.1 x.2.1.2.2.2.1.1 x.2.1.2.2.2.1.2.2.2.2.1 x.2.2.1 x.2.2.2.1 x.2.2.2.2.1 x.2.2.2.2.2.2.1 x.2.2.2.2.2.2.2.1 x.2.2.2.2.2.2.2.2.2.1
def cStream_l2_R (F m : Nat) (x : cStream_l2_T.T) (kq : ZK) : ZO := cStream_l2F F none (fun y0 y1 y2 y3 y4 y5 y6 y7 y8 y9 y10 y11 y12 => kq (.exit 3) (cStream_l2_T.inst (((), ((y0, y1), ((), (y2, (y3, ()))))), ((((), ()), (((), ((), ((), (y4, ())))), (((), ()), ((y5, ((), ((), ((), (y6, ((), ((), ()))))))), ((), ()))))), (y7, (y8, (y9, (((), ((), ((), ()))), (y10, (y11, ((), (y12, ())))))))))))) m x.1.2.1.1 x.1.2.1.2 x.1.2.2.2.1 x.1.2.2.2.2.1 x.2.1.2.1.2.2.2.1 x.2.1.2.2.2.1.1 x.2.1.2.2.2.1.2.2.2.2.1 x.2.2.1 x.2.2.2.1 x.2.2.2.2.1 x.2.2.2.2.2.2.1 x.2.2.2.2.2.2.2.1 x.2.2.2.2.2.2.2.2.2.1
def cStream_l1_G (F : Nat) (nx : cStream_l1_T.T → ZO) (kq : ZK) (x : cStream_l1_T.T) : ZO := cStream_l1 F none (fun i b s7 key nonce counter out s2 => nx (((), ((), ((), (i, ())))), ((((), ()), ((b, ((), ((), ((), (s7, ((), ((), ()))))))), ((), ()))), (((), ((), ((), ()))), (key, (nonce, (counter, ((), (out, (s2, ())))))))))) (fun y0 y1 y2 y3 y4 y5 y6 y7 => kq (.exit 0) (cStream_l1_T.inst (((), ((), ((), (y0, ())))), ((((), ()), ((y1, ((), ((), ((), (y2, ((), ((), ()))))))), ((), ()))), (((), ((), ((), ()))), (y3, (y4, (y5, ((), (y6, (y7, ()))))))))))) x.1.2.2.2.1 x.2.1.2.1.1 x.2.1.2.1.2.2.2.2.1 x.2.2.2.1 x.2.2.2.2.1 x.2.2.2.2.2.1 x.2.2.2.2.2.2.2.1 x.2.2.2.2.2.2.2.2.1
def cStream_l1_R (F m : Nat) (x : cStream_l1_T.T) (kq : ZK) : ZO := cStream_l1F F none (fun y0 y1 y2 y3 y4 y5 y6 y7 => kq (.exit 0) (cStream_l1_T.inst (((), ((), ((), (y0, ())))), ((((), ()), ((y1, ((), ((), ((), (y2, ((), ((), ()))))))), ((), ()))), (((), ((), ((), ()))), (y3, (y4, (y5, ((), (y6, (y7, ()))))))))))) m x.1.2.2.2.1 x.2.1.2.1.1 x.2.1.2.1.2.2.2.2.1 x.2.2.2.1 x.2.2.2.2.1 x.2.2.2.2.2.1 x.2.2.2.2.2.2.2.1 x.2.2.2.2.2.2.2.2.1
def cStream_lo (F : Nat) : List (LoE Unit) := [⟨99, 11, LO.of cStream_l2_T (cStream_l2_R F F)⟩,
 ⟨103, 1, LO.of cStream_l1_T (cStream_l1_R F F)⟩]
def cStream_book (F : Nat) : BookL Unit := { toBook := cStream_book0, lo := losOf (cStream_lo F), need := needsOf [(103, 1)] }
theorem cStream_l2_step (F : Nat) : LStep prog (cStream_book F) F 99 0 11 cStream_l2_T (cStream_l2_G F) := fun d x KQ => by kernel_rfl
theorem cStream_l1_step (F : Nat) : LStep prog (cStream_book F) F 103 0 1 cStream_l1_T (cStream_l1_G F) := fun d x KQ => by kernel_rfl
theorem cStream_loOk (F : Nat) : LoOk prog (cStream_book F) F := loOk_of (l := cStream_lo F) rfl (fa (loOne_of 0 (by kernel_rfl) (by kernel_rfl) (lstep_run (cStream_l2_step F) (fun _ _ => rfl) (fun _ _ _ _ => rfl))) (fa (loOne_of 0 (by kernel_rfl) (by kernel_rfl) (lstep_run (cStream_l1_step F) (fun _ _ => rfl) (fun _ _ _ _ => rfl))) fz))
theorem cStream_run (F : Nat) (x : ArgsT cStream_ps) (kend : List BV → ZO) : runFnL prog (cStream_book F) F 20 99 (argsInst cStream_ps x) [.o 5 (.int .u8), .d (.int .i64)] kend = cStream F x.1 x.2.1 x.2.2.1 none (fun y0 y1 => kend [BV.o 5 (.int .u8) y0, BV.d (.int .i64) y1]) := by kernel_rfl
theorem cStream_contract  : Contract prog 99 cStream_orc := con_of (B0 := cStream_book0) bkN bkG mix_ok bkT cStream_run (orcsOf_ok (fa cRange_contract (fa clone_byte_contract (fa cBlk_contract fz)))) (by kernel_rfl) (fun _ => rfl) cStream_loOk (fun x h => (cStream_plain x.1 x.2.1 x.2.2.1 h).elim fun F hF => ⟨F, fun kend => hF none _⟩)
@[reducible] def cKeys_ps  : List PM := [.d (.slc (.int .u8))]
def cKeys_orc  : Orc := Orc.of cKeys_ps true 0 fun x => (cKeys_P x.1, [.d (.arr 32 (.int .u8)) (cKeys_r0 x.1), .d (.arr 32 (.int .u8)) (cKeys_r1 x.1)])
def cKeys_orcs  : List (FuncId × Orc) := [(127, dMac_orc)]
theorem cKeys_run (F : Nat) (x : ArgsT cKeys_ps) (kend : List BV → ZO) : runFnL prog (bkZ cKeys_orcs) F 20 98 (argsInst cKeys_ps x) [.d (.arr 32 (.int .u8)), .d (.arr 32 (.int .u8))] kend = cKeys F x.1 none (fun y0 y1 => kend [BV.d (.arr 32 (.int .u8)) y0, BV.d (.arr 32 (.int .u8)) y1]) := by kernel_rfl
theorem cKeys_contract  : Contract prog 98 cKeys_orc := con_of (B0 := bkY cKeys_orcs) bkN bkG mix_ok bkT cKeys_run (orcsOf_ok (fa dMac_contract fz)) (by kernel_rfl) (fun _ => rfl) (bkO _) (fun x h => (cKeys_plain x.1 h).elim fun F hF => ⟨F, fun kend => hF none _⟩)
@[reducible] def cTag_ps  : List PM := [.d (.arr 32 (.int .u8)), .d (.int .i64), .d (.slc (.int .u8))]
def cTag_orc  : Orc := Orc.of cTag_ps false 0 fun x => (cTag_P x.1 x.2.1 x.2.2.1, [.d (.slc (.int .u8)) (cTag_r x.1 x.2.1 x.2.2.1)])
@[reducible] def cTag_l1_T  : Tpl := { cur := ⟨[(1, .var (.int .i64)), (0, .var (.slc (.int .u8))), (0, .ptr 0 []), (3, .row 1), (2, .var (.int .i64))], 17⟩, stk := [⟨[], 0⟩], heap := [.box (.var (.arr 32 (.int .u8))), .row 5 (.int .u8) false] }
def cTag_orcs  : List (FuncId × Orc) := [(127, dMac_orc)]
def cTag_book0  : Book := { Γ := gam, orc := orcsOf cTag_orcs, hint := hintsOf [(100, { keep := some [1, 2, 3, 7, 10], keeps := [(3, [1, 2, 3, 7, 10])], own := [(7, 32)], dat := [], stk := [] })] }
def cTag_l1_G (F : Nat) (nx : cTag_l1_T.T → ZO) (kq : ZK) (x : cTag_l1_T.T) : ZO := cTag_l1 F none (fun nonce b s10 key l => nx ((nonce, (b, ((), ((), (s10, ()))))), (((), ()), (key, (l, ()))))) (fun y0 y1 y2 y3 y4 => kq (.exit 0) (cTag_l1_T.inst ((y0, (y1, ((), ((), (y2, ()))))), (((), ()), (y3, (y4, ())))))) x.1.1 x.1.2.1 x.1.2.2.2.2.1 x.2.2.1 x.2.2.2.1
def cTag_l1_R (F m : Nat) (x : cTag_l1_T.T) (kq : ZK) : ZO := cTag_l1F F none (fun y0 y1 y2 y3 y4 => kq (.exit 0) (cTag_l1_T.inst ((y0, (y1, ((), ((), (y2, ()))))), (((), ()), (y3, (y4, ())))))) m x.1.1 x.1.2.1 x.1.2.2.2.2.1 x.2.2.1 x.2.2.2.1
def cTag_lo (F : Nat) : List (LoE Unit) := [⟨100, 3, LO.of cTag_l1_T (cTag_l1_R F F)⟩]
def cTag_book (F : Nat) : BookL Unit := { toBook := cTag_book0, lo := losOf (cTag_lo F), need := needsOf [] }
theorem cTag_l1_step (F : Nat) : LStep prog (cTag_book F) F 100 0 3 cTag_l1_T (cTag_l1_G F) := fun d x KQ => by kernel_rfl
theorem cTag_loOk (F : Nat) : LoOk prog (cTag_book F) F := loOk_of (l := cTag_lo F) rfl (fa (loOne_of 0 (by kernel_rfl) (by kernel_rfl) (lstep_run (cTag_l1_step F) (fun _ _ => rfl) (fun _ _ _ _ => rfl))) fz)
theorem cTag_run (F : Nat) (x : ArgsT cTag_ps) (kend : List BV → ZO) : runFnL prog (cTag_book F) F 20 100 (argsInst cTag_ps x) [.d (.slc (.int .u8))] kend = cTag F x.1 x.2.1 x.2.2.1 none (fun y0 => kend [BV.d (.slc (.int .u8)) y0]) := by kernel_rfl
theorem cTag_contract  : Contract prog 100 cTag_orc := con_of (B0 := cTag_book0) bkN bkG mix_ok bkT cTag_run (orcsOf_ok (fa dMac_contract fz)) (by kernel_rfl) (fun _ => rfl) cTag_loOk (fun x h => (cTag_plain x.1 x.2.1 x.2.2.1 h).elim fun F hF => ⟨F, fun kend => hF none _⟩)
@[reducible] def cUsable_ps  : List PM := [.d (.slc (.int .u8))]
def cUsable_orc  : Orc := Orc.of cUsable_ps true 0 fun x => (true, [.d .bool (cUsable_r x.1)])
def cUsable_orcs  : List (FuncId × Orc) := []
theorem cUsable_run (F : Nat) (x : ArgsT cUsable_ps) (kend : List BV → ZO) : runFnL prog (bkZ cUsable_orcs) F 20 97 (argsInst cUsable_ps x) [.d .bool] kend = cUsable F x.1 none (fun y0 => kend [BV.d .bool y0]) := by kernel_rfl
theorem cUsable_contract  : Contract prog 97 cUsable_orc := con_of (B0 := bkY cUsable_orcs) bkN bkG mix_ok bkT cUsable_run (orcsOf_ok fz) (by kernel_rfl) (fun _ => rfl) (bkO _) (fun x _ => (cUsable_plain x.1).elim fun F hF => ⟨F, fun kend => hF none _⟩)
@[reducible] def cSeal_ps  : List PM := [.d (.slc (.int .u8)), .d (.int .i64), .d (.slc (.int .u8))]
def cSeal_orc  : Orc := Orc.of cSeal_ps true 1 fun x => (cSeal_P x.1 x.2.1 x.2.2.1, [.o 5 (.int .u8) (cSeal_r0 x.1 x.2.1 x.2.2.1), .d (.int .i64) (cSeal_r1 x.1 x.2.1 x.2.2.1)])
@[reducible] def cSeal_l1_T  : Tpl := { cur := ⟨[(1, .var (.int .i64)), (0, .row 0), (0, .ptr 1 []), (3, .row 2), (2, .var (.int .i64))], 17⟩, stk := [⟨[(0, .var (.slc (.int .u8))), (0, .var (.int .i64)), (0, .var (.slc (.int .u8))), (6, .ptr 3 []), (25, .row 0)], 5⟩, ⟨[], 0⟩], heap := [.row 5 (.int .u8) false, .box (.var (.arr 32 (.int .u8))), .row 5 (.int .u8) false, .box (.var (.arr 32 (.int .u8)))] }
def cSeal_orcs  : List (FuncId × Orc) := [(97, cUsable_orc), (98, cKeys_orc), (99, cStream_orc), (127, dMac_orc)]
def cSeal_book0  : Book := { Γ := gam, orc := orcsOf cSeal_orcs, hint := hintsOf [(100, { keep := some [1, 2, 3, 7, 10], keeps := [(3, [1, 2, 3, 7, 10])], own := [(7, 32)], dat := [], stk := [[0, 1, 2, 9, 35]] })] }
def cSeal_l1_G (F : Nat) (nx : cSeal_l1_T.T → ZO) (kq : ZK) (x : cSeal_l1_T.T) : ZO := cSeal_l1 F none (fun nonce s10 key nonce1 b b1 key1 l authenticate => nx ((nonce, ((), ((), ((), (s10, ()))))), (((key, (nonce1, (b, ((), ((), ()))))), ((), ())), (b1, (key1, (l, (authenticate, ()))))))) (fun y0 y1 y2 y3 y4 y5 y6 y7 y8 => kq (.exit 0) (cSeal_l1_T.inst ((y0, ((), ((), ((), (y1, ()))))), (((y2, (y3, (y4, ((), ((), ()))))), ((), ())), (y5, (y6, (y7, (y8, ())))))))) x.1.1 x.1.2.2.2.2.1 x.2.1.1.1 x.2.1.1.2.1 x.2.1.1.2.2.1 x.2.2.1 x.2.2.2.1 x.2.2.2.2.1 x.2.2.2.2.2.1
def cSeal_l1_R (F m : Nat) (x : cSeal_l1_T.T) (kq : ZK) : ZO := cSeal_l1F F none (fun y0 y1 y2 y3 y4 y5 y6 y7 y8 => kq (.exit 0) (cSeal_l1_T.inst ((y0, ((), ((), ((), (y1, ()))))), (((y2, (y3, (y4, ((), ((), ()))))), ((), ())), (y5, (y6, (y7, (y8, ())))))))) m x.1.1 x.1.2.2.2.2.1 x.2.1.1.1 x.2.1.1.2.1 x.2.1.1.2.2.1 x.2.2.1 x.2.2.2.1 x.2.2.2.2.1 x.2.2.2.2.2.1
def cSeal_lo (F : Nat) : List (LoE Unit) := [⟨100, 3, LO.of cSeal_l1_T (cSeal_l1_R F F)⟩]
def cSeal_book (F : Nat) : BookL Unit := { toBook := cSeal_book0, lo := losOf (cSeal_lo F), need := needsOf [] }
theorem cSeal_l1_step (F : Nat) : LStep prog (cSeal_book F) F 100 0 3 cSeal_l1_T (cSeal_l1_G F) := fun d x KQ => by kernel_rfl
theorem cSeal_loOk (F : Nat) : LoOk prog (cSeal_book F) F := loOk_of (l := cSeal_lo F) rfl (fa (loOne_of 0 (by kernel_rfl) (by kernel_rfl) (lstep_run (cSeal_l1_step F) (fun _ _ => rfl) (fun _ _ _ _ => rfl))) fz)
theorem cSeal_run (F : Nat) (x : ArgsT cSeal_ps) (kend : List BV → ZO) : runFnL prog (cSeal_book F) F 20 55 (argsInst cSeal_ps x) [.o 5 (.int .u8), .d (.int .i64)] kend = cSeal F x.1 x.2.1 x.2.2.1 none (fun y0 y1 => kend [BV.o 5 (.int .u8) y0, BV.d (.int .i64) y1]) := by kernel_rfl
theorem cSeal_contract  : Contract prog 55 cSeal_orc := con_of (B0 := cSeal_book0) bkN bkG mix_ok bkT cSeal_run (orcsOf_ok (fa cUsable_contract (fa cKeys_contract (fa cStream_contract (fa dMac_contract fz))))) (by kernel_rfl) (fun _ => rfl) cSeal_loOk (fun x h => (cSeal_plain x.1 x.2.1 x.2.2.1 h).elim fun F hF => ⟨F, fun kend => hF none _⟩)
@[reducible] def cOpen_ps  : List PM := [.d (.slc (.int .u8)), .d (.int .i64), .d (.slc (.int .u8))]
def cOpen_orc  : Orc := Orc.of cOpen_ps true 1 fun x => (cOpen_P x.1 x.2.1 x.2.2.1, [.o 5 (.int .u8) (cOpen_r0 x.1 x.2.1 x.2.2.1), .d (.int .i64) (cOpen_r1 x.1 x.2.1 x.2.2.1)])
def cOpen_orcs  : List (FuncId × Orc) := [(97, cUsable_orc), (98, cKeys_orc), (99, cStream_orc), (100, cTag_orc), (107, cRange_orc), (108, equal_byte_orc)]
theorem cOpen_run (F : Nat) (x : ArgsT cOpen_ps) (kend : List BV → ZO) : runFnL prog (bkZ cOpen_orcs) F 20 75 (argsInst cOpen_ps x) [.o 5 (.int .u8), .d (.int .i64)] kend = cOpen F x.1 x.2.1 x.2.2.1 none (fun y0 y1 => kend [BV.o 5 (.int .u8) y0, BV.d (.int .i64) y1]) := by kernel_rfl
theorem cOpen_contract  : Contract prog 75 cOpen_orc := con_of (B0 := bkY cOpen_orcs) bkN bkG mix_ok bkT cOpen_run (orcsOf_ok (fa cUsable_contract (fa cKeys_contract (fa cStream_contract (fa cTag_contract (fa cRange_contract (fa equal_byte_contract fz))))))) (by kernel_rfl) (fun _ => rfl) (bkO _) (fun x h => (cOpen_plain x.1 x.2.1 x.2.2.1 h).elim fun F hF => ⟨F, fun kend => hF none _⟩)
end Go.AI
namespace Go.AI
open Go
open Go.Proofs.Tryz (prog)
set_option linter.unusedVariables false
@[reducible] def clPage_ps  : List PM := [.d (.slc (.arr 16 (.int .u8)))]
def clPage_orc  : Orc := Orc.of clPage_ps true 1 fun x => (clPage_P x.1, [.o 62 (.arr 16 (.int .u8)) (clPage_r x.1)])
def clPage_orcs  : List (FuncId × Orc) := []
theorem clPage_run (F : Nat) (x : ArgsT clPage_ps) (kend : List BV → ZO) : runFnL prog (bkZ clPage_orcs) F 20 43 (argsInst clPage_ps x) [.o 62 (.arr 16 (.int .u8))] kend = clPage F x.1 none both (fun y0 => kend [BV.o 62 (.arr 16 (.int .u8)) y0]) := by kernel_rfl
theorem clPage_contract  : Contract prog 43 clPage_orc := con_of (B0 := bkY clPage_orcs) bkN bkG mix_ok bkT clPage_run (orcsOf_ok fz) (by kernel_rfl) (fun _ => rfl) (bkO _) (fun x h => (clPage_plain x.1 h).elim fun F hF => ⟨F, fun kend => hF none both both_self _⟩)
@[reducible] def clPend_ps  : List PM := [.d (.slc (.pair (.int .i64) (.pair (.arr 16 (.int .u8)) .unit)))]
def clPend_orc  : Orc := Orc.of clPend_ps true 1 fun x => (clPend_P x.1, [.o 137 (.pair (.int .i64) (.pair (.arr 16 (.int .u8)) .unit)) (clPend_r x.1)])
def clPend_orcs  : List (FuncId × Orc) := []
theorem clPend_run (F : Nat) (x : ArgsT clPend_ps) (kend : List BV → ZO) : runFnL prog (bkZ clPend_orcs) F 20 65 (argsInst clPend_ps x) [.o 137 (.pair (.int .i64) (.pair (.arr 16 (.int .u8)) .unit))] kend = clPend F x.1 none both (fun y0 => kend [BV.o 137 (.pair (.int .i64) (.pair (.arr 16 (.int .u8)) .unit)) y0]) := by kernel_rfl
theorem clPend_contract  : Contract prog 65 clPend_orc := con_of (B0 := bkY clPend_orcs) bkN bkG mix_ok bkT clPend_run (orcsOf_ok fz) (by kernel_rfl) (fun _ => rfl) (bkO _) (fun x h => (clPend_plain x.1 h).elim fun F hF => ⟨F, fun kend => hF none both both_self _⟩)
@[reducible] def dFits_ps  : List PM := [.d (.pair (.slc (.arr 16 (.int .u8))) (.pair (.slc (.pair (.int .i64) (.pair (.arr 16 (.int .u8)) .unit))) .unit)), .d (.int .i64), .d (.int .i64)]
def dFits_orc  : Orc := Orc.of dFits_ps true 0 fun x => (dFits_P x.1 x.2.1 x.2.2.1, [.d .bool (dFits_r x.1 x.2.1 x.2.2.1)])
def dFits_orcs  : List (FuncId × Orc) := []
theorem dFits_run (F : Nat) (x : ArgsT dFits_ps) (kend : List BV → ZO) : runFnL prog (bkZ dFits_orcs) F 20 42 (argsInst dFits_ps x) [.d .bool] kend = dFits F x.1 x.2.1 x.2.2.1 none (fun y0 => kend [BV.d .bool y0]) := by kernel_rfl
theorem dFits_contract  : Contract prog 42 dFits_orc := con_of (B0 := bkY dFits_orcs) bkN bkG mix_ok bkT dFits_run (orcsOf_ok fz) (by kernel_rfl) (fun _ => rfl) (bkO _) (fun x h => (dFits_plain x.1 x.2.1 x.2.2.1 h).elim fun F hF => ⟨F, fun kend => hF none _⟩)
@[reducible] def dNew_ps  : List PM := [.d (.int .i64)]
def dNew_orc  : Orc := Orc.of dNew_ps false 0 fun x => (dNew_P x.1, [.d (.pair (.slc (.arr 16 (.int .u8))) (.pair (.slc (.pair (.int .i64) (.pair (.arr 16 (.int .u8)) .unit))) .unit)) (dNew_r0 x.1), .d (.int .i64) (dNew_r1 x.1)])
def dNew_orcs  : List (FuncId × Orc) := []
theorem dNew_run (F : Nat) (x : ArgsT dNew_ps) (kend : List BV → ZO) : runFnL prog (bkZ dNew_orcs) F 20 31 (argsInst dNew_ps x) [.d (.pair (.slc (.arr 16 (.int .u8))) (.pair (.slc (.pair (.int .i64) (.pair (.arr 16 (.int .u8)) .unit))) .unit)), .d (.int .i64)] kend = dNew F x.1 none (fun y0 y1 => kend [BV.d (.pair (.slc (.arr 16 (.int .u8))) (.pair (.slc (.pair (.int .i64) (.pair (.arr 16 (.int .u8)) .unit))) .unit)) y0, BV.d (.int .i64) y1]) := by kernel_rfl
theorem dNew_contract  : Contract prog 31 dNew_orc := con_of (B0 := bkY dNew_orcs) bkN bkG mix_ok bkT dNew_run (orcsOf_ok fz) (by kernel_rfl) (fun _ => rfl) (bkO _) (fun x h => (dNew_plain x.1 h).elim fun F hF => ⟨F, fun kend => hF none _⟩)
@[reducible] def dCheck_ps  : List PM := [.d (.pair (.slc (.arr 16 (.int .u8))) (.pair (.slc (.pair (.int .i64) (.pair (.arr 16 (.int .u8)) .unit))) .unit))]
def dCheck_orc  : Orc := Orc.of dCheck_ps true 0 fun x => (dCheck_P x.1, [.d (.int .i64) (dCheck_r x.1)])
@[reducible] def dCheck_l1_T  : Tpl := { cur := ⟨[(0, .var (.slc (.pair (.int .i64) (.pair (.arr 16 (.int .u8)) .unit)))), (0, .fn 63 (.pr (.ptr 0 []) (.un))), (2, .var (.int .i64)), (2, .var (.int .i64)), (0, .var (.int .i64))], 10⟩, stk := [⟨[], 9⟩, ⟨[(11, .lit false), (3, .lit false)], 5⟩, ⟨[], 0⟩], heap := [.box (.var (.pair (.slc (.arr 16 (.int .u8))) (.pair (.slc (.pair (.int .i64) (.pair (.arr 16 (.int .u8)) .unit))) .unit)))] }
def dCheck_orcs  : List (FuncId × Orc) := []
def dCheck_book0  : Book := { Γ := gam, orc := orcsOf dCheck_orcs, hint := hintsOf [(105, { keep := some [0, 1, 4, 7, 8], keeps := [(2, [0, 1, 4, 7, 8])], own := [], dat := [], stk := [[], [11, 15]] })] }
def dCheck_l1_G (F : Nat) (nx : dCheck_l1_T.T → ZO) (kq : ZK) (x : dCheck_l1_T.T) : ZO := dCheck_l1 F none (fun s s4 s7 s8 f => nx ((s, (((), ()), (s4, (s7, (s8, ()))))), (((), (((), ((), ())), ((), ()))), (f, ())))) (fun y0 y1 y2 y3 y4 => kq .ret (dCheck_l1_T.inst ((y0, (((), ()), (y1, (y2, (y3, ()))))), (((), (((), ((), ())), ((), ()))), (y4, ()))))) (fun y0 y1 y2 y3 y4 => kq (.exit 0) (dCheck_l1_T.inst ((y0, (((), ()), (y1, (y2, (y3, ()))))), (((), (((), ((), ())), ((), ()))), (y4, ()))))) x.1.1 x.1.2.2.1 x.1.2.2.2.1 x.1.2.2.2.2.1 x.2.2.1
def dCheck_l1_R (F m : Nat) (x : dCheck_l1_T.T) (kq : ZK) : ZO := dCheck_l1F F none (fun y0 y1 y2 y3 y4 => kq .ret (dCheck_l1_T.inst ((y0, (((), ()), (y1, (y2, (y3, ()))))), (((), (((), ((), ())), ((), ()))), (y4, ()))))) (fun y0 y1 y2 y3 y4 => kq (.exit 0) (dCheck_l1_T.inst ((y0, (((), ()), (y1, (y2, (y3, ()))))), (((), (((), ((), ())), ((), ()))), (y4, ()))))) m x.1.1 x.1.2.2.1 x.1.2.2.2.1 x.1.2.2.2.2.1 x.2.2.1
def dCheck_lo (F : Nat) : List (LoE Unit) := [⟨105, 2, LO.of dCheck_l1_T (dCheck_l1_R F F)⟩]
def dCheck_book (F : Nat) : BookL Unit := { toBook := dCheck_book0, lo := losOf (dCheck_lo F), need := needsOf [(105, 1)] }
theorem dCheck_l1_step (F : Nat) : LStep prog (dCheck_book F) F 105 0 2 dCheck_l1_T (dCheck_l1_G F) := fun d x KQ => by kernel_rfl
theorem dCheck_loOk (F : Nat) : LoOk prog (dCheck_book F) F := loOk_of (l := dCheck_lo F) rfl (fa (loOne_of 0 (by kernel_rfl) (by kernel_rfl) (lstep_run (dCheck_l1_step F) (fun _ _ => rfl) (fun _ _ _ _ => rfl))) fz)
theorem dCheck_run (F : Nat) (x : ArgsT dCheck_ps) (kend : List BV → ZO) : runFnL prog (dCheck_book F) F 20 39 (argsInst dCheck_ps x) [.d (.int .i64)] kend = dCheck F x.1 none (fun y0 => kend [BV.d (.int .i64) y0]) := by kernel_rfl
theorem dCheck_contract  : Contract prog 39 dCheck_orc := con_of (B0 := dCheck_book0) bkN bkG mix_ok bkT dCheck_run (orcsOf_ok fz) (by kernel_rfl) (fun _ => rfl) dCheck_loOk (fun x h => (dCheck_plain x.1 h).elim fun F hF => ⟨F, fun kend => hF none _⟩)
@[reducible] def contents_ps  : List PM := [.d (.pair (.slc (.arr 16 (.int .u8))) (.pair (.slc (.pair (.int .i64) (.pair (.arr 16 (.int .u8)) .unit))) .unit))]
def contents_orc  : Orc := Orc.of contents_ps true 1 fun x => (contents_P x.1, [.o 62 (.arr 16 (.int .u8)) (contents_r x.1)])
@[reducible] def contents_l1_T  : Tpl := { cur := ⟨[(3, .row 0), (6, .var (.slc (.pair (.int .i64) (.pair (.arr 16 (.int .u8)) .unit)))), (0, .var (.int .i64)), (0, .var (.int .i64))], 11⟩, stk := [⟨[], 0⟩], heap := [.row 62 (.arr 16 (.int .u8)) false] }
def contents_orcs  : List (FuncId × Orc) := [(43, clPage_orc)]
def contents_book0  : Book := { Γ := gam, orc := orcsOf contents_orcs, hint := hintsOf [(44, { keep := some [3, 10, 11, 12], keeps := [(3, [3, 10, 11, 12])], own := [], dat := [], stk := [] })] }
def contents_l1_G (F : Nat) (nx : contents_l1_T.T → ZO) (kq : ZK) (x : contents_l1_T.T) : ZO := contents_l1 F none (fun s10 s11 s12 out => nx (((), (s10, (s11, (s12, ())))), (((), ()), (out, ())))) (fun y0 y1 y2 y3 => kq (.exit 0) (contents_l1_T.inst (((), (y0, (y1, (y2, ())))), (((), ()), (y3, ()))))) x.1.2.1 x.1.2.2.1 x.1.2.2.2.1 x.2.2.1
def contents_l1_R (F m : Nat) (x : contents_l1_T.T) (kq : ZK) : ZO := contents_l1F F none (fun y0 y1 y2 y3 => kq (.exit 0) (contents_l1_T.inst (((), (y0, (y1, (y2, ())))), (((), ()), (y3, ()))))) m x.1.2.1 x.1.2.2.1 x.1.2.2.2.1 x.2.2.1
def contents_lo (F : Nat) : List (LoE Unit) := [⟨44, 3, LO.of contents_l1_T (contents_l1_R F F)⟩]
def contents_book (F : Nat) : BookL Unit := { toBook := contents_book0, lo := losOf (contents_lo F), need := needsOf [] }
theorem contents_l1_step (F : Nat) : LStep prog (contents_book F) F 44 0 3 contents_l1_T (contents_l1_G F) := fun d x KQ => by kernel_rfl
theorem contents_loOk (F : Nat) : LoOk prog (contents_book F) F := loOk_of (l := contents_lo F) rfl (fa (loOne_of 0 (by kernel_rfl) (by kernel_rfl) (lstep_run (contents_l1_step F) (fun _ _ => rfl) (fun _ _ _ _ => rfl))) fz)
theorem contents_run (F : Nat) (x : ArgsT contents_ps) (kend : List BV → ZO) : runFnL prog (contents_book F) F 20 44 (argsInst contents_ps x) [.o 62 (.arr 16 (.int .u8))] kend = contents F x.1 none (fun y0 => kend [BV.o 62 (.arr 16 (.int .u8)) y0]) := by kernel_rfl
theorem contents_contract  : Contract prog 44 contents_orc := con_of (B0 := contents_book0) bkN bkG mix_ok bkT contents_run (orcsOf_ok (fa clPage_contract fz)) (by kernel_rfl) (fun _ => rfl) contents_loOk (fun x h => (contents_plain x.1 h).elim fun F hF => ⟨F, fun kend => hF none _⟩)
@[reducible] def dRead_ps  : List PM := [.d (.pair (.slc (.arr 16 (.int .u8))) (.pair (.slc (.pair (.int .i64) (.pair (.arr 16 (.int .u8)) .unit))) .unit)), .d (.int .i64), .d (.int .i64)]
def dRead_orc  : Orc := Orc.of dRead_ps true 1 fun x => (dRead_P x.1 x.2.1 x.2.2.1, [.o 62 (.arr 16 (.int .u8)) (dRead_r0 x.1 x.2.1 x.2.2.1), .d (.int .i64) (dRead_r1 x.1 x.2.1 x.2.2.1)])
def dRead_orcs  : List (FuncId × Orc) := [(39, dCheck_orc), (42, dFits_orc), (43, clPage_orc), (44, contents_orc)]
theorem dRead_run (F : Nat) (x : ArgsT dRead_ps) (kend : List BV → ZO) : runFnL prog (bkZ dRead_orcs) F 20 13 (argsInst dRead_ps x) [.o 62 (.arr 16 (.int .u8)), .d (.int .i64)] kend = dRead F x.1 x.2.1 x.2.2.1 none (fun y0 y1 => kend [BV.o 62 (.arr 16 (.int .u8)) y0, BV.d (.int .i64) y1]) := by kernel_rfl
theorem dRead_contract  : Contract prog 13 dRead_orc := con_of (B0 := bkY dRead_orcs) bkN bkG mix_ok bkT dRead_run (orcsOf_ok (fa dCheck_contract (fa dFits_contract (fa clPage_contract (fa contents_contract fz))))) (by kernel_rfl) (fun _ => rfl) (bkO _) (fun x h => (dRead_plain x.1 x.2.1 x.2.2.1 h).elim fun F hF => ⟨F, fun kend => hF none _⟩)
@[reducible] def dRun_ps  : List PM := [.d (.pair (.slc (.arr 16 (.int .u8))) (.pair (.slc (.pair (.int .i64) (.pair (.arr 16 (.int .u8)) .unit))) .unit)), .d (.slc (.pair (.int .i64) (.pair (.int .i64) (.pair (.slc (.arr 16 (.int .u8))) .unit))))]
def dRun_orc  : Orc := Orc.of dRun_ps false 0 fun x => (dRun_P x.1 x.2.1, [.d (.pair (.slc (.arr 16 (.int .u8))) (.pair (.slc (.pair (.int .i64) (.pair (.arr 16 (.int .u8)) .unit))) .unit)) (dRun_r0 x.1 x.2.1), .d (.int .i64) (dRun_r1 x.1 x.2.1), .d (.int .i64) (dRun_r2 x.1 x.2.1)])
@[reducible] def dRun_l2_T  : Tpl := { cur := ⟨[(0, .ptr 0 []), (2, .ptr 3 []), (14, .var (.slc (.arr 16 (.int .u8)))), (0, .var (.int .i64)), (0, .var (.int .i64))], 20⟩, stk := [⟨[(1, .var (.slc (.pair (.int .i64) (.pair (.int .i64) (.pair (.slc (.arr 16 (.int .u8))) .unit))))), (2, .ptr 4 []), (0, .var (.int .i64)), (0, .var (.int .i64)), (1, .ptr 0 []), (0, .ptr 5 []), (0, .var (.int .i64)), (11, .var (.slc (.pair (.int .i64) (.pair (.int .i64) (.pair (.slc (.arr 16 (.int .u8))) .unit))))), (0, .var (.int .i64)), (0, .var (.int .i64))], 27⟩, ⟨[], 0⟩], heap := [.box (.pr (.row 1) (.pr (.row 2) (.var .unit))), .row 62 (.arr 16 (.int .u8)) false, .row 137 (.pair (.int .i64) (.pair (.arr 16 (.int .u8)) .unit)) false, .box (.var (.pair (.int .i64) (.pair (.int .i64) (.pair (.slc (.arr 16 (.int .u8))) .unit)))), .box (.var (.pair (.slc (.arr 16 (.int .u8))) (.pair (.slc (.pair (.int .i64) (.pair (.arr 16 (.int .u8)) .unit))) .unit))), .box (.fns [some 66, some 67])] }
@[reducible] def dRun_l1_T  : Tpl := { cur := ⟨[(1, .var (.slc (.pair (.int .i64) (.pair (.int .i64) (.pair (.slc (.arr 16 (.int .u8))) .unit))))), (2, .ptr 0 []), (0, .var (.int .i64)), (0, .var (.int .i64)), (1, .ptr 1 []), (0, .ptr 4 []), (12, .var (.slc (.pair (.int .i64) (.pair (.int .i64) (.pair (.slc (.arr 16 (.int .u8))) .unit))))), (0, .var (.int .i64)), (0, .var (.int .i64))], 27⟩, stk := [⟨[], 0⟩], heap := [.box (.var (.pair (.slc (.arr 16 (.int .u8))) (.pair (.slc (.pair (.int .i64) (.pair (.arr 16 (.int .u8)) .unit))) .unit))), .box (.pr (.row 2) (.pr (.row 3) (.var .unit))), .row 62 (.arr 16 (.int .u8)) false, .row 137 (.pair (.int .i64) (.pair (.arr 16 (.int .u8)) .unit)) false, .box (.fns [some 66, some 67])] }
def dRun_orcs  : List (FuncId × Orc) := [(39, dCheck_orc), (42, dFits_orc), (43, clPage_orc), (44, contents_orc), (65, clPend_orc)]
def dRun_book0  : Book := { Γ := gam, orc := orcsOf dRun_orcs, hint := hintsOf [(12, { keep := some [1, 4, 5, 6, 8, 9, 22, 23, 24], keeps := [(6, [1, 4, 5, 6, 8, 9, 22, 23, 24])], own := [], dat := [], stk := [], ownb := [(8, 1, 25)] }), (66, { keep := some [0, 3, 18, 19, 20], keeps := [(4, [0, 3, 18, 19, 20])], own := [], dat := [], stk := [[1, 2, 4, 5, 6, 8, 9, 10, 20, 22, 23, 24]] })] }
def dRun_l2_G (F : Nat) (nx : dRun_l2_T.T → ZO) (kq : ZK) (x : dRun_l2_T.T) : ZO := dRun_l2 F none (fun s18 s19 s20 l s5 s6 i s22 s23 s24 h1 h2 op s4 => nx (((), ((), (s18, (s19, (s20, ()))))), (((l, ((), (s5, (s6, ((), ((), (i, (s22, (s23, (s24, ())))))))))), ((), ())), (((), ((), ())), (h1, (h2, (op, (s4, ((), ()))))))))) (fun y0 y1 y2 y3 y4 y5 y6 y7 y8 y9 y10 y11 y12 y13 => kq (.exit 0) (dRun_l2_T.inst (((), ((), (y0, (y1, (y2, ()))))), (((y3, ((), (y4, (y5, ((), ((), (y6, (y7, (y8, (y9, ())))))))))), ((), ())), (((), ((), ())), (y10, (y11, (y12, (y13, ((), ())))))))))) x.1.2.2.1 x.1.2.2.2.1 x.1.2.2.2.2.1 x.2.1.1.1 x.2.1.1.2.2.1 x.2.1.1.2.2.2.1 x.2.1.1.2.2.2.2.2.2.1 x.2.1.1.2.2.2.2.2.2.2.1 x.2.1.1.2.2.2.2.2.2.2.2.1 x.2.1.1.2.2.2.2.2.2.2.2.2.1 x.2.2.2.1 x.2.2.2.2.1 x.2.2.2.2.2.1 x.2.2.2.2.2.2.1
def dRun_l2_R (F m : Nat) (x : dRun_l2_T.T) (kq : ZK) : ZO := dRun_l2F F none (fun y0 y1 y2 y3 y4 y5 y6 y7 y8 y9 y10 y11 y12 y13 => kq (.exit 0) (dRun_l2_T.inst (((), ((), (y0, (y1, (y2, ()))))), (((y3, ((), (y4, (y5, ((), ((), (y6, (y7, (y8, (y9, ())))))))))), ((), ())), (((), ((), ())), (y10, (y11, (y12, (y13, ((), ())))))))))) m x.1.2.2.1 x.1.2.2.2.1 x.1.2.2.2.2.1 x.2.1.1.1 x.2.1.1.2.2.1 x.2.1.1.2.2.2.1 x.2.1.1.2.2.2.2.2.2.1 x.2.1.1.2.2.2.2.2.2.2.1 x.2.1.1.2.2.2.2.2.2.2.2.1 x.2.1.1.2.2.2.2.2.2.2.2.2.1 x.2.2.2.1 x.2.2.2.2.1 x.2.2.2.2.2.1 x.2.2.2.2.2.2.1
def dRun_l1_G (F : Nat) (nx : dRun_l1_T.T → ZO) (kq : ZK) (x : dRun_l1_T.T) : ZO := dRun_l1 F none (fun l s5 s6 s22 s23 s24 s4 h2 h3 => nx ((l, ((), (s5, (s6, ((), ((), (s22, (s23, (s24, ()))))))))), (((), ()), (s4, (((), ((), ())), (h2, (h3, ((), ())))))))) (fun y0 y1 y2 y3 y4 y5 y6 y7 y8 => kq .ret (dRun_l1_T.inst ((y0, ((), (y1, (y2, ((), ((), (y3, (y4, (y5, ()))))))))), (((), ()), (y6, (((), ((), ())), (y7, (y8, ((), ()))))))))) (fun y0 y1 y2 y3 y4 y5 y6 y7 y8 => kq (.exit 0) (dRun_l1_T.inst ((y0, ((), (y1, (y2, ((), ((), (y3, (y4, (y5, ()))))))))), (((), ()), (y6, (((), ((), ())), (y7, (y8, ((), ()))))))))) x.1.1 x.1.2.2.1 x.1.2.2.2.1 x.1.2.2.2.2.2.2.1 x.1.2.2.2.2.2.2.2.1 x.1.2.2.2.2.2.2.2.2.1 x.2.2.1 x.2.2.2.2.1 x.2.2.2.2.2.1
def dRun_l1_R (F m : Nat) (x : dRun_l1_T.T) (kq : ZK) : ZO := dRun_l1F F none (fun y0 y1 y2 y3 y4 y5 y6 y7 y8 => kq .ret (dRun_l1_T.inst ((y0, ((), (y1, (y2, ((), ((), (y3, (y4, (y5, ()))))))))), (((), ()), (y6, (((), ((), ())), (y7, (y8, ((), ()))))))))) (fun y0 y1 y2 y3 y4 y5 y6 y7 y8 => kq (.exit 0) (dRun_l1_T.inst ((y0, ((), (y1, (y2, ((), ((), (y3, (y4, (y5, ()))))))))), (((), ()), (y6, (((), ((), ())), (y7, (y8, ((), ()))))))))) m x.1.1 x.1.2.2.1 x.1.2.2.2.1 x.1.2.2.2.2.2.2.1 x.1.2.2.2.2.2.2.2.1 x.1.2.2.2.2.2.2.2.2.1 x.2.2.1 x.2.2.2.2.1 x.2.2.2.2.2.1
def dRun_lo (F : Nat) : List (LoE Unit) := [⟨66, 4, LO.of dRun_l2_T (dRun_l2_R F F)⟩,
 ⟨12, 6, LO.of dRun_l1_T (dRun_l1_R F F)⟩]
def dRun_book (F : Nat) : BookL Unit := { toBook := dRun_book0, lo := losOf (dRun_lo F), need := needsOf [(12, 1)] }
theorem dRun_l2_step (F : Nat) : LStep prog (dRun_book F) F 66 0 4 dRun_l2_T (dRun_l2_G F) := fun d x KQ => by kernel_rfl
theorem dRun_l1_step (F : Nat) : LStep prog (dRun_book F) F 12 0 6 dRun_l1_T (dRun_l1_G F) := fun d x KQ => by kernel_rfl
theorem dRun_loOk (F : Nat) : LoOk prog (dRun_book F) F := loOk_of (l := dRun_lo F) rfl (fa (loOne_of 0 (by kernel_rfl) (by kernel_rfl) (lstep_run (dRun_l2_step F) (fun _ _ => rfl) (fun _ _ _ _ => rfl))) (fa (loOne_of 0 (by kernel_rfl) (by kernel_rfl) (lstep_run (dRun_l1_step F) (fun _ _ => rfl) (fun _ _ _ _ => rfl))) fz))
theorem dRun_run (F : Nat) (x : ArgsT dRun_ps) (kend : List BV → ZO) : runFnL prog (dRun_book F) F 20 12 (argsInst dRun_ps x) [.d (.pair (.slc (.arr 16 (.int .u8))) (.pair (.slc (.pair (.int .i64) (.pair (.arr 16 (.int .u8)) .unit))) .unit)), .d (.int .i64), .d (.int .i64)] kend = dRun F x.1 x.2.1 none (fun y0 y1 y2 => kend [BV.d (.pair (.slc (.arr 16 (.int .u8))) (.pair (.slc (.pair (.int .i64) (.pair (.arr 16 (.int .u8)) .unit))) .unit)) y0, BV.d (.int .i64) y1, BV.d (.int .i64) y2]) := by kernel_rfl
theorem dRun_contract  : Contract prog 12 dRun_orc := con_of (B0 := dRun_book0) bkN bkG mix_ok bkT dRun_run (orcsOf_ok (fa dCheck_contract (fa dFits_contract (fa clPage_contract (fa contents_contract (fa clPend_contract fz)))))) (by kernel_rfl) (fun _ => rfl) dRun_loOk (fun x h => (dRun_plain x.1 x.2.1 h).elim fun F hF => ⟨F, fun kend => hF none _⟩)
end Go.AI
namespace Go.AI
open Go Go.Proofs
def rcvs (f : FuncId) : Option Rcv := bif Nat.beq f 45 then some { clo := 68, ncap := 2, pan := 142, sto := [(0, 32, none), (1, 4, some false)] } else none
theorem rcv_ret (p q : Value) (w : World) : CallsDIn (Fe none) 0 Tryz.prog 68 #[p, q] .returning w fun e u' w' => (∃ v, e = .returned v) ∧ u' = .returning ∧ w' = w := by
 refine callsDIn_of_wpSIn Tryz.func68 rfl trivial fun c₀ cs hu => ?_
 apply wpSIn_seq
 apply wpSIn_region
 simp [wpOpsSIn, go_sem, recoverD, hu, Tryz.ntmps68, Exit.thenS]
 apply wpSIn_seq
 apply wpSIn_region
 simp [wpOpsSIn, go_sem, Exit.thenS]
 refine wpSIn_cond (t := false) (by simp [Act.eval, Array.replicate]) ?_
 simp only [Bool.false_eq_true, if_false]
 refine wpSIn_of_wpIn rfl (wpIn_skip ?_)
 cases c₀
 simp_all [bodyPostS, results, Tryz.results68]
theorem rcv_pan (p q : Value) (w w' : World) (h : RunSto Tryz.prog [p, q] [(0, 32, none), (1, 4, some false)] (w.alloc (.cells #[] 142)) w') :
  CallsDIn (Fe none) 0 Tryz.prog 68 #[p, q] (.panicking (panicked 142)) w fun e u' w'' => (∃ v, e = .returned v) ∧ settle u' = .returning ∧ w'' = w' := by
 obtain ⟨w1, h1, w2, h2, h3⟩ := h
 simp only [RunSto] at h3
 subst h3
 have hta : ∀ w, (Instr.typeAssert (.iface 142 (.agg #[])) 20 142 true).run Tryz.prog w = .ok (.tuple #[.agg #[], .bool true]) w := fun w => by kernel_rfl
 refine callsDIn_of_wpSIn Tryz.func68 rfl trivial fun c₀ cs hu => ?_
 apply wpSIn_seq
 apply wpSIn_region
 simp [wpOpsSIn, go_sem, recoverD, hu, Tryz.ntmps68, Exit.thenS, panicked]
 apply wpSIn_seq
 apply wpSIn_region
 simp [wpOpsSIn, go_sem, Exit.thenS]
 refine wpSIn_cond (t := true) (by simp [Act.eval, Array.replicate]) ?_
 simp only [if_true]
 apply wpSIn_seq
 apply wpSIn_seq
 apply wpSIn_region
 simp [wpOpsSIn, go_sem, Exit.thenS, hta]
 apply wpSIn_seq
 apply wpSIn_region
 simp [wpOpsSIn, go_sem, Exit.thenS]
 refine wpSIn_cond (t := false) (by simp [Act.eval, Array.replicate]) ?_
 simp only [Bool.false_eq_true, if_false]
 refine wpSIn_of_wpIn rfl (wpIn_skip ?_)
 simp only [Exit.thenS]
 apply wpSIn_region
 have g1 : (Instr.storeAt 32 p (.slice none 0 0)).run Tryz.prog (w.alloc (.cells #[] 142)) = .ok () w1 := h1
 have g2 : (Instr.storeAt 4 q (.bool false)).run Tryz.prog w1 = .ok () w' := h2
 show wpOpsSIn (Fe none) 0 Tryz.prog _ _ [0, 1] _ _ _
 simp [wpOpsSIn, execOp, Act.eval, Act.put, Region.wanted, g1, g2, bodyPostS, results, Tryz.results68, settle]
 exact ⟨fun _ _ => trivial, fun _ _ => trivial⟩
theorem rcvs_ok  : RcvOk Tryz.prog rcvs := by
 intro f rc h
 unfold rcvs at h
 cases hf : Nat.beq f 45 with
 | false => rw [hf] at h; cases h
 | true =>
  rw [hf] at h
  cases h
  have two : ∀ caps : Array Value, caps.size = 2 → ∃ p q, caps = #[p, q] := fun caps h => by
   obtain ⟨l⟩ := caps
   match l, h with
   | [p, q], _ => exact ⟨p, q, rfl⟩
  refine ⟨⟨Tryz.f68, Tryz.func68, by kernel_rfl, by kernel_rfl⟩, fun caps w h => ?_, fun caps w h => ⟨.cells #[] 142, fun w' hs => ?_⟩⟩
  ·obtain ⟨p, q, rfl⟩ := two caps h
   exact rcv_ret p q w
  ·obtain ⟨p, q, rfl⟩ := two caps h
   exact rcv_pan p q w w' hs
end Go.AI
namespace Go.AI
open Go
open Go.Proofs.Tryz (prog)
set_option linter.unusedVariables false
@[reducible] def shifted_ps  : List PM := [.d (.int .u32)]
def shifted_orc  : Orc := Orc.of shifted_ps true 0 fun x => (shifted_P x.1, [.d (.int .u32) (shifted_r x.1)])
@[reducible] def shifted_l1_T  : Tpl := { cur := ⟨[(0, .var (.int .u32)), (3, .var (.int .i64))], 11⟩, stk := [⟨[], 0⟩], heap := [] }
def shifted_orcs  : List (FuncId × Orc) := []
def shifted_book0  : Book := { Γ := gam, orc := orcsOf shifted_orcs, hint := hintsOf [(163, { keep := some [0, 4], keeps := [(2, [0, 4])], own := [], dat := [], stk := [] })] }
def shifted_l1_G (F : Nat) (nx : shifted_l1_T.T → ZO) (kq : ZK) (x : shifted_l1_T.T) : ZO := shifted_l1 F none (fun register s4 => nx ((register, (s4, ())), (((), ()), ()))) (fun y0 y1 => kq (.exit 0) (shifted_l1_T.inst ((y0, (y1, ())), (((), ()), ())))) x.1.1 x.1.2.1
def shifted_l1_R (F m : Nat) (x : shifted_l1_T.T) (kq : ZK) : ZO := shifted_l1F F none (fun y0 y1 => kq (.exit 0) (shifted_l1_T.inst ((y0, (y1, ())), (((), ()), ())))) m x.1.1 x.1.2.1
def shifted_lo (F : Nat) : List (LoE Unit) := [⟨163, 2, LO.of shifted_l1_T (shifted_l1_R F F)⟩]
def shifted_book (F : Nat) : BookL Unit := { toBook := shifted_book0, lo := losOf (shifted_lo F), need := needsOf [] }
theorem shifted_l1_step (F : Nat) : LStep prog (shifted_book F) F 163 0 2 shifted_l1_T (shifted_l1_G F) := fun d x KQ => by kernel_rfl
theorem shifted_loOk (F : Nat) : LoOk prog (shifted_book F) F := loOk_of (l := shifted_lo F) rfl (fa (loOne_of 0 (by kernel_rfl) (by kernel_rfl) (lstep_run (shifted_l1_step F) (fun _ _ => rfl) (fun _ _ _ _ => rfl))) fz)
theorem shifted_run (F : Nat) (x : ArgsT shifted_ps) (kend : List BV → ZO) : runFnL prog (shifted_book F) F 20 163 (argsInst shifted_ps x) [.d (.int .u32)] kend = shifted F x.1 none (fun y0 => kend [BV.d (.int .u32) y0]) := by kernel_rfl
theorem shifted_contract  : Contract prog 163 shifted_orc := con_of (B0 := shifted_book0) bkN bkG mix_ok bkT shifted_run (orcsOf_ok fz) (by kernel_rfl) (fun _ => rfl) shifted_loOk (fun x h => (shifted_plain x.1 h).elim fun F hF => ⟨F, fun kend => hF none _⟩)
@[reducible] def ctable_ps  : List PM := []
def ctable_orc  : Orc := Orc.of ctable_ps true 0 fun x => (ctable_P, [.d (.arr 256 (.int .u32)) (ctable_r)])
@[reducible] def ctable_l1_T  : Tpl := { cur := ⟨[(0, .ptr 0 []), (0, .ptr 1 []), (1, .var (.int .i64))], 9⟩, stk := [⟨[], 0⟩], heap := [.box (.var (.arr 256 (.int .u32))), .box (.var (.arr 256 (.int .u32)))] }
def ctable_orcs  : List (FuncId × Orc) := [(163, shifted_orc)]
def ctable_book0  : Book := { Γ := gam, orc := orcsOf ctable_orcs, hint := hintsOf [(149, { keep := some [0, 1, 3], keeps := [(3, [0, 1, 3])], own := [], dat := [], stk := [] })] }
def ctable_l1_G (F : Nat) (nx : ctable_l1_T.T → ZO) (kq : ZK) (x : ctable_l1_T.T) : ZO := ctable_l1 F none (fun s3 s0 out => nx (((), ((), (s3, ()))), (((), ()), (s0, (out, ()))))) (fun y0 y1 y2 => kq (.exit 0) (ctable_l1_T.inst (((), ((), (y0, ()))), (((), ()), (y1, (y2, ())))))) x.1.2.2.1 x.2.2.1 x.2.2.2.1
def ctable_l1_R (F m : Nat) (x : ctable_l1_T.T) (kq : ZK) : ZO := ctable_l1F F none (fun y0 y1 y2 => kq (.exit 0) (ctable_l1_T.inst (((), ((), (y0, ()))), (((), ()), (y1, (y2, ())))))) m x.1.2.2.1 x.2.2.1 x.2.2.2.1
def ctable_lo (F : Nat) : List (LoE Unit) := [⟨149, 3, LO.of ctable_l1_T (ctable_l1_R F F)⟩]
def ctable_book (F : Nat) : BookL Unit := { toBook := ctable_book0, lo := losOf (ctable_lo F), need := needsOf [] }
theorem ctable_l1_step (F : Nat) : LStep prog (ctable_book F) F 149 0 3 ctable_l1_T (ctable_l1_G F) := fun d x KQ => by kernel_rfl
theorem ctable_loOk (F : Nat) : LoOk prog (ctable_book F) F := loOk_of (l := ctable_lo F) rfl (fa (loOne_of 0 (by kernel_rfl) (by kernel_rfl) (lstep_run (ctable_l1_step F) (fun _ _ => rfl) (fun _ _ _ _ => rfl))) fz)
theorem ctable_run (F : Nat) (x : ArgsT ctable_ps) (kend : List BV → ZO) : runFnL prog (ctable_book F) F 20 149 (argsInst ctable_ps x) [.d (.arr 256 (.int .u32))] kend = ctable F  none (fun y0 => kend [BV.d (.arr 256 (.int .u32)) y0]) := by kernel_rfl
theorem ctable_contract  : Contract prog 149 ctable_orc := con_of (B0 := ctable_book0) bkN bkG mix_ok bkT ctable_run (orcsOf_ok (fa shifted_contract fz)) (by kernel_rfl) (fun _ => rfl) ctable_loOk (fun x h => (ctable_plain  h).elim fun F hF => ⟨F, fun kend => hF none _⟩)
@[reducible] def cUpd_ps  : List PM := [.d (.int .u32), .d (.slc (.int .u8))]
def cUpd_orc  : Orc := Orc.of cUpd_ps true 0 fun x => (cUpd_P x.1 x.2.1, [.d (.int .u32) (cUpd_r x.1 x.2.1)])
@[reducible] def cUpd_l1_T  : Tpl := { cur := ⟨[(0, .hnd .yield 0), (4, .var (.slc (.int .u8))), (0, .var (.int .i64)), (0, .var (.int .i64))], 8⟩, stk := [⟨[(0, .hnd .yield 0)], 0⟩, ⟨[(1, .fn 150 (.pr (.ptr 3 []) (.un))), (0, .ptr 1 []), (1, .var (.int .u32))], 15⟩, ⟨[(6, .var (.int .u32))], 4⟩, ⟨[], 0⟩], heap := [.lp 129 3 ⟨[(2, .ptr 1 []), (2, .ptr 2 [])], 14⟩ .ready, .box (.var (.int .u32)), .box (.var (.arr 256 (.int .u32))), .box (.var (.slc (.int .u8)))] }
def cUpd_orcs  : List (FuncId × Orc) := [(149, ctable_orc)]
def cUpd_book0  : Book := { Γ := gam, orc := orcsOf cUpd_orcs, hint := hintsOf [(150, { keep := some [0, 5, 6, 7], keeps := [(1, [0, 5, 6, 7])], own := [], dat := [], stk := [[0], [1, 2, 4, 6, 9], [6]] })] }
def cUpd_l1_G (F : Nat) (nx : cUpd_l1_T.T → ZO) (kq : ZK) (x : cUpd_l1_T.T) : ZO := cUpd_l1 F none (fun s5 s6 s7 s4 s61 register t bytes => nx (((), (s5, (s6, (s7, ())))), ((((), ()), ((((), ()), ((), (s4, ()))), ((s61, ()), ((), ())))), (((), ((), ())), (register, (t, (bytes, ()))))))) (fun y0 y1 y2 y3 y4 y5 y6 y7 => kq (.exit 0) (cUpd_l1_T.inst (((), (y0, (y1, (y2, ())))), ((((), ()), ((((), ()), ((), (y3, ()))), ((y4, ()), ((), ())))), (((), ((), ())), (y5, (y6, (y7, ())))))))) x.1.2.1 x.1.2.2.1 x.1.2.2.2.1 x.2.1.2.1.2.2.1 x.2.1.2.2.1.1 x.2.2.2.1 x.2.2.2.2.1 x.2.2.2.2.2.1
def cUpd_l1_R (F m : Nat) (x : cUpd_l1_T.T) (kq : ZK) : ZO := cUpd_l1F F none (fun y0 y1 y2 y3 y4 y5 y6 y7 => kq (.exit 0) (cUpd_l1_T.inst (((), (y0, (y1, (y2, ())))), ((((), ()), ((((), ()), ((), (y3, ()))), ((y4, ()), ((), ())))), (((), ((), ())), (y5, (y6, (y7, ())))))))) m x.1.2.1 x.1.2.2.1 x.1.2.2.2.1 x.2.1.2.1.2.2.1 x.2.1.2.2.1.1 x.2.2.2.1 x.2.2.2.2.1 x.2.2.2.2.2.1
def cUpd_lo (F : Nat) : List (LoE Unit) := [⟨150, 1, LO.of cUpd_l1_T (cUpd_l1_R F F)⟩]
def cUpd_book (F : Nat) : BookL Unit := { toBook := cUpd_book0, lo := losOf (cUpd_lo F), need := needsOf [(150, 1)] }
theorem cUpd_l1_step (F : Nat) : LStep prog (cUpd_book F) F 150 0 1 cUpd_l1_T (cUpd_l1_G F) := fun d x KQ => by kernel_rfl
theorem cUpd_loOk (F : Nat) : LoOk prog (cUpd_book F) F := loOk_of (l := cUpd_lo F) rfl (fa (loOne_of 0 (by kernel_rfl) (by kernel_rfl) (lstep_run (cUpd_l1_step F) (fun _ _ => rfl) (fun _ _ _ _ => rfl))) fz)
theorem cUpd_run (F : Nat) (x : ArgsT cUpd_ps) (kend : List BV → ZO) : runFnL prog (cUpd_book F) F 20 104 (argsInst cUpd_ps x) [.d (.int .u32)] kend = cUpd F x.1 x.2.1 none (fun y0 => kend [BV.d (.int .u32) y0]) := by kernel_rfl
theorem cUpd_contract  : Contract prog 104 cUpd_orc := con_of (B0 := cUpd_book0) bkN bkG mix_ok bkT cUpd_run (orcsOf_ok (fa ctable_contract fz)) (by kernel_rfl) (fun _ => rfl) cUpd_loOk (fun x h => (cUpd_plain x.1 x.2.1 h).elim fun F hF => ⟨F, fun kend => hF none _⟩)
@[reducible] def cSum_ps  : List PM := [.d (.slc (.int .u8))]
def cSum_orc  : Orc := Orc.of cSum_ps true 0 fun x => (cSum_P x.1, [.d (.int .u32) (cSum_r x.1)])
def cSum_orcs  : List (FuncId × Orc) := [(104, cUpd_orc)]
theorem cSum_run (F : Nat) (x : ArgsT cSum_ps) (kend : List BV → ZO) : runFnL prog (bkZ cSum_orcs) F 20 62 (argsInst cSum_ps x) [.d (.int .u32)] kend = cSum F x.1 none (fun y0 => kend [BV.d (.int .u32) y0]) := by kernel_rfl
theorem cSum_contract  : Contract prog 62 cSum_orc := con_of (B0 := bkY cSum_orcs) bkN bkG mix_ok bkT cSum_run (orcsOf_ok (fa cUpd_contract fz)) (by kernel_rfl) (fun _ => rfl) (bkO _) (fun x h => (cSum_plain x.1 h).elim fun F hF => ⟨F, fun kend => hF none _⟩)
@[reducible] def needed_ps  : List PM := [.d (.int .i64)]
def needed_orc  : Orc := Orc.of needed_ps true 0 fun x => (needed_P x.1, [.d (.int .i64) (needed_r x.1)])
def needed_orcs  : List (FuncId × Orc) := []
theorem needed_run (F : Nat) (x : ArgsT needed_ps) (kend : List BV → ZO) : runFnL prog (bkZ needed_orcs) F 20 58 (argsInst needed_ps x) [.d (.int .i64)] kend = needed F x.1 none (fun y0 => kend [BV.d (.int .i64) y0]) := by kernel_rfl
theorem needed_contract  : Contract prog 58 needed_orc := con_of (B0 := bkY needed_orcs) bkN bkG mix_ok bkT needed_run (orcsOf_ok fz) (by kernel_rfl) (fun _ => rfl) (bkO _) (fun x h => (needed_plain x.1 h).elim fun F hF => ⟨F, fun kend => hF none _⟩)
@[reducible] def lPages_ps  : List PM := [.d (.int .i64)]
def lPages_orc  : Orc := Orc.of lPages_ps true 0 fun x => (lPages_P x.1, [.d (.int .i64) (lPages_r x.1)])
def lPages_orcs  : List (FuncId × Orc) := [(58, needed_orc)]
theorem lPages_run (F : Nat) (x : ArgsT lPages_ps) (kend : List BV → ZO) : runFnL prog (bkZ lPages_orcs) F 20 34 (argsInst lPages_ps x) [.d (.int .i64)] kend = lPages F x.1 none (fun y0 => kend [BV.d (.int .i64) y0]) := by kernel_rfl
theorem lPages_contract  : Contract prog 34 lPages_orc := con_of (B0 := bkY lPages_orcs) bkN bkG mix_ok bkT lPages_run (orcsOf_ok (fa needed_contract fz)) (by kernel_rfl) (fun _ => rfl) (bkO _) (fun x h => (lPages_plain x.1 h).elim fun F hF => ⟨F, fun kend => hF none _⟩)
@[reducible] def lCheck_ps  : List PM := [.d (.pair (.int .i64) (.pair (.int .i64) (.pair (.int .i64) .unit)))]
def lCheck_orc  : Orc := Orc.of lCheck_ps true 0 fun x => (true, [.d (.int .i64) (lCheck_r x.1)])
def lCheck_orcs  : List (FuncId × Orc) := []
theorem lCheck_run (F : Nat) (x : ArgsT lCheck_ps) (kend : List BV → ZO) : runFnL prog (bkZ lCheck_orcs) F 20 33 (argsInst lCheck_ps x) [.d (.int .i64)] kend = lCheck F x.1 none (fun y0 => kend [BV.d (.int .i64) y0]) := by kernel_rfl
theorem lCheck_contract  : Contract prog 33 lCheck_orc := con_of (B0 := bkY lCheck_orcs) bkN bkG mix_ok bkT lCheck_run (orcsOf_ok fz) (by kernel_rfl) (fun _ => rfl) (bkO _) (fun x _ => (lCheck_plain x.1).elim fun F hF => ⟨F, fun kend => hF none _⟩)
@[reducible] def lHead_ps  : List PM := []
def lHead_orc  : Orc := Orc.of lHead_ps true 0 fun x => (lHead_P, [.d (.arr 16 (.int .u8)) (lHead_r)])
def lHead_orcs  : List (FuncId × Orc) := []
theorem lHead_run (F : Nat) (x : ArgsT lHead_ps) (kend : List BV → ZO) : runFnL prog (bkZ lHead_orcs) F 20 46 (argsInst lHead_ps x) [.d (.arr 16 (.int .u8))] kend = lHead F  none (fun y0 => kend [BV.d (.arr 16 (.int .u8)) y0]) := by kernel_rfl
theorem lHead_contract  : Contract prog 46 lHead_orc := con_of (B0 := bkY lHead_orcs) bkN bkG mix_ok bkT lHead_run (orcsOf_ok fz) (by kernel_rfl) (fun _ => rfl) (bkO _) (fun x h => (lHead_plain  h).elim fun F hF => ⟨F, fun kend => hF none _⟩)
@[reducible] def lValue_ps  : List PM := [.d (.slc (.int .u8))]
def lValue_orc  : Orc := Orc.of lValue_ps true 0 fun x => (lValue_P x.1, [.d (.int .i64) (lValue_r x.1)])
@[reducible] def lValue_l1_T  : Tpl := { cur := ⟨[(3, .var (.int .i64)), (2, .var (.slc (.int .u8))), (0, .var (.int .i64)), (0, .var (.int .i64))], 10⟩, stk := [⟨[], 0⟩], heap := [] }
def lValue_orcs  : List (FuncId × Orc) := []
def lValue_book0  : Book := { Γ := gam, orc := orcsOf lValue_orcs, hint := hintsOf [(70, { keep := some [3, 6, 7, 8], keeps := [(3, [3, 6, 7, 8])], own := [], dat := [], stk := [] })] }
def lValue_l1_G (F : Nat) (nx : lValue_l1_T.T → ZO) (kq : ZK) (x : lValue_l1_T.T) : ZO := lValue_l1 F none (fun n s6 s7 s8 => nx ((n, (s6, (s7, (s8, ())))), (((), ()), ()))) (fun y0 y1 y2 y3 => kq (.exit 0) (lValue_l1_T.inst ((y0, (y1, (y2, (y3, ())))), (((), ()), ())))) x.1.1 x.1.2.1 x.1.2.2.1 x.1.2.2.2.1
def lValue_l1_R (F m : Nat) (x : lValue_l1_T.T) (kq : ZK) : ZO := lValue_l1F F none (fun y0 y1 y2 y3 => kq (.exit 0) (lValue_l1_T.inst ((y0, (y1, (y2, (y3, ())))), (((), ()), ())))) m x.1.1 x.1.2.1 x.1.2.2.1 x.1.2.2.2.1
def lValue_lo (F : Nat) : List (LoE Unit) := [⟨70, 3, LO.of lValue_l1_T (lValue_l1_R F F)⟩]
def lValue_book (F : Nat) : BookL Unit := { toBook := lValue_book0, lo := losOf (lValue_lo F), need := needsOf [] }
theorem lValue_l1_step (F : Nat) : LStep prog (lValue_book F) F 70 0 3 lValue_l1_T (lValue_l1_G F) := fun d x KQ => by kernel_rfl
theorem lValue_loOk (F : Nat) : LoOk prog (lValue_book F) F := loOk_of (l := lValue_lo F) rfl (fa (loOne_of 0 (by kernel_rfl) (by kernel_rfl) (lstep_run (lValue_l1_step F) (fun _ _ => rfl) (fun _ _ _ _ => rfl))) fz)
theorem lValue_run (F : Nat) (x : ArgsT lValue_ps) (kend : List BV → ZO) : runFnL prog (lValue_book F) F 20 70 (argsInst lValue_ps x) [.d (.int .i64)] kend = lValue F x.1 none (fun y0 => kend [BV.d (.int .i64) y0]) := by kernel_rfl
theorem lValue_contract  : Contract prog 70 lValue_orc := con_of (B0 := lValue_book0) bkN bkG mix_ok bkT lValue_run (orcsOf_ok fz) (by kernel_rfl) (fun _ => rfl) lValue_loOk (fun x h => (lValue_plain x.1 h).elim fun F hF => ⟨F, fun kend => hF none _⟩)
@[reducible] def lEnd_ps  : List PM := [.d (.slc (.int .u8)), .d (.int .i64)]
def lEnd_orc  : Orc := Orc.of lEnd_ps true 0 fun x => (lEnd_P x.1 x.2.1, [.d (.arr 16 (.int .u8)) (lEnd_r x.1 x.2.1)])
@[reducible] def lEnd_l1_T  : Tpl := { cur := ⟨[(0, .sl 0), (0, .var (.int .i64)), (4, .var (.int .i64)), (0, .var (.int .i64))], 15⟩, stk := [⟨[(0, .var (.slc (.int .u8))), (3, .ptr 1 []), (0, .ptr 0 [])], 19⟩, ⟨[], 0⟩], heap := [.box (.var (.arr 16 (.int .u8))), .box (.var (.arr 16 (.int .u8)))] }
@[reducible] def lEnd_l2_T  : Tpl := { cur := ⟨[(0, .sl 0), (0, .var (.int .i64)), (4, .var (.int .i64)), (0, .var (.int .i64))], 15⟩, stk := [⟨[(0, .var (.slc (.int .u8))), (3, .ptr 1 []), (0, .ptr 0 []), (4, .sl 0)], 14⟩, ⟨[], 0⟩], heap := [.box (.var (.arr 16 (.int .u8))), .box (.var (.arr 16 (.int .u8)))] }
@[reducible] def lEnd_l3_T  : Tpl := { cur := ⟨[(0, .sl 0), (0, .var (.int .i64)), (4, .var (.int .i64)), (0, .var (.int .i64))], 15⟩, stk := [⟨[(0, .var (.slc (.int .u8))), (3, .ptr 1 []), (0, .ptr 0 []), (4, .sl 0), (8, .sl 0)], 5⟩, ⟨[], 0⟩], heap := [.box (.var (.arr 16 (.int .u8))), .box (.var (.arr 16 (.int .u8)))] }
def lEnd_orcs  : List (FuncId × Orc) := [(58, needed_orc), (62, cSum_orc)]
def lEnd_book0  : Book := { Γ := gam, orc := orcsOf lEnd_orcs, hint := hintsOf [(61, { keep := some [0, 1, 6, 7], keeps := [(1, [0, 1, 6, 7])], own := [], dat := [], stk := [[0, 4, 5, 10, 19]] })] }
def lEnd_l1_G (F : Nat) (nx : lEnd_l1_T.T → ZO) (kq : ZK) (x : lEnd_l1_T.T) : ZO := lEnd_l1 F none (fun to_i to_n n s6 s7 payload to s4 => nx (((to_i, to_n), (n, (s6, (s7, ())))), (((payload, ((), ((), ()))), ((), ())), (to, (s4, ()))))) (fun y0 y1 y2 y3 y4 y5 y6 y7 => kq (.exit 0) (lEnd_l1_T.inst (((y0, y1), (y2, (y3, (y4, ())))), (((y5, ((), ((), ()))), ((), ())), (y6, (y7, ())))))) x.1.1.1 x.1.1.2 x.1.2.1 x.1.2.2.1 x.1.2.2.2.1 x.2.1.1.1 x.2.2.1 x.2.2.2.1
def lEnd_l1_R (F m : Nat) (x : lEnd_l1_T.T) (kq : ZK) : ZO := lEnd_l1F F none (fun y0 y1 y2 y3 y4 y5 y6 y7 => kq (.exit 0) (lEnd_l1_T.inst (((y0, y1), (y2, (y3, (y4, ())))), (((y5, ((), ((), ()))), ((), ())), (y6, (y7, ())))))) m x.1.1.1 x.1.1.2 x.1.2.1 x.1.2.2.1 x.1.2.2.2.1 x.2.1.1.1 x.2.2.1 x.2.2.2.1
def lEnd_l2_G (F : Nat) (nx : lEnd_l2_T.T → ZO) (kq : ZK) (x : lEnd_l2_T.T) : ZO := lEnd_l2 F none (fun to_i to_n n s6 s7 payload s10_i s10_n to s4 => nx (((to_i, to_n), (n, (s6, (s7, ())))), (((payload, ((), ((), ((s10_i, s10_n), ())))), ((), ())), (to, (s4, ()))))) (fun y0 y1 y2 y3 y4 y5 y6 y7 y8 y9 => kq (.exit 0) (lEnd_l2_T.inst (((y0, y1), (y2, (y3, (y4, ())))), (((y5, ((), ((), ((y6, y7), ())))), ((), ())), (y8, (y9, ())))))) x.1.1.1 x.1.1.2 x.1.2.1 x.1.2.2.1 x.1.2.2.2.1 x.2.1.1.1 x.2.1.1.2.2.2.1.1 x.2.1.1.2.2.2.1.2 x.2.2.1 x.2.2.2.1
def lEnd_l2_R (F m : Nat) (x : lEnd_l2_T.T) (kq : ZK) : ZO := lEnd_l2F F none (fun y0 y1 y2 y3 y4 y5 y6 y7 y8 y9 => kq (.exit 0) (lEnd_l2_T.inst (((y0, y1), (y2, (y3, (y4, ())))), (((y5, ((), ((), ((y6, y7), ())))), ((), ())), (y8, (y9, ())))))) m x.1.1.1 x.1.1.2 x.1.2.1 x.1.2.2.1 x.1.2.2.2.1 x.2.1.1.1 x.2.1.1.2.2.2.1.1 x.2.1.1.2.2.2.1.2 x.2.2.1 x.2.2.2.1
def lEnd_l3_G (F : Nat) (nx : lEnd_l3_T.T → ZO) (kq : ZK) (x : lEnd_l3_T.T) : ZO := lEnd_l3 F none (fun to_i to_n n s6 s7 payload s10_i s10_n s19_i s19_n to s4 => nx (((to_i, to_n), (n, (s6, (s7, ())))), (((payload, ((), ((), ((s10_i, s10_n), ((s19_i, s19_n), ()))))), ((), ())), (to, (s4, ()))))) (fun y0 y1 y2 y3 y4 y5 y6 y7 y8 y9 y10 y11 => kq (.exit 0) (lEnd_l3_T.inst (((y0, y1), (y2, (y3, (y4, ())))), (((y5, ((), ((), ((y6, y7), ((y8, y9), ()))))), ((), ())), (y10, (y11, ())))))) x.1.1.1 x.1.1.2 x.1.2.1 x.1.2.2.1 x.1.2.2.2.1 x.2.1.1.1 x.2.1.1.2.2.2.1.1 x.2.1.1.2.2.2.1.2 x.2.1.1.2.2.2.2.1.1 x.2.1.1.2.2.2.2.1.2 x.2.2.1 x.2.2.2.1
def lEnd_l3_R (F m : Nat) (x : lEnd_l3_T.T) (kq : ZK) : ZO := lEnd_l3F F none (fun y0 y1 y2 y3 y4 y5 y6 y7 y8 y9 y10 y11 => kq (.exit 0) (lEnd_l3_T.inst (((y0, y1), (y2, (y3, (y4, ())))), (((y5, ((), ((), ((y6, y7), ((y8, y9), ()))))), ((), ())), (y10, (y11, ())))))) m x.1.1.1 x.1.1.2 x.1.2.1 x.1.2.2.1 x.1.2.2.2.1 x.2.1.1.1 x.2.1.1.2.2.2.1.1 x.2.1.1.2.2.2.1.2 x.2.1.1.2.2.2.2.1.1 x.2.1.1.2.2.2.2.1.2 x.2.2.1 x.2.2.2.1
def lEnd_lo (F : Nat) : List (LoE Unit) := [⟨61, 1, LO.orT lEnd_l1_T (lEnd_l1_R F F) (LO.orT lEnd_l2_T (lEnd_l2_R F F) (LO.of lEnd_l3_T (lEnd_l3_R F F)))⟩]
def lEnd_book (F : Nat) : BookL Unit := { toBook := lEnd_book0, lo := losOf (lEnd_lo F), need := needsOf [] }
theorem lEnd_l1_step (F : Nat) : LStep prog (lEnd_book F) F 61 0 1 lEnd_l1_T (lEnd_l1_G F) := fun d x KQ => by kernel_rfl
theorem lEnd_l2_step (F : Nat) : LStep prog (lEnd_book F) F 61 0 1 lEnd_l2_T (lEnd_l2_G F) := fun d x KQ => by kernel_rfl
theorem lEnd_l3_step (F : Nat) : LStep prog (lEnd_book F) F 61 0 1 lEnd_l3_T (lEnd_l3_G F) := fun d x KQ => by kernel_rfl
theorem lEnd_loOk (F : Nat) : LoOk prog (lEnd_book F) F := loOk_of (l := lEnd_lo F) rfl (fa (loOne_of 0 (by kernel_rfl) (by kernel_rfl) (loIs_orT (lstep_run (lEnd_l1_step F) (fun _ _ => rfl) (fun _ _ _ _ => rfl)) (loIs_orT (lstep_run (lEnd_l2_step F) (fun _ _ => rfl) (fun _ _ _ _ => rfl)) (lstep_run (lEnd_l3_step F) (fun _ _ => rfl) (fun _ _ _ _ => rfl))))) fz)
theorem lEnd_run (F : Nat) (x : ArgsT lEnd_ps) (kend : List BV → ZO) : runFnL prog (lEnd_book F) F 20 38 (argsInst lEnd_ps x) [.d (.arr 16 (.int .u8))] kend = lEnd F x.1 x.2.1 none (fun y0 => kend [BV.d (.arr 16 (.int .u8)) y0]) := by kernel_rfl
theorem lEnd_contract  : Contract prog 38 lEnd_orc := con_of (B0 := lEnd_book0) bkN bkG mix_ok bkT lEnd_run (orcsOf_ok (fa needed_contract (fa cSum_contract fz))) (by kernel_rfl) (fun _ => rfl) lEnd_loOk (fun x h => (lEnd_plain x.1 x.2.1 h).elim fun F hF => ⟨F, fun kend => hF none _⟩)
@[reducible] def lWrite_ps  : List PM := [.d (.int .i64), .d (.slc (.arr 16 (.int .u8)))]
def lWrite_orc  : Orc := Orc.of lWrite_ps false 0 fun x => (lWrite_P x.1 x.2.1, [.d (.pair (.int .i64) (.pair (.int .i64) (.pair (.slc (.arr 16 (.int .u8))) .unit))) (lWrite_r x.1 x.2.1)])
def lWrite_orcs  : List (FuncId × Orc) := []
theorem lWrite_run (F : Nat) (x : ArgsT lWrite_ps) (kend : List BV → ZO) : runFnL prog (bkZ lWrite_orcs) F 20 36 (argsInst lWrite_ps x) [.d (.pair (.int .i64) (.pair (.int .i64) (.pair (.slc (.arr 16 (.int .u8))) .unit)))] kend = lWrite F x.1 x.2.1 none (fun y0 => kend [BV.d (.pair (.int .i64) (.pair (.int .i64) (.pair (.slc (.arr 16 (.int .u8))) .unit))) y0]) := by kernel_rfl
theorem lWrite_contract  : Contract prog 36 lWrite_orc := con_of (B0 := bkY lWrite_orcs) bkN bkG mix_ok bkT lWrite_run (orcsOf_ok fz) (by kernel_rfl) (fun _ => rfl) (bkO _) (fun x h => (lWrite_plain x.1 x.2.1 h).elim fun F hF => ⟨F, fun kend => hF none _⟩)
@[reducible] def lSync_ps  : List PM := []
def lSync_orc  : Orc := Orc.of lSync_ps false 0 fun x => (lSync_P, [.d (.pair (.int .i64) (.pair (.int .i64) (.pair (.slc (.arr 16 (.int .u8))) .unit))) (lSync_r)])
def lSync_orcs  : List (FuncId × Orc) := []
theorem lSync_run (F : Nat) (x : ArgsT lSync_ps) (kend : List BV → ZO) : runFnL prog (bkZ lSync_orcs) F 20 37 (argsInst lSync_ps x) [.d (.pair (.int .i64) (.pair (.int .i64) (.pair (.slc (.arr 16 (.int .u8))) .unit)))] kend = lSync F  none (fun y0 => kend [BV.d (.pair (.int .i64) (.pair (.int .i64) (.pair (.slc (.arr 16 (.int .u8))) .unit))) y0]) := by kernel_rfl
theorem lSync_contract  : Contract prog 37 lSync_orc := con_of (B0 := bkY lSync_orcs) bkN bkG mix_ok bkT lSync_run (orcsOf_ok fz) (by kernel_rfl) (fun _ => rfl) (bkO _) (fun x h => (lSync_plain  h).elim fun F hF => ⟨F, fun kend => hF none _⟩)
@[reducible] def cfB_0_l1_T  : Tpl := { cur := ⟨[(0, .var (.slc (.int .u8))), (0, .fn 73 (.un)), (2, .var (.int .i64)), (2, .var (.int .i64)), (0, .var (.int .i64))], 10⟩, stk := [⟨[], 9⟩, ⟨[], 0⟩], heap := [] }
def cfB_0_orcs  : List (FuncId × Orc) := []
def cfB_0_book0  : Book := { Γ := gam, orc := orcsOf cfB_0_orcs, hint := hintsOf [(106, { keep := some [0, 1, 4, 7, 8], keeps := [(2, [0, 1, 4, 7, 8])], own := [], dat := [], stk := [[]] })] }
def cfB_0_l1_G (F : Nat) (nx : cfB_0_l1_T.T → ZO) (kq : ZK) (x : cfB_0_l1_T.T) : ZO := cfB_0_l1 F none (fun s s4 s7 s8 => nx ((s, ((), (s4, (s7, (s8, ()))))), (((), ((), ())), ()))) (fun y0 y1 y2 y3 => kq .ret (cfB_0_l1_T.inst ((y0, ((), (y1, (y2, (y3, ()))))), (((), ((), ())), ())))) (fun y0 y1 y2 y3 => kq (.exit 0) (cfB_0_l1_T.inst ((y0, ((), (y1, (y2, (y3, ()))))), (((), ((), ())), ())))) x.1.1 x.1.2.2.1 x.1.2.2.2.1 x.1.2.2.2.2.1
def cfB_0_l1_R (F m : Nat) (x : cfB_0_l1_T.T) (kq : ZK) : ZO := cfB_0_l1F F none (fun y0 y1 y2 y3 => kq .ret (cfB_0_l1_T.inst ((y0, ((), (y1, (y2, (y3, ()))))), (((), ((), ())), ())))) (fun y0 y1 y2 y3 => kq (.exit 0) (cfB_0_l1_T.inst ((y0, ((), (y1, (y2, (y3, ()))))), (((), ((), ())), ())))) m x.1.1 x.1.2.2.1 x.1.2.2.2.1 x.1.2.2.2.2.1
def cfB_0_lo (F : Nat) : List (LoE Unit) := [⟨106, 2, LO.of cfB_0_l1_T (cfB_0_l1_R F F)⟩]
def cfB_0_book (F : Nat) : BookL Unit := { toBook := cfB_0_book0, lo := losOf (cfB_0_lo F), need := needsOf [(106, 1)] }
theorem cfB_0_l1_step (F : Nat) : LStep prog (cfB_0_book F) F 106 0 2 cfB_0_l1_T (cfB_0_l1_G F) := fun d x KQ => by kernel_rfl
theorem cfB_0_loOk (F : Nat) : LoOk prog (cfB_0_book F) F := loOk_of (l := cfB_0_lo F) rfl (fa (loOne_of 0 (by kernel_rfl) (by kernel_rfl) (lstep_run (cfB_0_l1_step F) (fun _ _ => rfl) (fun _ _ _ _ => rfl))) fz)
theorem cfB_0_run (F : Nat) (s : ZB) (kend : List BV → ZO) : runFnL prog (cfB_0_book F) F 20 72 [.d (.slc (.int .u8)) s, .f 73] [.d .bool] kend = cfB_0 F s none (fun y0 => kend [BV.d .bool y0]) := by kernel_rfl
theorem cfB_0_contract  : Contract prog 72 (Orc.of [.d (.slc (.int .u8)), .f] true 0 fun x => ((Nat.beq x.2.1 73) && cfB_P x.1 x.2.1, [.d .bool (cfB_r x.1 x.2.1)])) := contract_of_runL (B0 := cfB_0_book0) bkN bkG mix_ok bkT (orcsOf_ok fz) (by kernel_rfl) (fun x h => by
 obtain ⟨x0, x1, _⟩ := x
 simp only [Bool.and_eq_true] at h
 obtain ⟨e, h⟩ := h
 have e := Nat.eq_of_beq_eq_true e
 subst e
 obtain ⟨F, hF⟩ := cfB_0_plain x0 h
 exact ⟨F, 20, cfB_0_book F, rfl, cfB_0_loOk F, fun kend => (cfB_0_run F x0 kend).trans (hF none (fun y0 => kend [BV.d .bool y0]))⟩)
def cfB_orc  : Orc := Orc.of [.d (.slc (.int .u8)), .f] true 0 fun x => ((Nat.beq x.2.1 73) && cfB_P x.1 x.2.1, [.d .bool (cfB_r x.1 x.2.1)])
theorem cfB_contract  : Contract prog 72 cfB_orc := contract_cases cfB_0_contract.1 (fun x h => by
 obtain ⟨x0, x1, _⟩ := x
 simp only [Bool.and_eq_true] at h
 obtain ⟨e, _⟩ := h
 rcases e with e
 ·have e := Nat.eq_of_beq_eq_true e
  subst e
  exact ⟨_, cfB_0_contract, rfl⟩)
@[reducible] def lFormat_ps  : List PM := [.d (.int .i64)]
def lFormat_orc  : Orc := Orc.of lFormat_ps false 0 fun x => (lFormat_P x.1, [.d (.pair (.int .i64) (.pair (.int .i64) (.pair (.int .i64) .unit))) (lFormat_r0 x.1), .d (.slc (.pair (.int .i64) (.pair (.int .i64) (.pair (.slc (.arr 16 (.int .u8))) .unit)))) (lFormat_r1 x.1), .d (.int .i64) (lFormat_r2 x.1)])
def lFormat_orcs  : List (FuncId × Orc) := [(36, lWrite_orc), (37, lSync_orc), (46, lHead_orc)]
theorem lFormat_run (F : Nat) (x : ArgsT lFormat_ps) (kend : List BV → ZO) : runFnL prog (bkZ lFormat_orcs) F 20 32 (argsInst lFormat_ps x) [.d (.pair (.int .i64) (.pair (.int .i64) (.pair (.int .i64) .unit))), .d (.slc (.pair (.int .i64) (.pair (.int .i64) (.pair (.slc (.arr 16 (.int .u8))) .unit)))), .d (.int .i64)] kend = lFormat F x.1 none (fun y0 y1 y2 => kend [BV.d (.pair (.int .i64) (.pair (.int .i64) (.pair (.int .i64) .unit))) y0, BV.d (.slc (.pair (.int .i64) (.pair (.int .i64) (.pair (.slc (.arr 16 (.int .u8))) .unit)))) y1, BV.d (.int .i64) y2]) := by kernel_rfl
theorem lFormat_contract  : Contract prog 32 lFormat_orc := con_of (B0 := bkY lFormat_orcs) bkN bkG mix_ok bkT lFormat_run (orcsOf_ok (fa lWrite_contract (fa lSync_contract (fa lHead_contract fz)))) (by kernel_rfl) (fun _ => rfl) (bkO _) (fun x h => (lFormat_plain x.1 h).elim fun F hF => ⟨F, fun kend => hF none _⟩)
@[reducible] def lAppend_ps  : List PM := [.d (.pair (.int .i64) (.pair (.int .i64) (.pair (.int .i64) .unit))), .d (.slc (.int .u8))]
def lAppend_orc  : Orc := Orc.of lAppend_ps false 0 fun x => (lAppend_P x.1 x.2.1, [.d (.pair (.int .i64) (.pair (.int .i64) (.pair (.int .i64) .unit))) (lAppend_r0 x.1 x.2.1), .d (.slc (.pair (.int .i64) (.pair (.int .i64) (.pair (.slc (.arr 16 (.int .u8))) .unit)))) (lAppend_r1 x.1 x.2.1), .d (.int .i64) (lAppend_r2 x.1 x.2.1)])
@[reducible] def lAppend_l1_T  : Tpl := { cur := ⟨[(0, .hnd .yield 0), (0, .ptr 5 []), (0, .ptr 6 []), (1, .var (.int .i64))], 26⟩, stk := [⟨[(0, .hnd .yield 0)], 0⟩, ⟨[(2, .ptr 1 [])], 13⟩, ⟨[(0, .hnd .yield 2)], 0⟩, ⟨[(1, .var (.slc (.int .u8))), (0, .ptr 7 []), (1, .ptr 8 []), (0, .nils), (0, .var (.int .i64)), (1, .var (.int .i64)), (0, .nils), (0, .ptr 3 [])], 66⟩, ⟨[], 0⟩], heap := [.lp 59 2 ⟨[(2, .ptr 1 [])], 13⟩ .ready, .box (.hnd .yield 2), .lp 11 13 ⟨[(10, .ptr 3 [])], 66⟩ .ready, .box (.row 4), .row 62 (.arr 16 (.int .u8)) false, .box (.var (.slc (.int .u8))), .box (.var (.int .i64)), .box (.var (.pair (.int .i64) (.pair (.int .i64) (.pair (.int .i64) .unit)))), .box (.var (.pair (.int .i64) (.pair (.int .i64) (.pair (.int .i64) .unit))))] }
def lAppend_orcs  : List (FuncId × Orc) := [(33, lCheck_orc), (34, lPages_orc), (36, lWrite_orc), (37, lSync_orc), (38, lEnd_orc)]
def lAppend_book0  : Book := { Γ := gam, orc := orcsOf lAppend_orcs, hint := hintsOf [(11, { keep := some [], keeps := [], own := [], dat := [], stk := [], rgb := [(5012, [(10, 0, 23)])] }), (103, { keep := some [0, 1, 2, 4], keeps := [(1, [0, 1, 2, 4])], own := [], dat := [], stk := [[0], [2, 3, 4, 7, 15], [0], [1, 2, 4, 5, 6, 8, 9, 10, 11, 40, 45, 49, 63, 64, 67, 73]] })] }
def lAppend_l1_G (F : Nat) (nx : lAppend_l1_T.T → ZO) (kq : ZK) (x : lAppend_l1_T.T) : ZO := lAppend_l1 F none (fun i payload s6 n parts s1 s2 l s4 => nx (((), ((), ((), (i, ())))), ((((), ()), (((), ()), (((), ()), ((payload, ((), ((), ((), (s6, (n, ((), ((), ())))))))), ((), ()))))), (((), ()), ((), (((), ()), ((), (parts, (s1, (s2, (l, (s4, ())))))))))))) (fun y0 y1 y2 y3 y4 y5 y6 y7 y8 => kq (.exit 0) (lAppend_l1_T.inst (((), ((), ((), (y0, ())))), ((((), ()), (((), ()), (((), ()), ((y1, ((), ((), ((), (y2, (y3, ((), ((), ())))))))), ((), ()))))), (((), ()), ((), (((), ()), ((), (y4, (y5, (y6, (y7, (y8, ()))))))))))))) x.1.2.2.2.1 x.2.1.2.2.2.1.1 x.2.1.2.2.2.1.2.2.2.2.1 x.2.1.2.2.2.1.2.2.2.2.2.1 x.2.2.2.2.2.2.1 x.2.2.2.2.2.2.2.1 x.2.2.2.2.2.2.2.2.1 x.2.2.2.2.2.2.2.2.2.1 x.2.2.2.2.2.2.2.2.2.2.1
def lAppend_l1_R (F m : Nat) (x : lAppend_l1_T.T) (kq : ZK) : ZO := lAppend_l1F F none (fun y0 y1 y2 y3 y4 y5 y6 y7 y8 => kq (.exit 0) (lAppend_l1_T.inst (((), ((), ((), (y0, ())))), ((((), ()), (((), ()), (((), ()), ((y1, ((), ((), ((), (y2, (y3, ((), ((), ())))))))), ((), ()))))), (((), ()), ((), (((), ()), ((), (y4, (y5, (y6, (y7, (y8, ()))))))))))))) m x.1.2.2.2.1 x.2.1.2.2.2.1.1 x.2.1.2.2.2.1.2.2.2.2.1 x.2.1.2.2.2.1.2.2.2.2.2.1 x.2.2.2.2.2.2.1 x.2.2.2.2.2.2.2.1 x.2.2.2.2.2.2.2.2.1 x.2.2.2.2.2.2.2.2.2.1 x.2.2.2.2.2.2.2.2.2.2.1
def lAppend_lo (F : Nat) : List (LoE Unit) := [⟨103, 1, LO.of lAppend_l1_T (lAppend_l1_R F F)⟩]
def lAppend_book (F : Nat) : BookL Unit := { toBook := lAppend_book0, lo := losOf (lAppend_lo F), need := needsOf [(103, 2)] }
theorem lAppend_l1_step (F : Nat) : LStep prog (lAppend_book F) F 103 0 1 lAppend_l1_T (lAppend_l1_G F) := fun d x KQ => by kernel_rfl
theorem lAppend_loOk (F : Nat) : LoOk prog (lAppend_book F) F := loOk_of (l := lAppend_lo F) rfl (fa (loOne_of 0 (by kernel_rfl) (by kernel_rfl) (lstep_run (lAppend_l1_step F) (fun _ _ => rfl) (fun _ _ _ _ => rfl))) fz)
theorem lAppend_run (F : Nat) (x : ArgsT lAppend_ps) (kend : List BV → ZO) : runFnL prog (lAppend_book F) F 20 11 (argsInst lAppend_ps x) [.d (.pair (.int .i64) (.pair (.int .i64) (.pair (.int .i64) .unit))), .d (.slc (.pair (.int .i64) (.pair (.int .i64) (.pair (.slc (.arr 16 (.int .u8))) .unit)))), .d (.int .i64)] kend = lAppend F x.1 x.2.1 none (fun y0 y1 y2 => kend [BV.d (.pair (.int .i64) (.pair (.int .i64) (.pair (.int .i64) .unit))) y0, BV.d (.slc (.pair (.int .i64) (.pair (.int .i64) (.pair (.slc (.arr 16 (.int .u8))) .unit)))) y1, BV.d (.int .i64) y2]) := by kernel_rfl
theorem lAppend_contract  : Contract prog 11 lAppend_orc := con_of (B0 := lAppend_book0) bkN bkG mix_ok bkT lAppend_run (orcsOf_ok (fa lCheck_contract (fa lPages_contract (fa lWrite_contract (fa lSync_contract (fa lEnd_contract fz)))))) (by kernel_rfl) (fun _ => rfl) lAppend_loOk (fun x h => (lAppend_plain x.1 x.2.1 h).elim fun F hF => ⟨F, fun kend => hF none _⟩)
@[reducible] def lScan_ps  : List PM := [.d (.slc (.arr 16 (.int .u8))), .d (.int .i64)]
def lScan_orc  : Orc := Orc.of lScan_ps false 0 fun x => (lScan_P x.1 x.2.1, [.d (.slc (.slc (.int .u8))) (lScan_r0 x.1 x.2.1), .d (.int .i64) (lScan_r1 x.1 x.2.1)])
@[reducible] def lScan_l2_T  : Tpl := { cur := ⟨[(0, .ptr 0 []), (0, .var (.int .i64)), (2, .ptr 1 []), (0, .ptr 3 []), (0, .ptr 4 []), (0, .var (.int .i64))], 63⟩, stk := [⟨[(0, .ptr 1 []), (0, .ptr 3 [])], 0⟩, ⟨[(0, .var (.slc (.arr 16 (.int .u8)))), (0, .var (.int .i64)), (2, .nils), (0, .var (.int .i64)), (0, .row 5), (0, .ptr 0 []), (0, .var (.int .i64))], 36⟩, ⟨[], 0⟩], heap := [.box (.var (.pair (.slc (.arr 16 (.int .u8))) .unit)), .box (.row 2), .row 5 (.int .u8) false, .box (.var .bool), .box (.var (.arr 16 (.int .u8))), .row 32 (.slc (.int .u8)) false] }
@[reducible] def lScan_l1_T  : Tpl := { cur := ⟨[(0, .var (.slc (.arr 16 (.int .u8)))), (0, .var (.int .i64)), (2, .nils), (0, .var (.int .i64)), (0, .row 0), (0, .ptr 1 [])], 37⟩, stk := [⟨[], 0⟩], heap := [.row 32 (.slc (.int .u8)) false, .box (.var (.pair (.slc (.arr 16 (.int .u8))) .unit))] }
@[reducible] def lScan_l1_T0  : Tpl := { cur := ⟨[(0, .var (.slc (.arr 16 (.int .u8)))), (0, .var (.int .i64)), (2, .row 0), (0, .var (.int .i64)), (0, .row 0), (0, .ptr 1 [])], 37⟩, stk := [⟨[], 0⟩], heap := [.row 32 (.slc (.int .u8)) false, .box (.var (.pair (.slc (.arr 16 (.int .u8))) .unit))] }
def lScan_orcs  : List (FuncId × Orc) := [(58, needed_orc), (62, cSum_orc), (70, lValue_orc), (72, cfB_orc)]
def lScan_book0  : Book := { Γ := gam, orc := orcsOf lScan_orcs, hint := hintsOf [(14, { keep := some [0, 1, 4, 5, 6, 7], keeps := [(5, [0, 1, 4, 5, 6, 7])], own := [(6, 22)], dat := [], stk := [] }), (45, { keep := some [0, 1, 4, 5, 6, 7], keeps := [(4, [0, 1, 4, 5, 6, 7])], own := [], dat := [], stk := [[0, 1, 2, 3, 4, 5, 6, 7], [0, 1, 4, 5, 6, 7, 8]], rgb := [(5002, [(4, 0, 32)])] })], rcv := rcvs }
def lScan_l2_G (F : Nat) (nx : lScan_l2_T.T → ZO) (kq : ZK) (x : lScan_l2_T.T) : ZO := lScan_l2 F none (fun number count l first s5 left r payload ok p out => nx (((), (number, ((), ((), ((), (count, ())))))), ((((), ((), ())), ((l, (first, ((), (s5, ((), ((), (left, ()))))))), ((), ()))), (r, ((), (payload, (ok, (p, (out, ()))))))))) (fun y0 y1 y2 y3 y4 y5 y6 y7 y8 y9 y10 => kq (.panic 142) (lScan_l2_T.inst (((), (y0, ((), ((), ((), (y1, ())))))), ((((), ((), ())), ((y2, (y3, ((), (y4, ((), ((), (y5, ()))))))), ((), ()))), (y6, ((), (y7, (y8, (y9, (y10, ())))))))))) (fun y0 y1 y2 y3 y4 y5 y6 y7 y8 y9 y10 => kq (.exit 0) (lScan_l2_T.inst (((), (y0, ((), ((), ((), (y1, ())))))), ((((), ((), ())), ((y2, (y3, ((), (y4, ((), ((), (y5, ()))))))), ((), ()))), (y6, ((), (y7, (y8, (y9, (y10, ())))))))))) x.1.2.1 x.1.2.2.2.2.2.1 x.2.1.2.1.1 x.2.1.2.1.2.1 x.2.1.2.1.2.2.2.1 x.2.1.2.1.2.2.2.2.2.2.1 x.2.2.1 x.2.2.2.2.1 x.2.2.2.2.2.1 x.2.2.2.2.2.2.1 x.2.2.2.2.2.2.2.1
def lScan_l2_R (F m : Nat) (x : lScan_l2_T.T) (kq : ZK) : ZO := lScan_l2F F none (fun y0 y1 y2 y3 y4 y5 y6 y7 y8 y9 y10 => kq (.panic 142) (lScan_l2_T.inst (((), (y0, ((), ((), ((), (y1, ())))))), ((((), ((), ())), ((y2, (y3, ((), (y4, ((), ((), (y5, ()))))))), ((), ()))), (y6, ((), (y7, (y8, (y9, (y10, ())))))))))) (fun y0 y1 y2 y3 y4 y5 y6 y7 y8 y9 y10 => kq (.exit 0) (lScan_l2_T.inst (((), (y0, ((), ((), ((), (y1, ())))))), ((((), ((), ())), ((y2, (y3, ((), (y4, ((), ((), (y5, ()))))))), ((), ()))), (y6, ((), (y7, (y8, (y9, (y10, ())))))))))) m x.1.2.1 x.1.2.2.2.2.2.1 x.2.1.2.1.1 x.2.1.2.1.2.1 x.2.1.2.1.2.2.2.1 x.2.1.2.1.2.2.2.2.2.2.1 x.2.2.1 x.2.2.2.2.1 x.2.2.2.2.2.1 x.2.2.2.2.2.2.1 x.2.2.2.2.2.2.2.1
def lScan_l1_G (F : Nat) (nx : lScan_l1_T.T → ZO) (kq : ZK) (x : lScan_l1_T.T) : ZO := lScan_l1 F none (fun l first s5 out r => nx ((l, (first, ((), (s5, ((), ((), ())))))), (((), ()), (out, (r, ()))))) (fun y0 y1 y2 y3 y4 => kq .ret (lScan_l1_T0.inst ((y0, (y1, ((), (y2, ((), ((), ())))))), (((), ()), (y3, (y4, ())))))) x.1.1 x.1.2.1 x.1.2.2.2.1 x.2.2.1 x.2.2.2.1
def lScan_l1_R (F m : Nat) (x : lScan_l1_T.T) (kq : ZK) : ZO := lScan_l1F F none (fun y0 y1 y2 y3 y4 => kq .ret (lScan_l1_T0.inst ((y0, (y1, ((), (y2, ((), ((), ())))))), (((), ()), (y3, (y4, ())))))) m x.1.1 x.1.2.1 x.1.2.2.2.1 x.2.2.1 x.2.2.2.1
def lScan_lo (F : Nat) : List (LoE Unit) := [⟨45, 4, LO.of lScan_l2_T (lScan_l2_R F F)⟩,
 ⟨14, 5, LO.of lScan_l1_T (lScan_l1_R F F)⟩]
def lScan_book (F : Nat) : BookL Unit := { toBook := lScan_book0, lo := losOf (lScan_lo F), need := needsOf [(14, 3), (45, 2)] }
theorem lScan_l2_step (F : Nat) : LStep prog (lScan_book F) F 45 0 4 lScan_l2_T (lScan_l2_G F) := fun d x KQ => by kernel_rfl
theorem lScan_l1_step (F : Nat) : LStep prog (lScan_book F) F 14 0 5 lScan_l1_T (lScan_l1_G F) := fun d x KQ => by kernel_rfl
theorem lScan_loOk (F : Nat) : LoOk prog (lScan_book F) F := loOk_of (l := lScan_lo F) rfl (fa (loOne_of 0 (by kernel_rfl) (by kernel_rfl) (lstep_run (lScan_l2_step F) (fun _ _ => rfl) (fun _ _ _ _ => rfl))) (fa (loOne_of 0 (by kernel_rfl) (by kernel_rfl) (lstep_run (lScan_l1_step F) (fun _ _ => rfl) (fun _ _ _ _ => rfl))) fz))
theorem lScan_run (F : Nat) (x : ArgsT lScan_ps) (kend : List BV → ZO) : runFnL prog (lScan_book F) F 20 14 (argsInst lScan_ps x) [.d (.slc (.slc (.int .u8))), .d (.int .i64)] kend = lScan F x.1 x.2.1 none (fun y0 y1 => kend [BV.d (.slc (.slc (.int .u8))) y0, BV.d (.int .i64) y1]) := by kernel_rfl
theorem lScan_contract  : Contract prog 14 lScan_orc := con_of (B0 := lScan_book0) bkN bkG mix_ok bkT lScan_run (orcsOf_ok (fa needed_contract (fa cSum_contract (fa lValue_contract (fa cfB_contract fz))))) (by kernel_rfl) (fun _ => rfl) lScan_loOk (fun x h => (lScan_plain x.1 x.2.1 h).elim fun F hF => ⟨F, fun kend => hF none _⟩) (hR := rcvs_ok)
@[reducible] def lOpen_ps  : List PM := [.d (.pair (.slc (.arr 16 (.int .u8))) (.pair (.slc (.pair (.int .i64) (.pair (.arr 16 (.int .u8)) .unit))) .unit))]
def lOpen_orc  : Orc := Orc.of lOpen_ps false 0 fun x => (lOpen_P x.1, [.d (.pair (.int .i64) (.pair (.int .i64) (.pair (.int .i64) .unit))) (lOpen_r0 x.1), .d (.slc (.slc (.int .u8))) (lOpen_r1 x.1), .d (.int .i64) (lOpen_r2 x.1)])
def lOpen_orcs  : List (FuncId × Orc) := [(13, dRead_orc), (14, lScan_orc), (46, lHead_orc)]
theorem lOpen_run (F : Nat) (x : ArgsT lOpen_ps) (kend : List BV → ZO) : runFnL prog (bkZ lOpen_orcs) F 20 15 (argsInst lOpen_ps x) [.d (.pair (.int .i64) (.pair (.int .i64) (.pair (.int .i64) .unit))), .d (.slc (.slc (.int .u8))), .d (.int .i64)] kend = lOpen F x.1 none (fun y0 y1 y2 => kend [BV.d (.pair (.int .i64) (.pair (.int .i64) (.pair (.int .i64) .unit))) y0, BV.d (.slc (.slc (.int .u8))) y1, BV.d (.int .i64) y2]) := by kernel_rfl
theorem lOpen_contract  : Contract prog 15 lOpen_orc := con_of (B0 := bkY lOpen_orcs) bkN bkG mix_ok bkT lOpen_run (orcsOf_ok (fa dRead_contract (fa lScan_contract (fa lHead_contract fz)))) (by kernel_rfl) (fun _ => rfl) (bkO _) (fun x h => (lOpen_plain x.1 h).elim fun F hF => ⟨F, fun kend => hF none _⟩)
end Go.AI
namespace Go.AI
open Go
open Go.Proofs.Tryz (prog)
set_option linter.unusedVariables false
@[reducible] def tCheck_ps  : List PM := [.d (.slc (.pair (.int .i64) (.pair (.slc (.int .u8)) .unit)))]
def tCheck_orc  : Orc := Orc.of tCheck_ps true 0 fun x => (tCheck_P x.1, [.d (.int .i64) (tCheck_r x.1)])
@[reducible] def tCheck_l1_T  : Tpl := { cur := ⟨[(2, .var (.int .i64)), (5, .var (.slc (.pair (.int .i64) (.pair (.slc (.int .u8)) .unit)))), (0, .var (.int .i64)), (0, .var (.int .i64))], 14⟩, stk := [⟨[], 0⟩], heap := [] }
def tCheck_orcs  : List (FuncId × Orc) := []
def tCheck_book0  : Book := { Γ := gam, orc := orcsOf tCheck_orcs, hint := hintsOf [(92, { keep := some [2, 8, 9, 10], keeps := [(4, [2, 8, 9, 10])], own := [], dat := [], stk := [] })] }
def tCheck_l1_G (F : Nat) (nx : tCheck_l1_T.T → ZO) (kq : ZK) (x : tCheck_l1_T.T) : ZO := tCheck_l1 F none (fun s2 s8 s9 s10 => nx ((s2, (s8, (s9, (s10, ())))), (((), ()), ()))) (fun y0 y1 y2 y3 => kq .ret (tCheck_l1_T.inst ((y0, (y1, (y2, (y3, ())))), (((), ()), ())))) (fun y0 y1 y2 y3 => kq (.exit 0) (tCheck_l1_T.inst ((y0, (y1, (y2, (y3, ())))), (((), ()), ())))) x.1.1 x.1.2.1 x.1.2.2.1 x.1.2.2.2.1
def tCheck_l1_R (F m : Nat) (x : tCheck_l1_T.T) (kq : ZK) : ZO := tCheck_l1F F none (fun y0 y1 y2 y3 => kq .ret (tCheck_l1_T.inst ((y0, (y1, (y2, (y3, ())))), (((), ()), ())))) (fun y0 y1 y2 y3 => kq (.exit 0) (tCheck_l1_T.inst ((y0, (y1, (y2, (y3, ())))), (((), ()), ())))) m x.1.1 x.1.2.1 x.1.2.2.1 x.1.2.2.2.1
def tCheck_lo (F : Nat) : List (LoE Unit) := [⟨92, 4, LO.of tCheck_l1_T (tCheck_l1_R F F)⟩]
def tCheck_book (F : Nat) : BookL Unit := { toBook := tCheck_book0, lo := losOf (tCheck_lo F), need := needsOf [(92, 1)] }
theorem tCheck_l1_step (F : Nat) : LStep prog (tCheck_book F) F 92 0 4 tCheck_l1_T (tCheck_l1_G F) := fun d x KQ => by kernel_rfl
theorem tCheck_loOk (F : Nat) : LoOk prog (tCheck_book F) F := loOk_of (l := tCheck_lo F) rfl (fa (loOne_of 0 (by kernel_rfl) (by kernel_rfl) (lstep_run (tCheck_l1_step F) (fun _ _ => rfl) (fun _ _ _ _ => rfl))) fz)
theorem tCheck_run (F : Nat) (x : ArgsT tCheck_ps) (kend : List BV → ZO) : runFnL prog (tCheck_book F) F 20 92 (argsInst tCheck_ps x) [.d (.int .i64)] kend = tCheck F x.1 none (fun y0 => kend [BV.d (.int .i64) y0]) := by kernel_rfl
theorem tCheck_contract  : Contract prog 92 tCheck_orc := con_of (B0 := tCheck_book0) bkN bkG mix_ok bkT tCheck_run (orcsOf_ok fz) (by kernel_rfl) (fun _ => rfl) tCheck_loOk (fun x h => (tCheck_plain x.1 h).elim fun F hF => ⟨F, fun kend => hF none _⟩)
def tputI_0_orcs  : List (FuncId × Orc) := [(94, wire_PutInt_orc)]
def tputI_0_book0  : Book := { Γ := gam, orc := orcsOf tputI_0_orcs, hint := hintsOf [] }
def tputI_0_lo (F : Nat) : List (LoE Unit) := []
def tputI_0_book (F : Nat) : BookL Unit := { toBook := tputI_0_book0, lo := losOf (tputI_0_lo F), need := needsOf [] }
theorem tputI_0_loOk (F : Nat) : LoOk prog (tputI_0_book F) F := loOk_of (l := tputI_0_lo F) rfl fz
theorem tputI_0_run (F : Nat) (b : ZB) (x_ : Int) (kend : List BV → ZO) : runFnL prog (tputI_0_book F) F 20 93 [.d (.slc (.int .u8)) b, .f 94, .d (.int .i64) x_] [.o 5 (.int .u8)] kend = tputI_0 F b x_ none (fun y0 => kend [BV.o 5 (.int .u8) y0]) := by kernel_rfl
theorem tputI_0_contract  : Contract prog 93 (Orc.of [.d (.slc (.int .u8)), .f, .d (.int .i64)] true 1 fun x => ((Nat.beq x.2.1 94) && tputI_P x.1 x.2.1 x.2.2.1, [.o 5 (.int .u8) (tputI_r x.1 x.2.1 x.2.2.1)])) := contract_of_runL (B0 := tputI_0_book0) bkN bkG mix_ok bkT (orcsOf_ok (fa wire_PutInt_contract fz)) (by kernel_rfl) (fun x h => by
 obtain ⟨x0, x1, x2, _⟩ := x
 simp only [Bool.and_eq_true] at h
 obtain ⟨e, h⟩ := h
 have e := Nat.eq_of_beq_eq_true e
 subst e
 obtain ⟨F, hF⟩ := tputI_0_plain x0 x2 h
 exact ⟨F, 20, tputI_0_book F, rfl, tputI_0_loOk F, fun kend => (tputI_0_run F x0 x2 kend).trans (hF none (fun y0 => kend [BV.o 5 (.int .u8) y0]))⟩)
def tputI_orc  : Orc := Orc.of [.d (.slc (.int .u8)), .f, .d (.int .i64)] true 1 fun x => ((Nat.beq x.2.1 94) && tputI_P x.1 x.2.1 x.2.2.1, [.o 5 (.int .u8) (tputI_r x.1 x.2.1 x.2.2.1)])
theorem tputI_contract  : Contract prog 93 tputI_orc := contract_cases tputI_0_contract.1 (fun x h => by
 obtain ⟨x0, x1, x2, _⟩ := x
 simp only [Bool.and_eq_true] at h
 obtain ⟨e, _⟩ := h
 rcases e with e
 ·have e := Nat.eq_of_beq_eq_true e
  subst e
  exact ⟨_, tputI_0_contract, rfl⟩)
def tputB_0_orcs  : List (FuncId × Orc) := [(96, wire_PutBytes_orc)]
def tputB_0_book0  : Book := { Γ := gam, orc := orcsOf tputB_0_orcs, hint := hintsOf [] }
def tputB_0_lo (F : Nat) : List (LoE Unit) := []
def tputB_0_book (F : Nat) : BookL Unit := { toBook := tputB_0_book0, lo := losOf (tputB_0_lo F), need := needsOf [] }
theorem tputB_0_loOk (F : Nat) : LoOk prog (tputB_0_book F) F := loOk_of (l := tputB_0_lo F) rfl fz
theorem tputB_0_run (F : Nat) (b x_ : ZB) (kend : List BV → ZO) : runFnL prog (tputB_0_book F) F 20 95 [.d (.slc (.int .u8)) b, .f 96, .d (.slc (.int .u8)) x_] [.o 5 (.int .u8)] kend = tputB_0 F b x_ none (fun y0 => kend [BV.o 5 (.int .u8) y0]) := by kernel_rfl
theorem tputB_0_contract  : Contract prog 95 (Orc.of [.d (.slc (.int .u8)), .f, .d (.slc (.int .u8))] true 1 fun x => ((Nat.beq x.2.1 96) && tputB_P x.1 x.2.1 x.2.2.1, [.o 5 (.int .u8) (tputB_r x.1 x.2.1 x.2.2.1)])) := contract_of_runL (B0 := tputB_0_book0) bkN bkG mix_ok bkT (orcsOf_ok (fa wire_PutBytes_contract fz)) (by kernel_rfl) (fun x h => by
 obtain ⟨x0, x1, x2, _⟩ := x
 simp only [Bool.and_eq_true] at h
 obtain ⟨e, h⟩ := h
 have e := Nat.eq_of_beq_eq_true e
 subst e
 obtain ⟨F, hF⟩ := tputB_0_plain x0 x2 h
 exact ⟨F, 20, tputB_0_book F, rfl, tputB_0_loOk F, fun kend => (tputB_0_run F x0 x2 kend).trans (hF none (fun y0 => kend [BV.o 5 (.int .u8) y0]))⟩)
def tputB_orc  : Orc := Orc.of [.d (.slc (.int .u8)), .f, .d (.slc (.int .u8))] true 1 fun x => ((Nat.beq x.2.1 96) && tputB_P x.1 x.2.1 x.2.2.1, [.o 5 (.int .u8) (tputB_r x.1 x.2.1 x.2.2.1)])
theorem tputB_contract  : Contract prog 95 tputB_orc := contract_cases tputB_0_contract.1 (fun x h => by
 obtain ⟨x0, x1, x2, _⟩ := x
 simp only [Bool.and_eq_true] at h
 obtain ⟨e, _⟩ := h
 rcases e with e
 ·have e := Nat.eq_of_beq_eq_true e
  subst e
  exact ⟨_, tputB_0_contract, rfl⟩)
@[reducible] def tEncode_ps  : List PM := [.d (.slc (.pair (.int .i64) (.pair (.slc (.int .u8)) .unit)))]
def tEncode_orc  : Orc := Orc.of tEncode_ps true 1 fun x => (tEncode_P x.1, [.o 5 (.int .u8) (tEncode_r0 x.1), .d (.int .i64) (tEncode_r1 x.1)])
@[reducible] def tEncode_l1_T  : Tpl := { cur := ⟨[(5, .row 0), (10, .var (.slc (.pair (.int .i64) (.pair (.slc (.int .u8)) .unit)))), (0, .var (.int .i64)), (0, .var (.int .i64))], 15⟩, stk := [⟨[], 0⟩], heap := [.row 5 (.int .u8) false] }
def tEncode_orcs  : List (FuncId × Orc) := [(92, tCheck_orc), (93, tputI_orc), (95, tputB_orc)]
def tEncode_book0  : Book := { Γ := gam, orc := orcsOf tEncode_orcs, hint := hintsOf [(54, { keep := some [5, 16, 17, 18], keeps := [(6, [5, 16, 17, 18])], own := [], dat := [], stk := [] })] }
def tEncode_l1_G (F : Nat) (nx : tEncode_l1_T.T → ZO) (kq : ZK) (x : tEncode_l1_T.T) : ZO := tEncode_l1 F none (fun s16 s17 s18 b => nx (((), (s16, (s17, (s18, ())))), (((), ()), (b, ())))) (fun y0 y1 y2 y3 => kq (.exit 0) (tEncode_l1_T.inst (((), (y0, (y1, (y2, ())))), (((), ()), (y3, ()))))) x.1.2.1 x.1.2.2.1 x.1.2.2.2.1 x.2.2.1
def tEncode_l1_R (F m : Nat) (x : tEncode_l1_T.T) (kq : ZK) : ZO := tEncode_l1F F none (fun y0 y1 y2 y3 => kq (.exit 0) (tEncode_l1_T.inst (((), (y0, (y1, (y2, ())))), (((), ()), (y3, ()))))) m x.1.2.1 x.1.2.2.1 x.1.2.2.2.1 x.2.2.1
def tEncode_lo (F : Nat) : List (LoE Unit) := [⟨54, 6, LO.of tEncode_l1_T (tEncode_l1_R F F)⟩]
def tEncode_book (F : Nat) : BookL Unit := { toBook := tEncode_book0, lo := losOf (tEncode_lo F), need := needsOf [] }
def tEncode_l1_z (tCheck_Pz : (List ZR) → Bool) (tCheck_rz : (List ZR) → Int) (tputI_Pz : ZB → Nat → Int → Bool) (tputI_rz : ZB → Nat → Int → ZB) (tputB_Pz : ZB → Nat → ZB → Bool) (tputB_rz : ZB → Nat → ZB → ZB) {X : Type} (F : Nat) (fail : X) (next ex0 : List ZR → Int → Int → ZB → X) (s16 : List ZR) (s17 s18 : Int) (b : ZB) : X :=
 bif (decide (s18 < s17)) then
  bif ((decide ((0 : Int) ≤ s18)) && (decide (s18 < ((s16.length : Nat) : Int)))) then
  bif (tputI_Pz b (94 : Nat) (List.getD s16 (s18).toNat ((0 : Int), (([] : ZB), ()))).1) then
  bif (tputB_Pz (tputI_rz b (94 : Nat) (List.getD s16 (s18).toNat ((0 : Int), (([] : ZB), ()))).1) (96 : Nat) (List.getD s16 (s18).toNat ((0 : Int), (([] : ZB), ()))).2.1) then
  next s16 s17 (addI s18 (1 : Int)) (tputB_rz (tputI_rz b (94 : Nat) (List.getD s16 (s18).toNat ((0 : Int), (([] : ZB), ()))).1) (96 : Nat) (List.getD s16 (s18).toNat ((0 : Int), (([] : ZB), ()))).2.1)
  else fail
  else fail
  else fail
 else
 ex0 s16 s17 s18 b
def tEncode_z (tCheck_Pz : (List ZR) → Bool) (tCheck_rz : (List ZR) → Int) (tputI_Pz : ZB → Nat → Int → Bool) (tputI_rz : ZB → Nat → Int → ZB) (tputB_Pz : ZB → Nat → ZB → Bool) (tputB_rz : ZB → Nat → ZB → ZB) {X : Type} (F : Nat) (l : List ZR) (fail : X) (ret : ZB → Int → X) : X :=
 bif (tCheck_Pz l) then
 bif ((tCheck_rz l) != (0 : Int)) then
  ret ([] : ZB) (tCheck_rz l)
 else
 bif (tputI_Pz ([] : ZB) (94 : Nat) ((l.length : Nat) : Int)) then
 tEncode_l1F F fail
  (fun (s16 : List ZR) (s17 : Int) (s18 : Int) (b : ZB) =>
   bif (decide (((b.length : Nat) : Int) > (65536 : Int))) then
    ret ([] : ZB) (5 : Int)
   else
   ret b (0 : Int))
  F l ((l.length : Nat) : Int) (0 : Int) (tputI_rz ([] : ZB) (94 : Nat) ((l.length : Nat) : Int))
 else fail
 else fail
def tEncode_orcs_z (tCheck_Pz : (List ZR) → Bool) (tCheck_rz : (List ZR) → Int) (tputI_Pz : ZB → Nat → Int → Bool) (tputI_rz : ZB → Nat → Int → ZB) (tputB_Pz : ZB → Nat → ZB → Bool) (tputB_rz : ZB → Nat → ZB → ZB) : List (FuncId × Orc) := [(92, Orc.of tCheck_ps true 0 fun x => (tCheck_Pz x.1, [.d (.int .i64) (tCheck_rz x.1)])), (93, Orc.of [.d (.slc (.int .u8)), .f, .d (.int .i64)] true 1 fun x => ((Nat.beq x.2.1 94) && tputI_Pz x.1 x.2.1 x.2.2.1, [.o 5 (.int .u8) (tputI_rz x.1 x.2.1 x.2.2.1)])), (95, Orc.of [.d (.slc (.int .u8)), .f, .d (.slc (.int .u8))] true 1 fun x => ((Nat.beq x.2.1 96) && tputB_Pz x.1 x.2.1 x.2.2.1, [.o 5 (.int .u8) (tputB_rz x.1 x.2.1 x.2.2.1)]))]
def tEncode_book0_z (tCheck_Pz : (List ZR) → Bool) (tCheck_rz : (List ZR) → Int) (tputI_Pz : ZB → Nat → Int → Bool) (tputI_rz : ZB → Nat → Int → ZB) (tputB_Pz : ZB → Nat → ZB → Bool) (tputB_rz : ZB → Nat → ZB → ZB) : Book := { Γ := gam, orc := orcsOf (tEncode_orcs_z tCheck_Pz tCheck_rz tputI_Pz tputI_rz tputB_Pz tputB_rz), hint := hintsOf [(54, { keep := some [5, 16, 17, 18], keeps := [(6, [5, 16, 17, 18])], own := [], dat := [], stk := [] })] }
def tEncode_book_z (tCheck_Pz : (List ZR) → Bool) (tCheck_rz : (List ZR) → Int) (tputI_Pz : ZB → Nat → Int → Bool) (tputI_rz : ZB → Nat → Int → ZB) (tputB_Pz : ZB → Nat → ZB → Bool) (tputB_rz : ZB → Nat → ZB → ZB) (F : Nat) : BookL Unit := { toBook := tEncode_book0_z tCheck_Pz tCheck_rz tputI_Pz tputI_rz tputB_Pz tputB_rz, lo := losOf (tEncode_lo F), need := needsOf [] }
def tEncode_l1_G_z (tCheck_Pz : (List ZR) → Bool) (tCheck_rz : (List ZR) → Int) (tputI_Pz : ZB → Nat → Int → Bool) (tputI_rz : ZB → Nat → Int → ZB) (tputB_Pz : ZB → Nat → ZB → Bool) (tputB_rz : ZB → Nat → ZB → ZB) (F : Nat) (nx : tEncode_l1_T.T → ZO) (kq : ZK) (x : tEncode_l1_T.T) : ZO := tEncode_l1_z tCheck_Pz tCheck_rz tputI_Pz tputI_rz tputB_Pz tputB_rz F none (fun s16 s17 s18 b => nx (((), (s16, (s17, (s18, ())))), (((), ()), (b, ())))) (fun y0 y1 y2 y3 => kq (.exit 0) (tEncode_l1_T.inst (((), (y0, (y1, (y2, ())))), (((), ()), (y3, ()))))) x.1.2.1 x.1.2.2.1 x.1.2.2.2.1 x.2.2.1
theorem tEncode_l1_step_z (tCheck_Pz : (List ZR) → Bool) (tCheck_rz : (List ZR) → Int) (tputI_Pz : ZB → Nat → Int → Bool) (tputI_rz : ZB → Nat → Int → ZB) (tputB_Pz : ZB → Nat → ZB → Bool) (tputB_rz : ZB → Nat → ZB → ZB) (F : Nat) : LStep prog (tEncode_book_z tCheck_Pz tCheck_rz tputI_Pz tputI_rz tputB_Pz tputB_rz F) F 54 0 6 tEncode_l1_T (tEncode_l1_G_z tCheck_Pz tCheck_rz tputI_Pz tputI_rz tputB_Pz tputB_rz F) := fun d x KQ => by kernel_rfl
theorem tEncode_run_z (tCheck_Pz : (List ZR) → Bool) (tCheck_rz : (List ZR) → Int) (tputI_Pz : ZB → Nat → Int → Bool) (tputI_rz : ZB → Nat → Int → ZB) (tputB_Pz : ZB → Nat → ZB → Bool) (tputB_rz : ZB → Nat → ZB → ZB) (F : Nat) (x : ArgsT tEncode_ps) (kend : List BV → ZO) : runFnL prog (tEncode_book_z tCheck_Pz tCheck_rz tputI_Pz tputI_rz tputB_Pz tputB_rz F) F 20 54 (argsInst tEncode_ps x) [.o 5 (.int .u8), .d (.int .i64)] kend = tEncode_z tCheck_Pz tCheck_rz tputI_Pz tputI_rz tputB_Pz tputB_rz F x.1 none (fun y0 y1 => kend [BV.o 5 (.int .u8) y0, BV.d (.int .i64) y1]) := by kernel_rfl
theorem tEncode_l1_step (F : Nat) : LStep prog (tEncode_book F) F 54 0 6 tEncode_l1_T (tEncode_l1_G F) := tEncode_l1_step_z tCheck_P tCheck_r tputI_P tputI_r tputB_P tputB_r F
theorem tEncode_loOk (F : Nat) : LoOk prog (tEncode_book F) F := loOk_of (l := tEncode_lo F) rfl (fa (loOne_of 0 (by kernel_rfl) (by kernel_rfl) (lstep_run (tEncode_l1_step F) (fun _ _ => rfl) (fun _ _ _ _ => rfl))) fz)
theorem tEncode_run (F : Nat) (x : ArgsT tEncode_ps) (kend : List BV → ZO) : runFnL prog (tEncode_book F) F 20 54 (argsInst tEncode_ps x) [.o 5 (.int .u8), .d (.int .i64)] kend = tEncode F x.1 none (fun y0 y1 => kend [BV.o 5 (.int .u8) y0, BV.d (.int .i64) y1]) := tEncode_run_z tCheck_P tCheck_r tputI_P tputI_r tputB_P tputB_r F x kend
theorem tEncode_contract  : Contract prog 54 tEncode_orc := con_of (B0 := tEncode_book0) bkN bkG mix_ok bkT tEncode_run (orcsOf_ok (fa tCheck_contract (fa tputI_contract (fa tputB_contract fz)))) (by kernel_rfl) (fun _ => rfl) tEncode_loOk (fun x h => (tEncode_plain x.1 h).elim fun F hF => ⟨F, fun kend => hF none _⟩)
@[reducible] def tDecode_ps  : List PM := [.d (.slc (.int .u8))]
def tDecode_orc  : Orc := Orc.of tDecode_ps false 0 fun x => (tDecode_P x.1, [.d (.slc (.pair (.int .i64) (.pair (.slc (.int .u8)) .unit))) (tDecode_r0 x.1), .d (.int .i64) (tDecode_r1 x.1)])
@[reducible] def tDecode_l1_T  : Tpl := { cur := ⟨[(1, .ptr 0 []), (0, .nils), (0, .var (.int .i64)), (2, .row 1), (12, .var (.int .i64)), (0, .var (.int .i64))], 24⟩, stk := [⟨[], 0⟩], heap := [.box (.var (.slc (.int .u8))), .row 84 (.pair (.int .i64) (.pair (.slc (.int .u8)) .unit)) false] }
def tDecode_orcs  : List (FuncId × Orc) := [(77, wire_Int_orc), (80, wire_Bytes_orc)]
def tDecode_book0  : Book := { Γ := gam, orc := orcsOf tDecode_orcs, hint := hintsOf [(49, { keep := some [1, 2, 3, 6, 19, 20], keeps := [(11, [1, 2, 3, 6, 19, 20])], own := [(6, 67)], dat := [], stk := [] })] }
def tDecode_l1_G (F : Nat) (nx : tDecode_l1_T.T → ZO) (kq : ZK) (x : tDecode_l1_T.T) : ZO := tDecode_l1 F none (fun s3 s19 s20 b out => nx (((), ((), (s3, ((), (s19, (s20, ())))))), (((), ()), (b, (out, ()))))) (fun y0 y1 y2 y3 y4 => kq .ret (tDecode_l1_T.inst (((), ((), (y0, ((), (y1, (y2, ())))))), (((), ()), (y3, (y4, ())))))) (fun y0 y1 y2 y3 y4 => kq (.exit 0) (tDecode_l1_T.inst (((), ((), (y0, ((), (y1, (y2, ())))))), (((), ()), (y3, (y4, ())))))) x.1.2.2.1 x.1.2.2.2.2.1 x.1.2.2.2.2.2.1 x.2.2.1 x.2.2.2.1
def tDecode_l1_R (F m : Nat) (x : tDecode_l1_T.T) (kq : ZK) : ZO := tDecode_l1F F none (fun y0 y1 y2 y3 y4 => kq .ret (tDecode_l1_T.inst (((), ((), (y0, ((), (y1, (y2, ())))))), (((), ()), (y3, (y4, ())))))) (fun y0 y1 y2 y3 y4 => kq (.exit 0) (tDecode_l1_T.inst (((), ((), (y0, ((), (y1, (y2, ())))))), (((), ()), (y3, (y4, ())))))) m x.1.2.2.1 x.1.2.2.2.2.1 x.1.2.2.2.2.2.1 x.2.2.1 x.2.2.2.1
def tDecode_lo (F : Nat) : List (LoE Unit) := [⟨49, 11, LO.of tDecode_l1_T (tDecode_l1_R F F)⟩]
def tDecode_book (F : Nat) : BookL Unit := { toBook := tDecode_book0, lo := losOf (tDecode_lo F), need := needsOf [(49, 1)] }
def tDecode_l1_z (wire_Int_Pz : ZB → Bool) (wire_Int_r0z : ZB → Int) (wire_Int_r1z : ZB → ZB) (wire_Int_r2z : ZB → Int) (wire_Bytes_Pz : ZB → Bool) (wire_Bytes_r0z wire_Bytes_r1z : ZB → ZB) (wire_Bytes_r2z : ZB → Int) {X : Type} (F : Nat) (fail : X) (next ex0 ex1 : Int → Int → Int → ZB → List ZR → X) (s3 s19 s20 : Int) (b : ZB) (out : List ZR) : X :=
 bif (decide (s20 < s19)) then
  bif (wire_Int_Pz b) then
  bif ((wire_Int_r2z b) == (0 : Int)) then
   bif ((wire_Int_r2z b) != (0 : Int)) then
    ex0 (wire_Int_r2z b) s19 s20 (wire_Int_r1z b) out
   else
   bif (decide ((wire_Int_r0z b) ≥ (1 : Int))) then
    bif (!(decide ((wire_Int_r0z b) ≤ (4 : Int)))) then
     ex0 (1 : Int) s19 s20 (wire_Int_r1z b) out
    else
    bif (wire_Bytes_Pz (wire_Int_r1z b)) then
    bif ((wire_Bytes_r2z (wire_Int_r1z b)) == (0 : Int)) then
     bif ((wire_Bytes_r2z (wire_Int_r1z b)) != (0 : Int)) then
      ex0 (wire_Bytes_r2z (wire_Int_r1z b)) s19 s20 (wire_Bytes_r1z (wire_Int_r1z b)) out
     else
     bif (decide ((out ++ ([((wire_Int_r0z b), ((wire_Bytes_r0z (wire_Int_r1z b)), ()))] : List ZR)).length ≤ big)) then
     next s3 s19 (addI s20 (1 : Int)) (wire_Bytes_r1z (wire_Int_r1z b)) (out ++ ([((wire_Int_r0z b), ((wire_Bytes_r0z (wire_Int_r1z b)), ()))] : List ZR))
     else fail
    else
    bif ((wire_Bytes_r2z (wire_Int_r1z b)) != (0 : Int)) then
     ex0 (wire_Bytes_r2z (wire_Int_r1z b)) s19 s20 (wire_Int_r1z b) out
    else
    bif (decide ((out ++ ([((wire_Int_r0z b), (([] : ZB), ()))] : List ZR)).length ≤ big)) then
    next s3 s19 (addI s20 (1 : Int)) (wire_Int_r1z b) (out ++ ([((wire_Int_r0z b), (([] : ZB), ()))] : List ZR))
    else fail
    else fail
   else
   ex0 (1 : Int) s19 s20 (wire_Int_r1z b) out
  else
  bif ((wire_Int_r2z b) != (0 : Int)) then
   ex0 (wire_Int_r2z b) s19 s20 b out
  else
  ex0 (1 : Int) s19 s20 b out
  else fail
 else
 ex1 s3 s19 s20 b out
def tDecode_z (wire_Int_Pz : ZB → Bool) (wire_Int_r0z : ZB → Int) (wire_Int_r1z : ZB → ZB) (wire_Int_r2z : ZB → Int) (wire_Bytes_Pz : ZB → Bool) (wire_Bytes_r0z wire_Bytes_r1z : ZB → ZB) (wire_Bytes_r2z : ZB → Int) {X : Type} (F : Nat) (b : ZB) (fail : X) (ret : List ZR → Int → X) : X :=
 bif (decide (((b.length : Nat) : Int) > (65536 : Int))) then
  ret ([] : List ZR) (5 : Int)
 else
 bif (wire_Int_Pz b) then
 bif ((wire_Int_r2z b) == (0 : Int)) then
  bif ((wire_Int_r2z b) != (0 : Int)) then
   ret ([] : List ZR) (wire_Int_r2z b)
  else
  bif (decide ((wire_Int_r0z b) > (1024 : Int))) then
   ret ([] : List ZR) (6 : Int)
  else
  tDecode_l1F F fail
   (fun (s3 : Int) (s19 : Int) (s20 : Int) (b1 : ZB) (out : List ZR) =>
    ret ([] : List ZR) s3)
   (fun (s31 : Int) (s191 : Int) (s201 : Int) (b2 : ZB) (out1 : List ZR) =>
    bif (decide (((b2.length : Nat) : Int) > (0 : Int))) then
     ret ([] : List ZR) (3 : Int)
    else
    ret out1 (0 : Int))
   F (0 : Int) (wire_Int_r0z b) (0 : Int) (wire_Int_r1z b) ([] : List ZR)
 else
 bif ((wire_Int_r2z b) != (0 : Int)) then
  ret ([] : List ZR) (wire_Int_r2z b)
 else
 tDecode_l1F F fail
  (fun (s32 : Int) (s192 : Int) (s202 : Int) (b3 : ZB) (out2 : List ZR) =>
   ret ([] : List ZR) s32)
  (fun (s33 : Int) (s193 : Int) (s203 : Int) (b4 : ZB) (out3 : List ZR) =>
   bif (decide (((b4.length : Nat) : Int) > (0 : Int))) then
    ret ([] : List ZR) (3 : Int)
   else
   ret out3 (0 : Int))
  F (0 : Int) (0 : Int) (0 : Int) b ([] : List ZR)
 else fail
def tDecode_orcs_z (wire_Int_Pz : ZB → Bool) (wire_Int_r0z : ZB → Int) (wire_Int_r1z : ZB → ZB) (wire_Int_r2z : ZB → Int) (wire_Bytes_Pz : ZB → Bool) (wire_Bytes_r0z wire_Bytes_r1z : ZB → ZB) (wire_Bytes_r2z : ZB → Int) : List (FuncId × Orc) := [(77, Orc.of wire_Int_ps false 0 fun x => (wire_Int_Pz x.1, [.d (.int .i64) (wire_Int_r0z x.1), .d (.slc (.int .u8)) (wire_Int_r1z x.1), .d (.int .i64) (wire_Int_r2z x.1)])), (80, Orc.of wire_Bytes_ps false 0 fun x => (wire_Bytes_Pz x.1, [.d (.slc (.int .u8)) (wire_Bytes_r0z x.1), .d (.slc (.int .u8)) (wire_Bytes_r1z x.1), .d (.int .i64) (wire_Bytes_r2z x.1)]))]
def tDecode_book0_z (wire_Int_Pz : ZB → Bool) (wire_Int_r0z : ZB → Int) (wire_Int_r1z : ZB → ZB) (wire_Int_r2z : ZB → Int) (wire_Bytes_Pz : ZB → Bool) (wire_Bytes_r0z wire_Bytes_r1z : ZB → ZB) (wire_Bytes_r2z : ZB → Int) : Book := { Γ := gam, orc := orcsOf (tDecode_orcs_z wire_Int_Pz wire_Int_r0z wire_Int_r1z wire_Int_r2z wire_Bytes_Pz wire_Bytes_r0z wire_Bytes_r1z wire_Bytes_r2z), hint := hintsOf [(49, { keep := some [1, 2, 3, 6, 19, 20], keeps := [(11, [1, 2, 3, 6, 19, 20])], own := [(6, 67)], dat := [], stk := [] })] }
def tDecode_book_z (wire_Int_Pz : ZB → Bool) (wire_Int_r0z : ZB → Int) (wire_Int_r1z : ZB → ZB) (wire_Int_r2z : ZB → Int) (wire_Bytes_Pz : ZB → Bool) (wire_Bytes_r0z wire_Bytes_r1z : ZB → ZB) (wire_Bytes_r2z : ZB → Int) (F : Nat) : BookL Unit := { toBook := tDecode_book0_z wire_Int_Pz wire_Int_r0z wire_Int_r1z wire_Int_r2z wire_Bytes_Pz wire_Bytes_r0z wire_Bytes_r1z wire_Bytes_r2z, lo := losOf (tDecode_lo F), need := needsOf [(49, 1)] }
def tDecode_l1_G_z (wire_Int_Pz : ZB → Bool) (wire_Int_r0z : ZB → Int) (wire_Int_r1z : ZB → ZB) (wire_Int_r2z : ZB → Int) (wire_Bytes_Pz : ZB → Bool) (wire_Bytes_r0z wire_Bytes_r1z : ZB → ZB) (wire_Bytes_r2z : ZB → Int) (F : Nat) (nx : tDecode_l1_T.T → ZO) (kq : ZK) (x : tDecode_l1_T.T) : ZO := tDecode_l1_z wire_Int_Pz wire_Int_r0z wire_Int_r1z wire_Int_r2z wire_Bytes_Pz wire_Bytes_r0z wire_Bytes_r1z wire_Bytes_r2z F none (fun s3 s19 s20 b out => nx (((), ((), (s3, ((), (s19, (s20, ())))))), (((), ()), (b, (out, ()))))) (fun y0 y1 y2 y3 y4 => kq .ret (tDecode_l1_T.inst (((), ((), (y0, ((), (y1, (y2, ())))))), (((), ()), (y3, (y4, ())))))) (fun y0 y1 y2 y3 y4 => kq (.exit 0) (tDecode_l1_T.inst (((), ((), (y0, ((), (y1, (y2, ())))))), (((), ()), (y3, (y4, ())))))) x.1.2.2.1 x.1.2.2.2.2.1 x.1.2.2.2.2.2.1 x.2.2.1 x.2.2.2.1
theorem tDecode_l1_step_z (wire_Int_Pz : ZB → Bool) (wire_Int_r0z : ZB → Int) (wire_Int_r1z : ZB → ZB) (wire_Int_r2z : ZB → Int) (wire_Bytes_Pz : ZB → Bool) (wire_Bytes_r0z wire_Bytes_r1z : ZB → ZB) (wire_Bytes_r2z : ZB → Int) (F : Nat) : LStep prog (tDecode_book_z wire_Int_Pz wire_Int_r0z wire_Int_r1z wire_Int_r2z wire_Bytes_Pz wire_Bytes_r0z wire_Bytes_r1z wire_Bytes_r2z F) F 49 0 11 tDecode_l1_T (tDecode_l1_G_z wire_Int_Pz wire_Int_r0z wire_Int_r1z wire_Int_r2z wire_Bytes_Pz wire_Bytes_r0z wire_Bytes_r1z wire_Bytes_r2z F) := fun d x KQ => by kernel_rfl
theorem tDecode_run_z (wire_Int_Pz : ZB → Bool) (wire_Int_r0z : ZB → Int) (wire_Int_r1z : ZB → ZB) (wire_Int_r2z : ZB → Int) (wire_Bytes_Pz : ZB → Bool) (wire_Bytes_r0z wire_Bytes_r1z : ZB → ZB) (wire_Bytes_r2z : ZB → Int) (F : Nat) (x : ArgsT tDecode_ps) (kend : List BV → ZO) : runFnL prog (tDecode_book_z wire_Int_Pz wire_Int_r0z wire_Int_r1z wire_Int_r2z wire_Bytes_Pz wire_Bytes_r0z wire_Bytes_r1z wire_Bytes_r2z F) F 20 49 (argsInst tDecode_ps x) [.d (.slc (.pair (.int .i64) (.pair (.slc (.int .u8)) .unit))), .d (.int .i64)] kend = tDecode_z wire_Int_Pz wire_Int_r0z wire_Int_r1z wire_Int_r2z wire_Bytes_Pz wire_Bytes_r0z wire_Bytes_r1z wire_Bytes_r2z F x.1 none (fun y0 y1 => kend [BV.d (.slc (.pair (.int .i64) (.pair (.slc (.int .u8)) .unit))) y0, BV.d (.int .i64) y1]) := by kernel_rfl
theorem tDecode_l1_step (F : Nat) : LStep prog (tDecode_book F) F 49 0 11 tDecode_l1_T (tDecode_l1_G F) := tDecode_l1_step_z wire_Int_P wire_Int_r0 wire_Int_r1 wire_Int_r2 wire_Bytes_P wire_Bytes_r0 wire_Bytes_r1 wire_Bytes_r2 F
theorem tDecode_loOk (F : Nat) : LoOk prog (tDecode_book F) F := loOk_of (l := tDecode_lo F) rfl (fa (loOne_of 0 (by kernel_rfl) (by kernel_rfl) (lstep_run (tDecode_l1_step F) (fun _ _ => rfl) (fun _ _ _ _ => rfl))) fz)
theorem tDecode_run (F : Nat) (x : ArgsT tDecode_ps) (kend : List BV → ZO) : runFnL prog (tDecode_book F) F 20 49 (argsInst tDecode_ps x) [.d (.slc (.pair (.int .i64) (.pair (.slc (.int .u8)) .unit))), .d (.int .i64)] kend = tDecode F x.1 none (fun y0 y1 => kend [BV.d (.slc (.pair (.int .i64) (.pair (.slc (.int .u8)) .unit))) y0, BV.d (.int .i64) y1]) := tDecode_run_z wire_Int_P wire_Int_r0 wire_Int_r1 wire_Int_r2 wire_Bytes_P wire_Bytes_r0 wire_Bytes_r1 wire_Bytes_r2 F x kend
theorem tDecode_contract  : Contract prog 49 tDecode_orc := con_of (B0 := tDecode_book0) bkN bkG mix_ok bkT tDecode_run (orcsOf_ok (fa wire_Int_contract (fa wire_Bytes_contract fz))) (by kernel_rfl) (fun _ => rfl) tDecode_loOk (fun x h => (tDecode_plain x.1 h).elim fun F hF => ⟨F, fun kend => hF none _⟩)
end Go.AI
namespace Go.AI
open Go
open Go.Proofs.Tryz (prog)
set_option linter.unusedVariables false
@[reducible] def tCommit_ps  : List PM := [.d (.pair (.int .i64) (.pair (.int .i64) (.pair (.int .i64) .unit))), .d (.slc (.int .u8)), .d (.slc (.pair (.int .i64) (.pair (.slc (.int .u8)) .unit)))]
def tCommit_orc  : Orc := Orc.of tCommit_ps false 0 fun x => (tCommit_P x.1 x.2.1 x.2.2.1, [.d (.pair (.int .i64) (.pair (.int .i64) (.pair (.int .i64) .unit))) (tCommit_r0 x.1 x.2.1 x.2.2.1), .d (.slc (.pair (.int .i64) (.pair (.int .i64) (.pair (.slc (.arr 16 (.int .u8))) .unit)))) (tCommit_r1 x.1 x.2.1 x.2.2.1), .d (.int .i64) (tCommit_r2 x.1 x.2.1 x.2.2.1)])
def tCommit_orcs  : List (FuncId × Orc) := [(11, lAppend_orc), (33, lCheck_orc), (54, tEncode_orc), (55, cSeal_orc)]
theorem tCommit_run (F : Nat) (x : ArgsT tCommit_ps) (kend : List BV → ZO) : runFnL prog (bkZ tCommit_orcs) F 20 24 (argsInst tCommit_ps x) [.d (.pair (.int .i64) (.pair (.int .i64) (.pair (.int .i64) .unit))), .d (.slc (.pair (.int .i64) (.pair (.int .i64) (.pair (.slc (.arr 16 (.int .u8))) .unit)))), .d (.int .i64)] kend = tCommit F x.1 x.2.1 x.2.2.1 none (fun y0 y1 y2 => kend [BV.d (.pair (.int .i64) (.pair (.int .i64) (.pair (.int .i64) .unit))) y0, BV.d (.slc (.pair (.int .i64) (.pair (.int .i64) (.pair (.slc (.arr 16 (.int .u8))) .unit)))) y1, BV.d (.int .i64) y2]) := by kernel_rfl
theorem tCommit_contract  : Contract prog 24 tCommit_orc := con_of (B0 := bkY tCommit_orcs) bkN bkG mix_ok bkT tCommit_run (orcsOf_ok (fa lAppend_contract (fa lCheck_contract (fa tEncode_contract (fa cSeal_contract fz))))) (by kernel_rfl) (fun _ => rfl) (bkO _) (fun x h => (tCommit_plain x.1 x.2.1 x.2.2.1 h).elim fun F hF => ⟨F, fun kend => hF none _⟩)
end Go.AI
namespace Go.AI
open Go
open Go.Proofs.Tryz (prog)
set_option linter.unusedVariables false
@[reducible] def tReplay_ps  : List PM := [.d (.pair (.slc (.arr 16 (.int .u8))) (.pair (.slc (.pair (.int .i64) (.pair (.arr 16 (.int .u8)) .unit))) .unit)), .d (.slc (.int .u8))]
def tReplay_orc  : Orc := Orc.of tReplay_ps false 0 fun x => (tReplay_P x.1 x.2.1, [.d (.pair (.int .i64) (.pair (.int .i64) (.pair (.int .i64) .unit))) (tReplay_r0 x.1 x.2.1), .d (.slc (.slc (.pair (.int .i64) (.pair (.slc (.int .u8)) .unit)))) (tReplay_r1 x.1 x.2.1), .d (.int .i64) (tReplay_r2 x.1 x.2.1)])
@[reducible] def tReplay_l1_T  : Tpl := { cur := ⟨[(0, .hnd .yield 0), (1, .ptr 6 []), (4, .var (.slc (.slc (.int .u8)))), (0, .var (.int .i64)), (0, .var (.int .i64))], 21⟩, stk := [⟨[(0, .hnd .yield 0)], 0⟩, ⟨[(1, .var (.slc (.int .u8))), (2, .ptr 1 []), (0, .ptr 2 []), (0, .ptr 3 []), (0, .ptr 7 []), (2, .ptr 4 [])], 39⟩, ⟨[], 0⟩], heap := [.lp 20 8 ⟨[(4, .ptr 1 []), (0, .ptr 2 []), (0, .ptr 3 []), (3, .ptr 4 [])], 39⟩ .ready, .box (.var (.pair (.int .i64) (.pair (.int .i64) (.pair (.int .i64) .unit)))), .box (.nils), .box (.var (.int .i64)), .box (.row 5), .row 67 (.slc (.pair (.int .i64) (.pair (.slc (.int .u8)) .unit))) false, .box (.var (.slc (.int .u8))), .box (.var (.pair (.int .i64) (.pair (.int .i64) (.pair (.int .i64) .unit))))] }
@[reducible] def tReplay_l1_T0  : Tpl := { cur := ⟨[(0, .hnd .yield 0), (1, .ptr 6 []), (4, .var (.slc (.slc (.int .u8)))), (0, .var (.int .i64)), (0, .var (.int .i64))], 21⟩, stk := [⟨[(0, .hnd .yield 0)], 0⟩, ⟨[(1, .var (.slc (.int .u8))), (2, .ptr 1 []), (0, .ptr 2 []), (0, .ptr 3 []), (0, .ptr 7 []), (2, .ptr 4 [])], 39⟩, ⟨[], 0⟩], heap := [.lp 20 8 ⟨[(4, .ptr 1 []), (0, .ptr 2 []), (0, .ptr 3 []), (3, .ptr 4 [])], 39⟩ (.done .ret), .box (.var (.pair (.int .i64) (.pair (.int .i64) (.pair (.int .i64) .unit)))), .box (.nils), .box (.var (.int .i64)), .box (.row 5), .row 67 (.slc (.pair (.int .i64) (.pair (.slc (.int .u8)) .unit))) false, .box (.var (.slc (.int .u8))), .box (.var (.pair (.int .i64) (.pair (.int .i64) (.pair (.int .i64) .unit))))] }
def tReplay_orcs  : List (FuncId × Orc) := [(15, lOpen_orc), (49, tDecode_orc), (75, cOpen_orc)]
def tReplay_book0  : Book := { Γ := gam, orc := orcsOf tReplay_orcs, hint := hintsOf [(20, { keep := some [], keeps := [], own := [], dat := [], stk := [], rgb := [(5007, [(10, 0, 49)])] }), (74, { keep := some [0, 2, 7, 8, 9], keeps := [(1, [0, 2, 7, 8, 9])], own := [], dat := [], stk := [[0], [1, 4, 5, 6, 7, 10, 11, 12, 13, 31, 32, 34, 41]] })] }
def tReplay_l1_G (F : Nat) (nx : tReplay_l1_T.T → ZO) (kq : ZK) (x : tReplay_l1_T.T) : ZO := tReplay_l1 F none (fun s7 s8 s9 key s4 s6 out s2 l => nx (((), ((), (s7, (s8, (s9, ()))))), ((((), ()), ((key, ((), ((), ((), ((), ((), ())))))), ((), ()))), (((), ((), ((), ((), ())))), (s4, ((), (s6, ((), (out, (s2, (l, ()))))))))))) (fun y0 y1 y2 y3 y4 y5 y6 y7 y8 => kq .ret (tReplay_l1_T0.inst (((), ((), (y0, (y1, (y2, ()))))), ((((), ()), ((y3, ((), ((), ((), ((), ((), ())))))), ((), ()))), (((), ((), ((), ((), ())))), (y4, ((), (y5, ((), (y6, (y7, (y8, ())))))))))))) (fun y0 y1 y2 y3 y4 y5 y6 y7 y8 => kq (.exit 0) (tReplay_l1_T.inst (((), ((), (y0, (y1, (y2, ()))))), ((((), ()), ((y3, ((), ((), ((), ((), ((), ())))))), ((), ()))), (((), ((), ((), ((), ())))), (y4, ((), (y5, ((), (y6, (y7, (y8, ())))))))))))) x.1.2.2.1 x.1.2.2.2.1 x.1.2.2.2.2.1 x.2.1.2.1.1 x.2.2.2.1 x.2.2.2.2.2.1 x.2.2.2.2.2.2.2.1 x.2.2.2.2.2.2.2.2.1 x.2.2.2.2.2.2.2.2.2.1
def tReplay_l1_R (F m : Nat) (x : tReplay_l1_T.T) (kq : ZK) : ZO := tReplay_l1F F none (fun y0 y1 y2 y3 y4 y5 y6 y7 y8 => kq .ret (tReplay_l1_T0.inst (((), ((), (y0, (y1, (y2, ()))))), ((((), ()), ((y3, ((), ((), ((), ((), ((), ())))))), ((), ()))), (((), ((), ((), ((), ())))), (y4, ((), (y5, ((), (y6, (y7, (y8, ())))))))))))) (fun y0 y1 y2 y3 y4 y5 y6 y7 y8 => kq (.exit 0) (tReplay_l1_T.inst (((), ((), (y0, (y1, (y2, ()))))), ((((), ()), ((y3, ((), ((), ((), ((), ((), ())))))), ((), ()))), (((), ((), ((), ((), ())))), (y4, ((), (y5, ((), (y6, (y7, (y8, ())))))))))))) m x.1.2.2.1 x.1.2.2.2.1 x.1.2.2.2.2.1 x.2.1.2.1.1 x.2.2.2.1 x.2.2.2.2.2.1 x.2.2.2.2.2.2.2.1 x.2.2.2.2.2.2.2.2.1 x.2.2.2.2.2.2.2.2.2.1
def tReplay_lo (F : Nat) : List (LoE Unit) := [⟨74, 1, LO.of tReplay_l1_T (tReplay_l1_R F F)⟩]
def tReplay_book (F : Nat) : BookL Unit := { toBook := tReplay_book0, lo := losOf (tReplay_lo F), need := needsOf [(74, 1)] }
def tReplay_l1_z (lOpen_Pz : (ZD) → Bool) (lOpen_r0z : (ZD) → (ZL)) (lOpen_r1z : (ZD) → (List ZB)) (lOpen_r2z : (ZD) → Int) (tDecode_Pz : ZB → Bool) (tDecode_r0z : ZB → (List ZR)) (tDecode_r1z : ZB → Int) (cOpen_Pz : ZB → Int → ZB → Bool) (cOpen_r0z : ZB → Int → ZB → ZB) (cOpen_r1z : ZB → Int → ZB → Int) {X : Type} (F : Nat) (fail : X) (next ex0 ex1 : List ZB → Int → Int → ZB → ZL → Int → List (List ZR) → ZB → ZL → X) (s7 : List ZB) (s8 s9 : Int) (key : ZB) (s4 : ZL) (s6 : Int) (out : List (List ZR)) (s2 : ZB) (l : ZL) : X :=
 bif (decide (s9 < s8)) then
  bif ((decide ((0 : Int) ≤ s9)) && (decide (s9 < ((s7.length : Nat) : Int)))) then
  bif (decide (((s2.length : Nat) : Int) > (0 : Int))) then
   bif (cOpen_Pz s2 (addI s9 (1 : Int)) (List.getD s7 (s9).toNat ([] : ZB))) then
   bif ((cOpen_r1z s2 (addI s9 (1 : Int)) (List.getD s7 (s9).toNat ([] : ZB))) == (0 : Int)) then
    bif (tDecode_Pz (cOpen_r0z s2 (addI s9 (1 : Int)) (List.getD s7 (s9).toNat ([] : ZB)))) then
    bif ((tDecode_r1z (cOpen_r0z s2 (addI s9 (1 : Int)) (List.getD s7 (s9).toNat ([] : ZB)))) != (0 : Int)) then
     ex0 s7 s8 s9 key ((0 : Int), ((0 : Int), ((0 : Int), ()))) (tDecode_r1z (cOpen_r0z s2 (addI s9 (1 : Int)) (List.getD s7 (s9).toNat ([] : ZB)))) out s2 l
    else
    bif (decide ((out ++ ([(tDecode_r0z (cOpen_r0z s2 (addI s9 (1 : Int)) (List.getD s7 (s9).toNat ([] : ZB))))] : List (List ZR))).length ≤ big)) then
    next s7 s8 (addI s9 (1 : Int)) key s4 s6 (out ++ ([(tDecode_r0z (cOpen_r0z s2 (addI s9 (1 : Int)) (List.getD s7 (s9).toNat ([] : ZB))))] : List (List ZR))) s2 l
    else fail
    else fail
   else
   bif ((cOpen_r1z s2 (addI s9 (1 : Int)) (List.getD s7 (s9).toNat ([] : ZB))) != (0 : Int)) then
    ex0 s7 s8 s9 key ((0 : Int), ((0 : Int), ((0 : Int), ()))) (cOpen_r1z s2 (addI s9 (1 : Int)) (List.getD s7 (s9).toNat ([] : ZB))) out s2 l
   else
   bif (decide ((out ++ ([([] : List ZR)] : List (List ZR))).length ≤ big)) then
   next s7 s8 (addI s9 (1 : Int)) key s4 s6 (out ++ ([([] : List ZR)] : List (List ZR))) s2 l
   else fail
   else fail
  else
  bif (tDecode_Pz (List.getD s7 (s9).toNat ([] : ZB))) then
  bif ((tDecode_r1z (List.getD s7 (s9).toNat ([] : ZB))) != (0 : Int)) then
   ex0 s7 s8 s9 key ((0 : Int), ((0 : Int), ((0 : Int), ()))) (tDecode_r1z (List.getD s7 (s9).toNat ([] : ZB))) out s2 l
  else
  bif (decide ((out ++ ([(tDecode_r0z (List.getD s7 (s9).toNat ([] : ZB)))] : List (List ZR))).length ≤ big)) then
  next s7 s8 (addI s9 (1 : Int)) key s4 s6 (out ++ ([(tDecode_r0z (List.getD s7 (s9).toNat ([] : ZB)))] : List (List ZR))) s2 l
  else fail
  else fail
  else fail
 else
 ex1 s7 s8 s9 key s4 s6 out s2 l
def tReplay_z (lOpen_Pz : (ZD) → Bool) (lOpen_r0z : (ZD) → (ZL)) (lOpen_r1z : (ZD) → (List ZB)) (lOpen_r2z : (ZD) → Int) (tDecode_Pz : ZB → Bool) (tDecode_r0z : ZB → (List ZR)) (tDecode_r1z : ZB → Int) (cOpen_Pz : ZB → Int → ZB → Bool) (cOpen_r0z : ZB → Int → ZB → ZB) (cOpen_r1z : ZB → Int → ZB → Int) {X : Type} (F : Nat) (d_ : ZD) (key : ZB) (fail : X) (ret : ZL → List (List ZR) → Int → X) : X :=
 bif (lOpen_Pz d_) then
 bif ((lOpen_r2z d_) != (0 : Int)) then
  ret ((0 : Int), ((0 : Int), ((0 : Int), ()))) ([] : List (List ZR)) (lOpen_r2z d_)
 else
 bif (decide (((key.length : Nat) : Int) > (64 : Int))) then
  ret ((0 : Int), ((0 : Int), ((0 : Int), ()))) ([] : List (List ZR)) (1 : Int)
 else
 tReplay_l1F F fail
  (fun (s7 : List ZB) (s8 : Int) (s9 : Int) (key1 : ZB) (s4 : ZL) (s6 : Int) (out : List (List ZR)) (s2 : ZB) (l : ZL) =>
   ret s4 ([] : List (List ZR)) s6)
  (fun (s71 : List ZB) (s81 : Int) (s91 : Int) (key2 : ZB) (s41 : ZL) (s61 : Int) (out1 : List (List ZR)) (s21 : ZB) (l1 : ZL) =>
   ret l1 out1 (0 : Int))
  F (lOpen_r1z d_) (((lOpen_r1z d_).length : Nat) : Int) (0 : Int) key ((0 : Int), ((0 : Int), ((0 : Int), ()))) (0 : Int) ([] : List (List ZR)) key (lOpen_r0z d_)
 else fail
def tReplay_orcs_z (lOpen_Pz : (ZD) → Bool) (lOpen_r0z : (ZD) → (ZL)) (lOpen_r1z : (ZD) → (List ZB)) (lOpen_r2z : (ZD) → Int) (tDecode_Pz : ZB → Bool) (tDecode_r0z : ZB → (List ZR)) (tDecode_r1z : ZB → Int) (cOpen_Pz : ZB → Int → ZB → Bool) (cOpen_r0z : ZB → Int → ZB → ZB) (cOpen_r1z : ZB → Int → ZB → Int) : List (FuncId × Orc) := [(15, Orc.of lOpen_ps false 0 fun x => (lOpen_Pz x.1, [.d (.pair (.int .i64) (.pair (.int .i64) (.pair (.int .i64) .unit))) (lOpen_r0z x.1), .d (.slc (.slc (.int .u8))) (lOpen_r1z x.1), .d (.int .i64) (lOpen_r2z x.1)])), (49, Orc.of tDecode_ps false 0 fun x => (tDecode_Pz x.1, [.d (.slc (.pair (.int .i64) (.pair (.slc (.int .u8)) .unit))) (tDecode_r0z x.1), .d (.int .i64) (tDecode_r1z x.1)])), (75, Orc.of cOpen_ps true 1 fun x => (cOpen_Pz x.1 x.2.1 x.2.2.1, [.o 5 (.int .u8) (cOpen_r0z x.1 x.2.1 x.2.2.1), .d (.int .i64) (cOpen_r1z x.1 x.2.1 x.2.2.1)]))]
def tReplay_book0_z (lOpen_Pz : (ZD) → Bool) (lOpen_r0z : (ZD) → (ZL)) (lOpen_r1z : (ZD) → (List ZB)) (lOpen_r2z : (ZD) → Int) (tDecode_Pz : ZB → Bool) (tDecode_r0z : ZB → (List ZR)) (tDecode_r1z : ZB → Int) (cOpen_Pz : ZB → Int → ZB → Bool) (cOpen_r0z : ZB → Int → ZB → ZB) (cOpen_r1z : ZB → Int → ZB → Int) : Book := { Γ := gam, orc := orcsOf (tReplay_orcs_z lOpen_Pz lOpen_r0z lOpen_r1z lOpen_r2z tDecode_Pz tDecode_r0z tDecode_r1z cOpen_Pz cOpen_r0z cOpen_r1z), hint := hintsOf [(20, { keep := some [], keeps := [], own := [], dat := [], stk := [], rgb := [(5007, [(10, 0, 49)])] }), (74, { keep := some [0, 2, 7, 8, 9], keeps := [(1, [0, 2, 7, 8, 9])], own := [], dat := [], stk := [[0], [1, 4, 5, 6, 7, 10, 11, 12, 13, 31, 32, 34, 41]] })] }
def tReplay_book_z (lOpen_Pz : (ZD) → Bool) (lOpen_r0z : (ZD) → (ZL)) (lOpen_r1z : (ZD) → (List ZB)) (lOpen_r2z : (ZD) → Int) (tDecode_Pz : ZB → Bool) (tDecode_r0z : ZB → (List ZR)) (tDecode_r1z : ZB → Int) (cOpen_Pz : ZB → Int → ZB → Bool) (cOpen_r0z : ZB → Int → ZB → ZB) (cOpen_r1z : ZB → Int → ZB → Int) (F : Nat) : BookL Unit := { toBook := tReplay_book0_z lOpen_Pz lOpen_r0z lOpen_r1z lOpen_r2z tDecode_Pz tDecode_r0z tDecode_r1z cOpen_Pz cOpen_r0z cOpen_r1z, lo := losOf (tReplay_lo F), need := needsOf [(74, 1)] }
def tReplay_l1_G_z (lOpen_Pz : (ZD) → Bool) (lOpen_r0z : (ZD) → (ZL)) (lOpen_r1z : (ZD) → (List ZB)) (lOpen_r2z : (ZD) → Int) (tDecode_Pz : ZB → Bool) (tDecode_r0z : ZB → (List ZR)) (tDecode_r1z : ZB → Int) (cOpen_Pz : ZB → Int → ZB → Bool) (cOpen_r0z : ZB → Int → ZB → ZB) (cOpen_r1z : ZB → Int → ZB → Int) (F : Nat) (nx : tReplay_l1_T.T → ZO) (kq : ZK) (x : tReplay_l1_T.T) : ZO := tReplay_l1_z lOpen_Pz lOpen_r0z lOpen_r1z lOpen_r2z tDecode_Pz tDecode_r0z tDecode_r1z cOpen_Pz cOpen_r0z cOpen_r1z F none (fun s7 s8 s9 key s4 s6 out s2 l => nx (((), ((), (s7, (s8, (s9, ()))))), ((((), ()), ((key, ((), ((), ((), ((), ((), ())))))), ((), ()))), (((), ((), ((), ((), ())))), (s4, ((), (s6, ((), (out, (s2, (l, ()))))))))))) (fun y0 y1 y2 y3 y4 y5 y6 y7 y8 => kq .ret (tReplay_l1_T0.inst (((), ((), (y0, (y1, (y2, ()))))), ((((), ()), ((y3, ((), ((), ((), ((), ((), ())))))), ((), ()))), (((), ((), ((), ((), ())))), (y4, ((), (y5, ((), (y6, (y7, (y8, ())))))))))))) (fun y0 y1 y2 y3 y4 y5 y6 y7 y8 => kq (.exit 0) (tReplay_l1_T.inst (((), ((), (y0, (y1, (y2, ()))))), ((((), ()), ((y3, ((), ((), ((), ((), ((), ())))))), ((), ()))), (((), ((), ((), ((), ())))), (y4, ((), (y5, ((), (y6, (y7, (y8, ())))))))))))) x.1.2.2.1 x.1.2.2.2.1 x.1.2.2.2.2.1 x.2.1.2.1.1 x.2.2.2.1 x.2.2.2.2.2.1 x.2.2.2.2.2.2.2.1 x.2.2.2.2.2.2.2.2.1 x.2.2.2.2.2.2.2.2.2.1
theorem tReplay_l1_step_z (lOpen_Pz : (ZD) → Bool) (lOpen_r0z : (ZD) → (ZL)) (lOpen_r1z : (ZD) → (List ZB)) (lOpen_r2z : (ZD) → Int) (tDecode_Pz : ZB → Bool) (tDecode_r0z : ZB → (List ZR)) (tDecode_r1z : ZB → Int) (cOpen_Pz : ZB → Int → ZB → Bool) (cOpen_r0z : ZB → Int → ZB → ZB) (cOpen_r1z : ZB → Int → ZB → Int) (F : Nat) : LStep prog (tReplay_book_z lOpen_Pz lOpen_r0z lOpen_r1z lOpen_r2z tDecode_Pz tDecode_r0z tDecode_r1z cOpen_Pz cOpen_r0z cOpen_r1z F) F 74 0 1 tReplay_l1_T (tReplay_l1_G_z lOpen_Pz lOpen_r0z lOpen_r1z lOpen_r2z tDecode_Pz tDecode_r0z tDecode_r1z cOpen_Pz cOpen_r0z cOpen_r1z F) := fun d x KQ => by kernel_rfl
theorem tReplay_run_z (lOpen_Pz : (ZD) → Bool) (lOpen_r0z : (ZD) → (ZL)) (lOpen_r1z : (ZD) → (List ZB)) (lOpen_r2z : (ZD) → Int) (tDecode_Pz : ZB → Bool) (tDecode_r0z : ZB → (List ZR)) (tDecode_r1z : ZB → Int) (cOpen_Pz : ZB → Int → ZB → Bool) (cOpen_r0z : ZB → Int → ZB → ZB) (cOpen_r1z : ZB → Int → ZB → Int) (F : Nat) (x : ArgsT tReplay_ps) (kend : List BV → ZO) : runFnL prog (tReplay_book_z lOpen_Pz lOpen_r0z lOpen_r1z lOpen_r2z tDecode_Pz tDecode_r0z tDecode_r1z cOpen_Pz cOpen_r0z cOpen_r1z F) F 20 20 (argsInst tReplay_ps x) [.d (.pair (.int .i64) (.pair (.int .i64) (.pair (.int .i64) .unit))), .d (.slc (.slc (.pair (.int .i64) (.pair (.slc (.int .u8)) .unit)))), .d (.int .i64)] kend = tReplay_z lOpen_Pz lOpen_r0z lOpen_r1z lOpen_r2z tDecode_Pz tDecode_r0z tDecode_r1z cOpen_Pz cOpen_r0z cOpen_r1z F x.1 x.2.1 none (fun y0 y1 y2 => kend [BV.d (.pair (.int .i64) (.pair (.int .i64) (.pair (.int .i64) .unit))) y0, BV.d (.slc (.slc (.pair (.int .i64) (.pair (.slc (.int .u8)) .unit)))) y1, BV.d (.int .i64) y2]) := by kernel_rfl
theorem tReplay_l1_step (F : Nat) : LStep prog (tReplay_book F) F 74 0 1 tReplay_l1_T (tReplay_l1_G F) := tReplay_l1_step_z lOpen_P lOpen_r0 lOpen_r1 lOpen_r2 tDecode_P tDecode_r0 tDecode_r1 cOpen_P cOpen_r0 cOpen_r1 F
theorem tReplay_loOk (F : Nat) : LoOk prog (tReplay_book F) F := loOk_of (l := tReplay_lo F) rfl (fa (loOne_of 0 (by kernel_rfl) (by kernel_rfl) (lstep_run (tReplay_l1_step F) (fun _ _ => rfl) (fun _ _ _ _ => rfl))) fz)
theorem tReplay_run (F : Nat) (x : ArgsT tReplay_ps) (kend : List BV → ZO) : runFnL prog (tReplay_book F) F 20 20 (argsInst tReplay_ps x) [.d (.pair (.int .i64) (.pair (.int .i64) (.pair (.int .i64) .unit))), .d (.slc (.slc (.pair (.int .i64) (.pair (.slc (.int .u8)) .unit)))), .d (.int .i64)] kend = tReplay F x.1 x.2.1 none (fun y0 y1 y2 => kend [BV.d (.pair (.int .i64) (.pair (.int .i64) (.pair (.int .i64) .unit))) y0, BV.d (.slc (.slc (.pair (.int .i64) (.pair (.slc (.int .u8)) .unit)))) y1, BV.d (.int .i64) y2]) := tReplay_run_z lOpen_P lOpen_r0 lOpen_r1 lOpen_r2 tDecode_P tDecode_r0 tDecode_r1 cOpen_P cOpen_r0 cOpen_r1 F x kend
theorem tReplay_contract  : Contract prog 20 tReplay_orc := con_of (B0 := tReplay_book0) bkN bkG mix_ok bkT tReplay_run (orcsOf_ok (fa lOpen_contract (fa tDecode_contract (fa cOpen_contract fz)))) (by kernel_rfl) (fun _ => rfl) tReplay_loOk (fun x h => (tReplay_plain x.1 x.2.1 h).elim fun F hF => ⟨F, fun kend => hF none _⟩)
end Go.AI
namespace Go.AI
open Go
open Go.Proofs.Tryz (prog)
set_option linter.unusedVariables false
@[reducible] def uFew_ps  : List PM := [.d (.slc (.pair (.int .i64) (.pair (.slc (.int .u8)) .unit)))]
def uFew_orc  : Orc := Orc.of uFew_ps true 0 fun x => (uFew_P x.1, [.d .bool (uFew_r x.1)])
@[reducible] def uFew_l1_T  : Tpl := { cur := ⟨[(0, .var (.slc (.pair (.int .i64) (.pair (.slc (.int .u8)) .unit)))), (1, .var .bool), (0, .var (.int .i64))], 20⟩, stk := [⟨[], 0⟩], heap := [] }
def uFew_orcs  : List (FuncId × Orc) := []
def uFew_book0  : Book := { Γ := gam, orc := orcsOf uFew_orcs, hint := hintsOf [(47, { keep := some [0, 2, 3], keeps := [(2, [0, 2, 3])], own := [], dat := [], stk := [] })] }
def uFew_l1_G (F : Nat) (nx : uFew_l1_T.T → ZO) (kq : ZK) (x : uFew_l1_T.T) : ZO := uFew_l1 F none (fun l s2 i => nx ((l, (s2, (i, ()))), (((), ()), ()))) (fun y0 y1 y2 => kq .ret (uFew_l1_T.inst ((y0, (y1, (y2, ()))), (((), ()), ())))) (fun y0 y1 y2 => kq (.exit 0) (uFew_l1_T.inst ((y0, (y1, (y2, ()))), (((), ()), ())))) x.1.1 x.1.2.1 x.1.2.2.1
def uFew_l1_R (F m : Nat) (x : uFew_l1_T.T) (kq : ZK) : ZO := uFew_l1F F none (fun y0 y1 y2 => kq .ret (uFew_l1_T.inst ((y0, (y1, (y2, ()))), (((), ()), ())))) (fun y0 y1 y2 => kq (.exit 0) (uFew_l1_T.inst ((y0, (y1, (y2, ()))), (((), ()), ())))) m x.1.1 x.1.2.1 x.1.2.2.1
def uFew_lo (F : Nat) : List (LoE Unit) := [⟨47, 2, LO.of uFew_l1_T (uFew_l1_R F F)⟩]
def uFew_book (F : Nat) : BookL Unit := { toBook := uFew_book0, lo := losOf (uFew_lo F), need := needsOf [] }
theorem uFew_l1_step (F : Nat) : LStep prog (uFew_book F) F 47 0 2 uFew_l1_T (uFew_l1_G F) := fun d x KQ => by kernel_rfl
theorem uFew_loOk (F : Nat) : LoOk prog (uFew_book F) F := loOk_of (l := uFew_lo F) rfl (fa (loOne_of 0 (by kernel_rfl) (by kernel_rfl) (lstep_run (uFew_l1_step F) (fun _ _ => rfl) (fun _ _ _ _ => rfl))) fz)
theorem uFew_run (F : Nat) (x : ArgsT uFew_ps) (kend : List BV → ZO) : runFnL prog (uFew_book F) F 20 47 (argsInst uFew_ps x) [.d .bool] kend = uFew F x.1 none (fun y0 => kend [BV.d .bool y0]) := by kernel_rfl
theorem uFew_contract  : Contract prog 47 uFew_orc := con_of (B0 := uFew_book0) bkN bkG mix_ok bkT uFew_run (orcsOf_ok fz) (by kernel_rfl) (fun _ => rfl) uFew_loOk (fun x h => (uFew_plain x.1 h).elim fun F hF => ⟨F, fun kend => hF none _⟩)
@[reducible] def uSame_ps  : List PM := [.d (.slc (.pair (.int .i64) (.pair (.slc (.int .u8)) .unit))), .d (.slc (.pair (.int .i64) (.pair (.slc (.int .u8)) .unit)))]
def uSame_orc  : Orc := Orc.of uSame_ps true 0 fun x => (uSame_P x.1 x.2.1, [.d .bool (uSame_r x.1 x.2.1)])
@[reducible] def uSame_l1_T  : Tpl := { cur := ⟨[(0, .var (.slc (.pair (.int .i64) (.pair (.slc (.int .u8)) .unit)))), (0, .var (.slc (.pair (.int .i64) (.pair (.slc (.int .u8)) .unit)))), (2, .var .bool), (0, .var (.int .i64))], 37⟩, stk := [⟨[], 0⟩], heap := [] }
def uSame_orcs  : List (FuncId × Orc) := []
def uSame_book0  : Book := { Γ := gam, orc := orcsOf uSame_orcs, hint := hintsOf [(50, { keep := some [0, 1, 4, 5], keeps := [(4, [0, 1, 4, 5])], own := [], dat := [], stk := [] })] }
def uSame_l1_G (F : Nat) (nx : uSame_l1_T.T → ZO) (kq : ZK) (x : uSame_l1_T.T) : ZO := uSame_l1 F none (fun a b s4 i => nx ((a, (b, (s4, (i, ())))), (((), ()), ()))) (fun y0 y1 y2 y3 => kq .ret (uSame_l1_T.inst ((y0, (y1, (y2, (y3, ())))), (((), ()), ())))) (fun y0 y1 y2 y3 => kq (.exit 0) (uSame_l1_T.inst ((y0, (y1, (y2, (y3, ())))), (((), ()), ())))) x.1.1 x.1.2.1 x.1.2.2.1 x.1.2.2.2.1
def uSame_l1_R (F m : Nat) (x : uSame_l1_T.T) (kq : ZK) : ZO := uSame_l1F F none (fun y0 y1 y2 y3 => kq .ret (uSame_l1_T.inst ((y0, (y1, (y2, (y3, ())))), (((), ()), ())))) (fun y0 y1 y2 y3 => kq (.exit 0) (uSame_l1_T.inst ((y0, (y1, (y2, (y3, ())))), (((), ()), ())))) m x.1.1 x.1.2.1 x.1.2.2.1 x.1.2.2.2.1
def uSame_lo (F : Nat) : List (LoE Unit) := [⟨50, 4, LO.of uSame_l1_T (uSame_l1_R F F)⟩]
def uSame_book (F : Nat) : BookL Unit := { toBook := uSame_book0, lo := losOf (uSame_lo F), need := needsOf [] }
theorem uSame_l1_step (F : Nat) : LStep prog (uSame_book F) F 50 0 4 uSame_l1_T (uSame_l1_G F) := fun d x KQ => by kernel_rfl
theorem uSame_loOk (F : Nat) : LoOk prog (uSame_book F) F := loOk_of (l := uSame_lo F) rfl (fa (loOne_of 0 (by kernel_rfl) (by kernel_rfl) (lstep_run (uSame_l1_step F) (fun _ _ => rfl) (fun _ _ _ _ => rfl))) fz)
theorem uSame_run (F : Nat) (x : ArgsT uSame_ps) (kend : List BV → ZO) : runFnL prog (uSame_book F) F 20 50 (argsInst uSame_ps x) [.d .bool] kend = uSame F x.1 x.2.1 none (fun y0 => kend [BV.d .bool y0]) := by kernel_rfl
theorem uSame_contract  : Contract prog 50 uSame_orc := con_of (B0 := uSame_book0) bkN bkG mix_ok bkT uSame_run (orcsOf_ok fz) (by kernel_rfl) (fun _ => rfl) uSame_loOk (fun x h => (uSame_plain x.1 x.2.1 h).elim fun F hF => ⟨F, fun kend => hF none _⟩)
@[reducible] def uSameAll_ps  : List PM := [.d (.slc (.slc (.pair (.int .i64) (.pair (.slc (.int .u8)) .unit)))), .d (.slc (.slc (.pair (.int .i64) (.pair (.slc (.int .u8)) .unit))))]
def uSameAll_orc  : Orc := Orc.of uSameAll_ps true 0 fun x => (uSameAll_P x.1 x.2.1, [.d .bool (uSameAll_r x.1 x.2.1)])
@[reducible] def uSameAll_l1_T  : Tpl := { cur := ⟨[(0, .var (.slc (.slc (.pair (.int .i64) (.pair (.slc (.int .u8)) .unit))))), (0, .var (.slc (.slc (.pair (.int .i64) (.pair (.slc (.int .u8)) .unit))))), (2, .var .bool), (0, .var (.int .i64))], 21⟩, stk := [⟨[], 0⟩], heap := [] }
def uSameAll_orcs  : List (FuncId × Orc) := [(50, uSame_orc)]
def uSameAll_book0  : Book := { Γ := gam, orc := orcsOf uSameAll_orcs, hint := hintsOf [(21, { keep := some [0, 1, 4, 5], keeps := [(4, [0, 1, 4, 5])], own := [], dat := [], stk := [] })] }
def uSameAll_l1_G (F : Nat) (nx : uSameAll_l1_T.T → ZO) (kq : ZK) (x : uSameAll_l1_T.T) : ZO := uSameAll_l1 F none (fun a b s4 i => nx ((a, (b, (s4, (i, ())))), (((), ()), ()))) (fun y0 y1 y2 y3 => kq .ret (uSameAll_l1_T.inst ((y0, (y1, (y2, (y3, ())))), (((), ()), ())))) (fun y0 y1 y2 y3 => kq (.exit 0) (uSameAll_l1_T.inst ((y0, (y1, (y2, (y3, ())))), (((), ()), ())))) x.1.1 x.1.2.1 x.1.2.2.1 x.1.2.2.2.1
def uSameAll_l1_R (F m : Nat) (x : uSameAll_l1_T.T) (kq : ZK) : ZO := uSameAll_l1F F none (fun y0 y1 y2 y3 => kq .ret (uSameAll_l1_T.inst ((y0, (y1, (y2, (y3, ())))), (((), ()), ())))) (fun y0 y1 y2 y3 => kq (.exit 0) (uSameAll_l1_T.inst ((y0, (y1, (y2, (y3, ())))), (((), ()), ())))) m x.1.1 x.1.2.1 x.1.2.2.1 x.1.2.2.2.1
def uSameAll_lo (F : Nat) : List (LoE Unit) := [⟨21, 4, LO.of uSameAll_l1_T (uSameAll_l1_R F F)⟩]
def uSameAll_book (F : Nat) : BookL Unit := { toBook := uSameAll_book0, lo := losOf (uSameAll_lo F), need := needsOf [] }
theorem uSameAll_l1_step (F : Nat) : LStep prog (uSameAll_book F) F 21 0 4 uSameAll_l1_T (uSameAll_l1_G F) := fun d x KQ => by kernel_rfl
theorem uSameAll_loOk (F : Nat) : LoOk prog (uSameAll_book F) F := loOk_of (l := uSameAll_lo F) rfl (fa (loOne_of 0 (by kernel_rfl) (by kernel_rfl) (lstep_run (uSameAll_l1_step F) (fun _ _ => rfl) (fun _ _ _ _ => rfl))) fz)
theorem uSameAll_run (F : Nat) (x : ArgsT uSameAll_ps) (kend : List BV → ZO) : runFnL prog (uSameAll_book F) F 20 21 (argsInst uSameAll_ps x) [.d .bool] kend = uSameAll F x.1 x.2.1 none (fun y0 => kend [BV.d .bool y0]) := by kernel_rfl
theorem uSameAll_contract  : Contract prog 21 uSameAll_orc := con_of (B0 := uSameAll_book0) bkN bkG mix_ok bkT uSameAll_run (orcsOf_ok (fa uSame_contract fz)) (by kernel_rfl) (fun _ => rfl) uSameAll_loOk (fun x h => (uSameAll_plain x.1 x.2.1 h).elim fun F hF => ⟨F, fun kend => hF none _⟩)
end Go.AI
namespace Go.AI
open Go
open Go.Proofs.Tryz (prog)
set_option linter.unusedVariables false
@[reducible] def pCommitted_ps  : List PM := [.d (.slc (.int .u8)), .d (.slc (.slc (.pair (.int .i64) (.pair (.slc (.int .u8)) .unit))))]
def pCommitted_orc  : Orc := Orc.of pCommitted_ps false 0 fun x => (pCommitted_P x.1 x.2.1, [.d (.pair (.slc (.arr 16 (.int .u8))) (.pair (.slc (.pair (.int .i64) (.pair (.arr 16 (.int .u8)) .unit))) .unit)) (pCommitted_r0 x.1 x.2.1), .d (.slc (.slc (.pair (.int .i64) (.pair (.slc (.int .u8)) .unit)))) (pCommitted_r1 x.1 x.2.1), .d .bool (pCommitted_r2 x.1 x.2.1)])
@[reducible] def pCommitted_l1_T  : Tpl := { cur := ⟨[(0, .var (.slc (.int .u8))), (3, .ptr 0 []), (0, .nils), (0, .var .bool), (0, .ptr 1 []), (2, .ptr 2 []), (3, .row 3), (35, .var (.slc (.slc (.pair (.int .i64) (.pair (.slc (.int .u8)) .unit))))), (0, .var (.int .i64)), (0, .var (.int .i64))], 32⟩, stk := [⟨[], 0⟩], heap := [.box (.var (.pair (.slc (.arr 16 (.int .u8))) (.pair (.slc (.pair (.int .i64) (.pair (.arr 16 (.int .u8)) .unit))) .unit))), .box (.var (.pair (.int .i64) (.pair (.int .i64) (.pair (.int .i64) .unit)))), .box (.var (.pair (.slc (.arr 16 (.int .u8))) (.pair (.slc (.pair (.int .i64) (.pair (.arr 16 (.int .u8)) .unit))) .unit))), .row 67 (.slc (.pair (.int .i64) (.pair (.slc (.int .u8)) .unit))) false] }
def pCommitted_orcs  : List (FuncId × Orc) := [(12, dRun_orc), (24, tCommit_orc), (31, dNew_orc), (32, lFormat_orc)]
def pCommitted_book0  : Book := { Γ := gam, orc := orcsOf pCommitted_orcs, hint := hintsOf [(18, { keep := some [0, 4, 5, 6, 7, 10, 14, 50, 51, 52], keeps := [(8, [0, 4, 5, 6, 7, 10, 14, 50, 51, 52])], own := [(14, 49)], dat := [], stk := [] })] }
def pCommitted_l1_G (F : Nat) (nx : pCommitted_l1_T.T → ZO) (kq : ZK) (x : pCommitted_l1_T.T) : ZO := pCommitted_l1 F none (fun key s6 s50 s51 s52 s4 x_ d_ done => nx ((key, ((), ((), (s6, ((), ((), ((), (s50, (s51, (s52, ())))))))))), (((), ()), (s4, (x_, (d_, (done, ()))))))) (fun y0 y1 y2 y3 y4 y5 y6 y7 y8 => kq .ret (pCommitted_l1_T.inst ((y0, ((), ((), (y1, ((), ((), ((), (y2, (y3, (y4, ())))))))))), (((), ()), (y5, (y6, (y7, (y8, ())))))))) (fun y0 y1 y2 y3 y4 y5 y6 y7 y8 => kq (.exit 0) (pCommitted_l1_T.inst ((y0, ((), ((), (y1, ((), ((), ((), (y2, (y3, (y4, ())))))))))), (((), ()), (y5, (y6, (y7, (y8, ())))))))) x.1.1 x.1.2.2.2.1 x.1.2.2.2.2.2.2.2.1 x.1.2.2.2.2.2.2.2.2.1 x.1.2.2.2.2.2.2.2.2.2.1 x.2.2.1 x.2.2.2.1 x.2.2.2.2.1 x.2.2.2.2.2.1
def pCommitted_l1_R (F m : Nat) (x : pCommitted_l1_T.T) (kq : ZK) : ZO := pCommitted_l1F F none (fun y0 y1 y2 y3 y4 y5 y6 y7 y8 => kq .ret (pCommitted_l1_T.inst ((y0, ((), ((), (y1, ((), ((), ((), (y2, (y3, (y4, ())))))))))), (((), ()), (y5, (y6, (y7, (y8, ())))))))) (fun y0 y1 y2 y3 y4 y5 y6 y7 y8 => kq (.exit 0) (pCommitted_l1_T.inst ((y0, ((), ((), (y1, ((), ((), ((), (y2, (y3, (y4, ())))))))))), (((), ()), (y5, (y6, (y7, (y8, ())))))))) m x.1.1 x.1.2.2.2.1 x.1.2.2.2.2.2.2.2.1 x.1.2.2.2.2.2.2.2.2.1 x.1.2.2.2.2.2.2.2.2.2.1 x.2.2.1 x.2.2.2.1 x.2.2.2.2.1 x.2.2.2.2.2.1
def pCommitted_lo (F : Nat) : List (LoE Unit) := [⟨18, 8, LO.of pCommitted_l1_T (pCommitted_l1_R F F)⟩]
def pCommitted_book (F : Nat) : BookL Unit := { toBook := pCommitted_book0, lo := losOf (pCommitted_lo F), need := needsOf [] }
theorem pCommitted_l1_step (F : Nat) : LStep prog (pCommitted_book F) F 18 0 8 pCommitted_l1_T (pCommitted_l1_G F) := fun d x KQ => by kernel_rfl
theorem pCommitted_loOk (F : Nat) : LoOk prog (pCommitted_book F) F := loOk_of (l := pCommitted_lo F) rfl (fa (loOne_of 0 (by kernel_rfl) (by kernel_rfl) (lstep_run (pCommitted_l1_step F) (fun _ _ => rfl) (fun _ _ _ _ => rfl))) fz)
theorem pCommitted_run (F : Nat) (x : ArgsT pCommitted_ps) (kend : List BV → ZO) : runFnL prog (pCommitted_book F) F 20 18 (argsInst pCommitted_ps x) [.d (.pair (.slc (.arr 16 (.int .u8))) (.pair (.slc (.pair (.int .i64) (.pair (.arr 16 (.int .u8)) .unit))) .unit)), .d (.slc (.slc (.pair (.int .i64) (.pair (.slc (.int .u8)) .unit)))), .d .bool] kend = pCommitted F x.1 x.2.1 none (fun y0 y1 y2 => kend [BV.d (.pair (.slc (.arr 16 (.int .u8))) (.pair (.slc (.pair (.int .i64) (.pair (.arr 16 (.int .u8)) .unit))) .unit)) y0, BV.d (.slc (.slc (.pair (.int .i64) (.pair (.slc (.int .u8)) .unit)))) y1, BV.d .bool y2]) := by kernel_rfl
theorem pCommitted_contract  : Contract prog 18 pCommitted_orc := con_of (B0 := pCommitted_book0) bkN bkG mix_ok bkT pCommitted_run (orcsOf_ok (fa dRun_contract (fa tCommit_contract (fa dNew_contract (fa lFormat_contract fz))))) (by kernel_rfl) (fun _ => rfl) pCommitted_loOk (fun x h => (pCommitted_plain x.1 x.2.1 h).elim fun F hF => ⟨F, fun kend => hF none _⟩)
@[reducible] def pFew_ps  : List PM := [.d (.slc (.slc (.pair (.int .i64) (.pair (.slc (.int .u8)) .unit))))]
def pFew_orc  : Orc := Orc.of pFew_ps true 0 fun x => (pFew_P x.1, [.d .bool (pFew_r x.1)])
@[reducible] def pFew_l1_T  : Tpl := { cur := ⟨[(0, .var (.slc (.slc (.pair (.int .i64) (.pair (.slc (.int .u8)) .unit))))), (1, .var .bool), (0, .var (.int .i64))], 19⟩, stk := [⟨[], 0⟩], heap := [] }
def pFew_orcs  : List (FuncId × Orc) := [(47, uFew_orc)]
def pFew_book0  : Book := { Γ := gam, orc := orcsOf pFew_orcs, hint := hintsOf [(17, { keep := some [0, 2, 3], keeps := [(2, [0, 2, 3])], own := [], dat := [], stk := [] })] }
def pFew_l1_G (F : Nat) (nx : pFew_l1_T.T → ZO) (kq : ZK) (x : pFew_l1_T.T) : ZO := pFew_l1 F none (fun l s2 i => nx ((l, (s2, (i, ()))), (((), ()), ()))) (fun y0 y1 y2 => kq .ret (pFew_l1_T.inst ((y0, (y1, (y2, ()))), (((), ()), ())))) (fun y0 y1 y2 => kq (.exit 0) (pFew_l1_T.inst ((y0, (y1, (y2, ()))), (((), ()), ())))) x.1.1 x.1.2.1 x.1.2.2.1
def pFew_l1_R (F m : Nat) (x : pFew_l1_T.T) (kq : ZK) : ZO := pFew_l1F F none (fun y0 y1 y2 => kq .ret (pFew_l1_T.inst ((y0, (y1, (y2, ()))), (((), ()), ())))) (fun y0 y1 y2 => kq (.exit 0) (pFew_l1_T.inst ((y0, (y1, (y2, ()))), (((), ()), ())))) m x.1.1 x.1.2.1 x.1.2.2.1
def pFew_lo (F : Nat) : List (LoE Unit) := [⟨17, 2, LO.of pFew_l1_T (pFew_l1_R F F)⟩]
def pFew_book (F : Nat) : BookL Unit := { toBook := pFew_book0, lo := losOf (pFew_lo F), need := needsOf [] }
theorem pFew_l1_step (F : Nat) : LStep prog (pFew_book F) F 17 0 2 pFew_l1_T (pFew_l1_G F) := fun d x KQ => by kernel_rfl
theorem pFew_loOk (F : Nat) : LoOk prog (pFew_book F) F := loOk_of (l := pFew_lo F) rfl (fa (loOne_of 0 (by kernel_rfl) (by kernel_rfl) (lstep_run (pFew_l1_step F) (fun _ _ => rfl) (fun _ _ _ _ => rfl))) fz)
theorem pFew_run (F : Nat) (x : ArgsT pFew_ps) (kend : List BV → ZO) : runFnL prog (pFew_book F) F 20 17 (argsInst pFew_ps x) [.d .bool] kend = pFew F x.1 none (fun y0 => kend [BV.d .bool y0]) := by kernel_rfl
theorem pFew_contract  : Contract prog 17 pFew_orc := con_of (B0 := pFew_book0) bkN bkG mix_ok bkT pFew_run (orcsOf_ok (fa uFew_contract fz)) (by kernel_rfl) (fun _ => rfl) pFew_loOk (fun x h => (pFew_plain x.1 h).elim fun F hF => ⟨F, fun kend => hF none _⟩)
@[reducible] def TopSealedTampered_ps  : List PM := [.d (.slc (.int .u8)), .d (.slc (.slc (.pair (.int .i64) (.pair (.slc (.int .u8)) .unit)))), .d (.arr 3 (.int .u8))]
def TopSealedTampered_orc  : Orc := Orc.of TopSealedTampered_ps true 0 fun x => (TopSealedTampered_P x.1 x.2.1 x.2.2.1, [.d .bool (TopSealedTampered_r x.1 x.2.1 x.2.2.1)])
def TopSealedTampered_orcs  : List (FuncId × Orc) := [(17, pFew_orc), (18, pCommitted_orc), (20, tReplay_orc), (21, uSameAll_orc)]
theorem TopSealedTampered_run (F : Nat) (x : ArgsT TopSealedTampered_ps) (kend : List BV → ZO) : runFnL prog (bkZ TopSealedTampered_orcs) F 20 5 (argsInst TopSealedTampered_ps x) [.d .bool] kend = TopSealedTampered F x.1 x.2.1 x.2.2.1 none (fun y0 => kend [BV.d .bool y0]) := by kernel_rfl
theorem TopSealedTampered_contract  : Contract prog 5 TopSealedTampered_orc := con_of (B0 := bkY TopSealedTampered_orcs) bkN bkG mix_ok bkT TopSealedTampered_run (orcsOf_ok (fa pFew_contract (fa pCommitted_contract (fa tReplay_contract (fa uSameAll_contract fz))))) (by kernel_rfl) (fun _ => rfl) (bkO _) (fun x h => (TopSealedTampered_plain x.1 x.2.1 x.2.2.1 h).elim fun F hF => ⟨F, fun kend => hF none _⟩)
end Go.AI
namespace Go.AI
open Go
abbrev raS : Sch := .slc (.slc (.pair (.int .i64) (.pair (.slc (.int .u8)) .unit)))
theorem TopSealedTampered_wf (x : LawT [.slc (.int .u8), raS, .arr 3 (.int .u8)]) (_ : WfArgs [.slc (.int .u8), raS, .arr 3 (.int .u8)] x) : TopSealedTampered_P x.1 x.2.1 x.2.2.1 = true := rfl
end Go.AI
