/- Texts of the proof, joined: Types WireM WireM2 DigestM DigestM2 CipherM CipherM2 DiskM LogR LogM TransM TransM4 TransM6 TransM2 TransM3 TopM2 TopM3 TopL4 TopW4. Names of our own are shortened by program; the long ones stand in wip/. -/
import Derived.Test.YtnmidfcefljafaaGreatProg
import Derived.Test.YtnmidfcefljafaaGreatQpA5
import Derived.KernelRfl
import Derived.Test.YtnmidfcefljafaaGreatQpWireP
import Derived.Test.YtnmidfcefljafaaGreatQpWireP2
import Derived.Test.YtnmidfcefljafaaGreatQpDigestP3
import Derived.Test.YtnmidfcefljafaaGreatQpDigestP4
import Derived.Test.YtnmidfcefljafaaGreatQpCipherP4
import Derived.Test.YtnmidfcefljafaaGreatQpDiskP3
import Derived.RecoverIn
import Derived.Tactics
import Derived.Tactics2
import Derived.TacticsInMore
import Derived.RegionIn
import Derived.Laws.Pointers
import Derived.Test.YtnmidfcefljafaaGreatQpLogP7
import Derived.Test.YtnmidfcefljafaaGreatQpTransP
import Derived.Test.YtnmidfcefljafaaGreatQpTransP2
import Derived.Test.YtnmidfcefljafaaGreatQpTransP5
import Derived.Test.YtnmidfcefljafaaGreatQpTopP2
import Derived.Test.YtnmidfcefljafaaGreatQpTopP3
import Derived.Test.YtnmidfcefljafaaGreatQpTopP4
set_option maxRecDepth 100000
namespace Go.AI
abbrev ZO := Option Unit
abbrev ZK := Jfw → ASt → ZO
end Go.AI
namespace Go.AI
open Go
def gam  : Gam := [
 none,
 some ⟨.func, 1, none, false⟩,
 some ⟨.other, 1, some (.int .i64), false⟩,
 some ⟨.other, 1, some (.int .i64), false⟩,
 some ⟨.other, 1, some .bool, false⟩,
 some ⟨.other, 1, some (.int .u8), false⟩,
 some ⟨.other, 1, some (.int .u8), false⟩,
 some ⟨(.struct [(0, 2), (1, 3), (2, 4), (3, 6)]), 4, some (.pair (.int .i64) (.pair (.int .i64) (.pair .bool (.pair (.int .u8) .unit)))), false⟩,
 some ⟨(.struct [(0, 2), (1, 3), (2, 4), (3, 6)]), 4, some (.pair (.int .i64) (.pair (.int .i64) (.pair .bool (.pair (.int .u8) .unit)))), false⟩,
 some ⟨.other, 1, some .str, false⟩,
 some ⟨.other, 1, some .str, false⟩,
 some ⟨.other, 1, some .str, false⟩,
 some ⟨.other, 1, some (.int .u64), false⟩,
 some ⟨(.struct [(0, 9), (1, 12)]), 2, some (.pair .str (.pair (.int .u64) .unit)), false⟩,
 some ⟨(.struct [(0, 9), (1, 12)]), 2, some (.pair .str (.pair (.int .u64) .unit)), false⟩,
 some ⟨(.ptr 258), 1, none, false⟩,
 some ⟨(.ptr 261), 1, none, false⟩,
 some ⟨(.ptr 270), 1, none, false⟩,
 some ⟨(.struct [(0, 17)]), 1, none, false⟩,
 some ⟨(.struct [(0, 17)]), 1, none, false⟩,
 some ⟨.other, 1, none, false⟩,
 some ⟨.other, 1, some (.int .i32), false⟩,
 some ⟨(.slice 32), 1, some (.slc (.slc (.int .u8))), false⟩,
 some ⟨(.slice 62), 1, some (.slc (.arr 16 (.int .u8))), false⟩,
 some ⟨.func, 1, none, false⟩,
 some ⟨(.slice 137), 1, some (.slc (.pair (.int .i64) (.pair (.arr 16 (.int .u8)) .unit))), false⟩,
 some ⟨(.struct [(0, 23), (1, 25)]), 2, some (.pair (.slc (.arr 16 (.int .u8))) (.pair (.slc (.pair (.int .i64) (.pair (.arr 16 (.int .u8)) .unit))) .unit)), false⟩,
 some ⟨(.struct [(0, 23), (1, 25)]), 2, some (.pair (.slc (.arr 16 (.int .u8))) (.pair (.slc (.pair (.int .i64) (.pair (.arr 16 (.int .u8)) .unit))) .unit)), false⟩,
 some ⟨(.struct [(0, 3), (1, 3), (2, 3)]), 3, some (.pair (.int .i64) (.pair (.int .i64) (.pair (.int .i64) .unit))), true⟩,
 some ⟨(.struct [(0, 3), (1, 3), (2, 3)]), 3, some (.pair (.int .i64) (.pair (.int .i64) (.pair (.int .i64) .unit))), true⟩,
 none,
 some ⟨.func, 1, none, false⟩,
 some ⟨(.slice 5), 1, some (.slc (.int .u8)), false⟩,
 some ⟨(.slice 40), 1, some (.slc (.pair (.int .i64) (.pair (.int .i64) (.pair (.slc (.arr 16 (.int .u8))) .unit)))), false⟩,
 some ⟨.other, 1, some (.int .i64), false⟩,
 none,
 some ⟨.func, 1, none, false⟩,
 none,
 some ⟨.func, 1, none, false⟩,
 some ⟨(.struct [(0, 3), (1, 3), (2, 23)]), 3, some (.pair (.int .i64) (.pair (.int .i64) (.pair (.slc (.arr 16 (.int .u8))) .unit))), false⟩,
 some ⟨(.struct [(0, 3), (1, 3), (2, 23)]), 3, some (.pair (.int .i64) (.pair (.int .i64) (.pair (.slc (.arr 16 (.int .u8))) .unit))), false⟩,
 none,
 some ⟨.func, 1, none, false⟩,
 none,
 some ⟨.func, 1, none, false⟩,
 none,
 some ⟨.func, 1, none, false⟩,
 some ⟨.func, 1, none, false⟩,
 some ⟨.func, 1, none, false⟩,
 some ⟨(.slice 67), 1, some (.slc (.slc (.pair (.int .i64) (.pair (.slc (.int .u8)) .unit)))), false⟩,
 some ⟨.func, 1, none, false⟩,
 none,
 some ⟨.func, 1, none, false⟩,
 some ⟨.func, 1, none, false⟩,
 none,
 some ⟨.func, 1, none, false⟩,
 some ⟨.func, 1, none, false⟩,
 none,
 some ⟨.func, 1, none, false⟩,
 some ⟨.func, 1, none, false⟩,
 some ⟨(.array 3 5), 3, some (.arr 3 (.int .u8)), true⟩,
 some ⟨(.array 16 5), 16, some (.arr 16 (.int .u8)), true⟩,
 some ⟨(.array 16 5), 16, some (.arr 16 (.int .u8)), true⟩,
 some ⟨.func, 1, none, false⟩,
 some ⟨(.slice 3), 1, some (.slc (.int .i64)), false⟩,
 some ⟨(.struct [(0, 32), (1, 64)]), 2, some (.pair (.slc (.int .u8)) (.pair (.slc (.int .i64)) .unit)), false⟩,
 some ⟨(.struct [(0, 32), (1, 64)]), 2, some (.pair (.slc (.int .u8)) (.pair (.slc (.int .i64)) .unit)), false⟩,
 some ⟨(.slice 84), 1, some (.slc (.pair (.int .i64) (.pair (.slc (.int .u8)) .unit))), false⟩,
 some ⟨.func, 1, none, false⟩,
 none,
 some ⟨.func, 1, none, false⟩,
 some ⟨.func, 1, none, false⟩,
 some ⟨(.slice 81), 1, some (.slc (.pair (.slc (.pair (.int .i64) (.pair (.slc (.int .u8)) .unit))) (.pair .bool (.pair (.int .u8) .unit)))), false⟩,
 some ⟨.func, 1, none, false⟩,
 some ⟨(.struct [(0, 27), (2, 29), (5, 49)]), 6, some (.pair (.pair (.slc (.arr 16 (.int .u8))) (.pair (.slc (.pair (.int .i64) (.pair (.arr 16 (.int .u8)) .unit))) .unit)) (.pair (.pair (.int .i64) (.pair (.int .i64) (.pair (.int .i64) .unit))) (.pair (.slc (.slc (.pair (.int .i64) (.pair (.slc (.int .u8)) .unit)))) .unit))), false⟩,
 some ⟨(.struct [(0, 27), (2, 29), (5, 49)]), 6, some (.pair (.pair (.slc (.arr 16 (.int .u8))) (.pair (.slc (.pair (.int .i64) (.pair (.arr 16 (.int .u8)) .unit))) .unit)) (.pair (.pair (.int .i64) (.pair (.int .i64) (.pair (.int .i64) .unit))) (.pair (.slc (.slc (.pair (.int .i64) (.pair (.slc (.int .u8)) .unit)))) .unit))), false⟩,
 none,
 some ⟨.func, 1, none, false⟩,
 none,
 some ⟨.func, 1, none, false⟩,
 some ⟨(.struct [(0, 67), (1, 4), (2, 5)]), 3, some (.pair (.slc (.pair (.int .i64) (.pair (.slc (.int .u8)) .unit))) (.pair .bool (.pair (.int .u8) .unit))), false⟩,
 some ⟨(.struct [(0, 67), (1, 4), (2, 5)]), 3, some (.pair (.slc (.pair (.int .i64) (.pair (.slc (.int .u8)) .unit))) (.pair .bool (.pair (.int .u8) .unit))), false⟩,
 some ⟨.func, 1, none, false⟩,
 some ⟨(.struct [(0, 3), (1, 32)]), 2, some (.pair (.int .i64) (.pair (.slc (.int .u8)) .unit)), false⟩,
 some ⟨(.struct [(0, 3), (1, 32)]), 2, some (.pair (.int .i64) (.pair (.slc (.int .u8)) .unit)), false⟩,
 none,
 some ⟨.func, 1, none, false⟩,
 some ⟨.func, 1, none, false⟩,
 some ⟨.func, 1, none, false⟩,
 some ⟨.func, 1, none, false⟩,
 some ⟨.func, 1, none, false⟩,
 some ⟨.func, 1, none, false⟩,
 some ⟨.func, 1, none, false⟩,
 some ⟨.func, 1, none, false⟩,
 some ⟨.func, 1, none, false⟩,
 some ⟨.func, 1, none, false⟩,
 some ⟨.func, 1, none, false⟩,
 some ⟨.func, 1, none, false⟩,
 some ⟨.func, 1, none, false⟩,
 some ⟨(.array 2 98), 2, none, false⟩,
 some ⟨.func, 1, none, false⟩,
 some ⟨(.ptr 27), 1, none, false⟩,
 some ⟨.func, 1, none, false⟩,
 some ⟨.func, 1, none, false⟩,
 some ⟨.func, 1, none, false⟩,
 some ⟨(.ptr 107), 1, none, false⟩,
 some ⟨(.struct [(0, 23)]), 1, some (.pair (.slc (.arr 16 (.int .u8))) .unit), false⟩,
 some ⟨(.struct [(0, 23)]), 1, some (.pair (.slc (.arr 16 (.int .u8))) .unit), false⟩,
 none,
 some ⟨.func, 1, none, false⟩,
 some ⟨.func, 1, none, false⟩,
 some ⟨.func, 1, none, false⟩,
 some ⟨.func, 1, none, false⟩,
 some ⟨.func, 1, none, false⟩,
 some ⟨.func, 1, none, false⟩,
 none,
 some ⟨.func, 1, none, false⟩,
 some ⟨.func, 1, none, false⟩,
 none,
 some ⟨.func, 1, none, false⟩,
 none,
 some ⟨.func, 1, none, false⟩,
 none,
 some ⟨.func, 1, none, false⟩,
 none,
 some ⟨.func, 1, none, false⟩,
 some ⟨.func, 1, none, false⟩,
 some ⟨.func, 1, none, false⟩,
 some ⟨.func, 1, none, false⟩,
 some ⟨.func, 1, none, false⟩,
 some ⟨.func, 1, none, false⟩,
 some ⟨.func, 1, none, false⟩,
 some ⟨.func, 1, none, false⟩,
 some ⟨.func, 1, none, false⟩,
 some ⟨.other, 1, some (.int .u32), false⟩,
 some ⟨.func, 1, none, false⟩,
 some ⟨(.struct [(0, 3), (1, 62)]), 17, some (.pair (.int .i64) (.pair (.arr 16 (.int .u8)) .unit)), true⟩,
 some ⟨(.struct [(0, 3), (1, 62)]), 17, some (.pair (.int .i64) (.pair (.arr 16 (.int .u8)) .unit)), true⟩,
 some ⟨.func, 1, none, false⟩,
 some ⟨.func, 1, none, false⟩,
 some ⟨.func, 1, none, false⟩,
 some ⟨(.struct []), 0, none, false⟩,
 some ⟨(.struct []), 0, none, false⟩,
 none,
 some ⟨.func, 1, none, false⟩,
 some ⟨.func, 1, none, false⟩,
 some ⟨.func, 1, none, false⟩,
 some ⟨.func, 1, none, false⟩,
 some ⟨.func, 1, none, false⟩,
 some ⟨.func, 1, none, false⟩,
 some ⟨(.ptr 32), 1, none, false⟩,
 some ⟨.func, 1, none, false⟩,
 some ⟨(.ptr 3), 1, none, false⟩,
 some ⟨.func, 1, none, false⟩,
 some ⟨.func, 1, none, false⟩,
 some ⟨.func, 1, none, false⟩,
 some ⟨.func, 1, none, false⟩,
 none,
 some ⟨.func, 1, none, false⟩,
 some ⟨(.array 32 5), 32, some (.arr 32 (.int .u8)), true⟩,
 some ⟨(.array 32 5), 32, some (.arr 32 (.int .u8)), true⟩,
 none,
 some ⟨.func, 1, none, false⟩,
 some ⟨.func, 1, none, false⟩,
 some ⟨.func, 1, none, false⟩,
 none,
 some ⟨.func, 1, none, false⟩,
 none,
 some ⟨.func, 1, none, false⟩,
 some ⟨.func, 1, none, false⟩,
 some ⟨.func, 1, none, false⟩,
 some ⟨.func, 1, none, false⟩,
 some ⟨.func, 1, none, false⟩,
 some ⟨.func, 1, none, false⟩,
 some ⟨.func, 1, none, false⟩,
 some ⟨.func, 1, none, false⟩,
 some ⟨(.map 3 23), 1, none, true⟩,
 none,
 some ⟨.func, 1, none, false⟩,
 some ⟨.func, 1, none, false⟩,
 some ⟨.func, 1, none, false⟩,
 some ⟨.func, 1, none, false⟩,
 some ⟨.other, 1, some (.int .u64), false⟩,
 some ⟨.func, 1, none, false⟩,
 some ⟨.func, 1, none, false⟩,
 none,
 some ⟨.func, 1, none, false⟩,
 some ⟨.func, 1, none, false⟩,
 none,
 some ⟨.func, 1, none, false⟩,
 some ⟨.func, 1, none, false⟩,
 none,
 some ⟨.func, 1, none, false⟩,
 some ⟨.func, 1, none, false⟩,
 some ⟨.func, 1, none, false⟩,
 some ⟨.func, 1, none, false⟩,
 some ⟨.func, 1, none, false⟩,
 some ⟨(.struct [(0, 196)]), 1, none, false⟩,
 some ⟨(.struct [(0, 196)]), 1, none, false⟩,
 some ⟨.func, 1, none, false⟩,
 some ⟨.func, 1, none, false⟩,
 some ⟨.func, 1, none, false⟩,
 some ⟨.func, 1, none, false⟩,
 some ⟨.func, 1, none, false⟩,
 some ⟨.func, 1, none, false⟩,
 some ⟨.func, 1, none, false⟩,
 some ⟨.func, 1, none, false⟩,
 some ⟨.func, 1, none, false⟩,
 some ⟨(.array 64 5), 64, some (.arr 64 (.int .u8)), true⟩,
 some ⟨.func, 1, none, false⟩,
 some ⟨(.slice 134), 1, some (.slc (.int .u32)), false⟩,
 some ⟨.func, 1, none, false⟩,
 some ⟨.func, 1, none, false⟩,
 some ⟨.func, 1, none, false⟩,
 some ⟨(.array 8 134), 8, some (.arr 8 (.int .u32)), true⟩,
 some ⟨(.struct [(0, 214), (8, 32), (9, 3)]), 10, some (.pair (.arr 8 (.int .u32)) (.pair (.slc (.int .u8)) (.pair (.int .i64) .unit))), false⟩,
 some ⟨(.struct [(0, 214), (8, 32), (9, 3)]), 10, some (.pair (.arr 8 (.int .u32)) (.pair (.slc (.int .u8)) (.pair (.int .i64) .unit))), false⟩,
 some ⟨.func, 1, none, false⟩,
 some ⟨.func, 1, none, false⟩,
 some ⟨(.array 16 134), 16, some (.arr 16 (.int .u32)), true⟩,
 some ⟨(.array 16 134), 16, some (.arr 16 (.int .u32)), true⟩,
 some ⟨.func, 1, none, false⟩,
 some ⟨(.array 256 134), 256, some (.arr 256 (.int .u32)), true⟩,
 some ⟨.func, 1, none, false⟩,
 some ⟨.func, 1, none, false⟩,
 some ⟨.func, 1, none, false⟩,
 some ⟨.other, 1, some (.int .u64), false⟩,
 some ⟨.func, 1, none, false⟩,
 none,
 some ⟨.func, 1, none, false⟩,
 some ⟨.func, 1, none, false⟩,
 some ⟨.other, 1, some (.int .u32), false⟩,
 some ⟨(.array 8 231), 8, some (.arr 8 (.int .u32)), true⟩,
 some ⟨(.array 8 231), 8, some (.arr 8 (.int .u32)), true⟩,
 some ⟨.func, 1, none, false⟩,
 some ⟨(.ptr 220), 1, none, false⟩,
 some ⟨.func, 1, none, false⟩,
 some ⟨.func, 1, none, false⟩,
 some ⟨.func, 1, none, false⟩,
 some ⟨.func, 1, none, false⟩,
 some ⟨.func, 1, none, false⟩,
 some ⟨.func, 1, none, false⟩,
 some ⟨.func, 1, none, false⟩,
 some ⟨.func, 1, none, false⟩,
 some ⟨.func, 1, none, false⟩,
 some ⟨.func, 1, none, false⟩,
 some ⟨(.struct [(0, 3), (1, 3), (2, 3), (3, 3)]), 4, some (.pair (.int .i64) (.pair (.int .i64) (.pair (.int .i64) (.pair (.int .i64) .unit)))), true⟩,
 some ⟨(.array 4 246), 16, some (.arr 4 (.pair (.int .i64) (.pair (.int .i64) (.pair (.int .i64) (.pair (.int .i64) .unit))))), true⟩,
 some ⟨.func, 1, none, false⟩,
 some ⟨(.array 64 134), 64, some (.arr 64 (.int .u32)), true⟩,
 some ⟨.func, 1, none, false⟩,
 some ⟨.func, 1, none, false⟩,
 some ⟨.func, 1, none, false⟩,
 some ⟨(.array 16 231), 16, some (.arr 16 (.int .u32)), true⟩,
 some ⟨(.array 64 231), 64, some (.arr 64 (.int .u32)), true⟩,
 some ⟨.func, 1, none, false⟩,
 some ⟨.func, 1, none, false⟩,
 some ⟨(.struct [(0, 17), (1, 17), (2, 17), (3, 9)]), 4, none, false⟩,
 some ⟨(.struct [(0, 17), (1, 17), (2, 17), (3, 9)]), 4, none, false⟩,
 some ⟨(.array 0 16), 0, none, false⟩,
 some ⟨(.struct [(0, 259)]), 0, none, false⟩,
 some ⟨(.struct [(0, 259)]), 0, none, false⟩,
 some ⟨.func, 1, none, false⟩,
 some ⟨.other, 1, some (.int .u8), false⟩,
 some ⟨.other, 1, some (.int .u8), false⟩,
 some ⟨.func, 1, none, false⟩,
 some ⟨(.ptr 5), 1, none, false⟩,
 some ⟨.other, 1, some (.int .i32), false⟩,
 some ⟨.other, 1, some (.int .i32), false⟩,
 some ⟨(.struct [(0, 12), (1, 12), (2, 134), (3, 263), (4, 5), (5, 5), (6, 264), (7, 265), (8, 266), (9, 267), (10, 268)]), 11, none, false⟩,
 some ⟨(.struct [(0, 12), (1, 12), (2, 134), (3, 263), (4, 5), (5, 5), (6, 264), (7, 265), (8, 266), (9, 267), (10, 268)]), 11, none, false⟩,
 some ⟨.other, 1, none, false⟩]
theorem Qa3  : gamB Go.Proofs.Tryz.prog gam = true := by kernel_rfl
theorem Qa4  : K5k Go.Proofs.Tryz.prog = true := by kernel_rfl
theorem Qa5  : Kxt Go.Proofs.Tryz.prog = true := by kernel_rfl
theorem Jax  : Go.Proofs.Tryz.prog.follows .mixedOrders = true := by kernel_rfl
theorem bkN  : Ktf Go.Proofs.Tryz.prog := Kxs Qa4
theorem bkG  : Jlx Go.Proofs.Tryz.prog := Ktm Qa5
theorem bkT  : Jca Go.Proofs.Tryz.prog gam := K67 Qa3
def bkY (l : List (FuncId × Orc)) : Book := { Γ := gam, orc := Jb2 l, hint := Jbd [] }
def bkZ (l : List (FuncId × Orc)) : Jcg Unit := { toBook := bkY l, lo := Jdn [], need := Jbe [] }
theorem bkO (l : List (FuncId × Orc)) (F : Nat) : Jjm Go.Proofs.Tryz.prog (bkZ l) F := Jbk (l := []) rfl fz
end Go.AI
namespace Go.AI
open Go
open Go.Proofs.Tryz (prog)
set_option linter.unusedVariables false
@[reducible] def Jo2  : List PM := [.d (.int .u64)]
def Jtg  : Orc := Orc.of Jo2 true 0 fun x => (Jl1 x.1, [.d (.int .i64) (Jqk x.1)])
def Jqu  : List (FuncId × Orc) := []
theorem J7c (F : Nat) (x : Jbb Jo2) (kend : List BV → ZO) : Jav prog (bkZ Jqu) F 20 152 (Jag Jo2 x) [.d (.int .i64)] kend = Jym F x.1 none (fun y0 => kend [BV.d (.int .i64) y0]) := by kernel_rfl
theorem Jup  : Jaf prog 152 Jtg := Jaz (B0 := bkY Jqu) bkN bkG Jax bkT J7c (Jae fz) (by kernel_rfl) (fun _ => rfl) (bkO _) (fun x h => (J00 x.1 h).elim fun F hF => ⟨F, fun kend => hF none _⟩)
@[reducible] def Jqv  : List PM := [.d (.int .u8)]
def Jw2  : Orc := Orc.of Jqv true 0 fun x => (true, [.d (.int .i64) (Jn7 x.1)])
def Jth  : List (FuncId × Orc) := []
theorem Kds (F : Nat) (x : Jbb Jqv) (kend : List BV → ZO) : Jav prog (bkZ Jth) F 20 131 (Jag Jqv x) [.d (.int .i64)] kend = J32 F x.1 none (fun y0 => kend [BV.d (.int .i64) y0]) := by kernel_rfl
theorem Jw3  : Jaf prog 131 Jw2 := Jaz (B0 := bkY Jth) bkN bkG Jax bkT Kds (Jae fz) (by kernel_rfl) (fun _ => rfl) (bkO _) (fun x _ => (J36 x.1).elim fun F hF => ⟨F, fun kend => hF none _⟩)
@[reducible] def Juq  : List PM := [.d (.int .u64)]
def J0a  : Orc := Orc.of Juq true 0 fun x => (Jr4 x.1, [.d (.int .i64) (Jr5 x.1)])
def Jw4  : List (FuncId × Orc) := [(152, Jtg)]
theorem Kia (F : Nat) (x : Jbb Juq) (kend : List BV → ZO) : Jav prog (bkZ Jw4) F 20 132 (Jag Juq x) [.d (.int .i64)] kend = Kbz F x.1 none (fun y0 => kend [BV.d (.int .i64) y0]) := by kernel_rfl
theorem Jyx  : Jaf prog 132 J0a := Jaz (B0 := bkY Jw4) bkN bkG Jax bkT Kia (Jae (fa Jup fz)) (by kernel_rfl) (fun _ => rfl) (bkO _) (fun x h => (J67 x.1 h).elim fun F hF => ⟨F, fun kend => hF none _⟩)
@[reducible] def Jfn  : List PM := [.d (.int .u8)]
def Jh5  : Orc := Orc.of Jfn true 0 fun x => (true, [.d (.int .i64) (Jay x.1)])
def Jhv  : List (FuncId × Orc) := [(131, Jw2)]
theorem Jp0 (F : Nat) (x : Jbb Jfn) (kend : List BV → ZO) : Jav prog (bkZ Jhv) F 20 109 (Jag Jfn x) [.d (.int .i64)] kend = Jhs F x.1 none (fun y0 => kend [BV.d (.int .i64) y0]) := by kernel_rfl
theorem Jk6  : Jaf prog 109 Jh5 := Jaz (B0 := bkY Jhv) bkN bkG Jax bkT Jp0 (Jae (fa Jw3 fz)) (by kernel_rfl) (fun _ => rfl) (bkO _) (fun x _ => (Jnc x.1).elim fun F hF => ⟨F, fun kend => hF none _⟩)
@[reducible] def Jmk  : List PM := [.d (.int .i64)]
def Jqw  : Orc := Orc.of Jmk true 0 fun x => (true, [.d (.int .i64) (Jbz x.1)])
def Jpl  : List (FuncId × Orc) := []
theorem J4g (F : Nat) (x : Jbb Jmk) (kend : List BV → ZO) : Jav prog (bkZ Jpl) F 20 142 (Jag Jmk x) [.d (.int .i64)] kend = J33 F x.1 none (fun y0 => kend [BV.d (.int .i64) y0]) := by kernel_rfl
theorem Js3  : Jaf prog 142 Jqw := Jaz (B0 := bkY Jpl) bkN bkG Jax bkT J4g (Jae fz) (by kernel_rfl) (fun _ => rfl) (bkO _) (fun x _ => (Jyr x.1).elim fun F hF => ⟨F, fun kend => hF none _⟩)
@[reducible] def Jk7  : List PM := [.d (.int .i64)]
def Jjd  : Orc := Orc.of Jk7 true 0 fun x => (Jdm x.1, [.d (.int .i64) (Jbf x.1)])
def Jne  : List (FuncId × Orc) := [(132, J0a)]
theorem J04 (F : Nat) (x : Jbb Jk7) (kend : List BV → ZO) : Jav prog (bkZ Jne) F 20 110 (Jag Jk7 x) [.d (.int .i64)] kend = Jqp F x.1 none (fun y0 => kend [BV.d (.int .i64) y0]) := by kernel_rfl
theorem Ji4  : Jaf prog 110 Jjd := Jaz (B0 := bkY Jne) bkN bkG Jax bkT J04 (Jae (fa Jyx fz)) (by kernel_rfl) (fun _ => rfl) (bkO _) (fun x h => (Jwt x.1 h).elim fun F hF => ⟨F, fun kend => hF none _⟩)
@[reducible] def Jo3  : List PM := [.d (.slc (.int .u8))]
def Jfb  : Orc := Orc.of Jo3 true 1 fun x => (Jbh x.1, [.o 5 (.int .u8) (Jb7 x.1)])
def Jqx  : List (FuncId × Orc) := []
theorem J7d (F : Nat) (x : Jbb Jo3) (kend : List BV → ZO) : Jav prog (bkZ Jqx) F 20 111 (Jag Jo3 x) [.o 5 (.int .u8)] kend = J9a F x.1 none Jmm (fun y0 => kend [BV.o 5 (.int .u8) y0]) := by kernel_rfl
theorem Jdr  : Jaf prog 111 Jfb := Jaz (B0 := bkY Jqx) bkN bkG Jax bkT J7d (Jae fz) (by kernel_rfl) (fun _ => rfl) (bkO _) (fun x h => (J01 x.1 h).elim fun F hF => ⟨F, fun kend => hF none Jmm Jv5 _⟩)
@[reducible] def Jur  : List PM := [.o 5 (.int .u8), .d (.int .i64)]
def Jqy  : Orc := Orc.of Jur true 1 fun x => (Jka x.1 x.2.1, [.o 5 (.int .u8) (Jmv x.1 x.2.1)])
@[reducible] def Jex  : Tpl := { cur := ⟨[(0, .row 0), (0, .var (.int .i64)), (5, .var (.int .i64))], 32⟩, stk := [⟨[], 0⟩], heap := [.row 5 (.int .u8) false] }
def Kdt  : List (FuncId × Orc) := [(110, Jjd), (142, Jqw)]
def Jti  : Book := { Γ := gam, orc := Jb2 Kdt, hint := Jbd [(124, { keep := some [0, 1, 7], keeps := [(6, [0, 1, 7])], own := [], dat := [], stk := [] })] }
def Kdu (F : Nat) (nx : Jex.T → ZO) (kq : ZK) (x : Jex.T) : ZO := Jol F none (fun n i dst => nx (((), (n, (i, ()))), (((), ()), (dst, ())))) (fun y0 y1 y2 => kq (.exit 0) (Jex.inst (((), (y0, (y1, ()))), (((), ()), (y2, ()))))) x.1.2.1 x.1.2.2.1 x.2.2.1
def Kdv (F m : Nat) (x : Jex.T) (kq : ZK) : ZO := Jg9 F none (fun y0 y1 y2 => kq (.exit 0) (Jex.inst (((), (y0, (y1, ()))), (((), ()), (y2, ()))))) m x.1.2.1 x.1.2.2.1 x.2.2.1
def J4h (F : Nat) : List (LoE Unit) := [⟨124, 6, LO.of Jex (Kdv F F)⟩]
def Jo4 (F : Nat) : Jcg Unit := { toBook := Jti, lo := Jdn (J4h F), need := Jbe [] }
theorem J05 (F : Nat) : Jco prog (Jo4 F) F 124 0 6 Jex (Kdu F) := fun d x KQ => by kernel_rfl
theorem Kdw (F : Nat) : Jjm prog (Jo4 F) F := Jbk (l := J4h F) rfl (fa (Jaw 0 (by kernel_rfl) (by kernel_rfl) (Jak (J05 F) (fun _ _ => rfl) (fun _ _ _ _ => rfl))) fz)
theorem Kib (F : Nat) (x : Jbb Jur) (kend : List BV → ZO) : Jav prog (Jo4 F) F 20 124 (Jag Jur x) [.o 5 (.int .u8)] kend = Kb0 F x.1 x.2.1 none (fun y0 => kend [BV.o 5 (.int .u8) y0]) := by kernel_rfl
theorem Jnf  : Jaf prog 124 Jqy := Jaz (B0 := Jti) bkN bkG Jax bkT Kib (Jae (fa Ji4 (fa Js3 fz))) (by kernel_rfl) (fun _ => rfl) Kdw (fun x h => (J68 x.1 x.2.1 h).elim fun F hF => ⟨F, fun kend => hF none _⟩)
@[reducible] def Jml  : List PM := [.d (.slc (.int .u8)), .d (.int .i64)]
def Jqz  : Orc := Orc.of Jml true 1 fun x => (Jfz x.1 x.2.1, [.o 5 (.int .u8) (Jjq x.1 x.2.1)])
def Jpm  : List (FuncId × Orc) := [(111, Jfb), (124, Jqy)]
theorem J4i (F : Nat) (x : Jbb Jml) (kend : List BV → ZO) : Jav prog (bkZ Jpm) F 20 94 (Jag Jml x) [.o 5 (.int .u8)] kend = Jui F x.1 x.2.1 none (fun y0 => kend [BV.o 5 (.int .u8) y0]) := by kernel_rfl
theorem Js4  : Jaf prog 94 Jqz := Jaz (B0 := bkY Jpm) bkN bkG Jax bkT J4i (Jae (fa Jdr (fa Jnf fz))) (by kernel_rfl) (fun _ => rfl) (bkO _) (fun x h => (Jys x.1 x.2.1 h).elim fun F hF => ⟨F, fun kend => hF none _⟩)
@[reducible] def Jo5  : List PM := [.d (.slc (.int .u8))]
def Jq0  : Orc := Orc.of Jo5 false 0 fun x => (Jei x.1, [.d (.int .i64) (Jap x.1), .d (.slc (.int .u8)) (Jam x.1), .d (.int .i64) (Ja9 x.1)])
@[reducible] def Jey  : Tpl := { cur := ⟨[(0, .var (.slc (.int .u8))), (4, .var (.int .i64)), (0, .var (.int .i64)), (26, .var (.slc (.int .u8))), (0, .var (.int .i64)), (0, .var (.int .i64))], 23⟩, stk := [⟨[], 0⟩], heap := [] }
def Kdx  : List (FuncId × Orc) := [(109, Jh5), (110, Jjd), (111, Jfb)]
def Jtj  : Book := { Γ := gam, orc := Jb2 Kdx, hint := Jbd [(77, { keep := some [0, 5, 6, 33, 34, 35], keeps := [(10, [0, 5, 6, 33, 34, 35])], own := [], dat := [], stk := [] })] }
def Kdy (F : Nat) (nx : Jey.T → ZO) (kq : ZK) (x : Jey.T) : ZO := Jom F none (fun src k n s33 s34 s35 => nx ((src, (k, (n, (s33, (s34, (s35, ())))))), (((), ()), ()))) (fun y0 y1 y2 y3 y4 y5 => kq (.exit 0) (Jey.inst ((y0, (y1, (y2, (y3, (y4, (y5, ())))))), (((), ()), ())))) x.1.1 x.1.2.1 x.1.2.2.1 x.1.2.2.2.1 x.1.2.2.2.2.1 x.1.2.2.2.2.2.1
def Kdz (F m : Nat) (x : Jey.T) (kq : ZK) : ZO := Jha F none (fun y0 y1 y2 y3 y4 y5 => kq (.exit 0) (Jey.inst ((y0, (y1, (y2, (y3, (y4, (y5, ())))))), (((), ()), ())))) m x.1.1 x.1.2.1 x.1.2.2.1 x.1.2.2.2.1 x.1.2.2.2.2.1 x.1.2.2.2.2.2.1
def J4j (F : Nat) : List (LoE Unit) := [⟨77, 10, LO.of Jey (Kdz F F)⟩]
def Jo6 (F : Nat) : Jcg Unit := { toBook := Jtj, lo := Jdn (J4j F), need := Jbe [] }
theorem J06 (F : Nat) : Jco prog (Jo6 F) F 77 0 10 Jey (Kdy F) := fun d x KQ => by kernel_rfl
theorem Kd0 (F : Nat) : Jjm prog (Jo6 F) F := Jbk (l := J4j F) rfl (fa (Jaw 0 (by kernel_rfl) (by kernel_rfl) (Jak (J06 F) (fun _ _ => rfl) (fun _ _ _ _ => rfl))) fz)
theorem Kic (F : Nat) (x : Jbb Jo5) (kend : List BV → ZO) : Jav prog (Jo6 F) F 20 77 (Jag Jo5 x) [.d (.int .i64), .d (.slc (.int .u8)), .d (.int .i64)] kend = Kb1 F x.1 none (fun y0 y1 y2 => kend [BV.d (.int .i64) y0, BV.d (.slc (.int .u8)) y1, BV.d (.int .i64) y2]) := by kernel_rfl
theorem Jng  : Jaf prog 77 Jq0 := Jaz (B0 := Jtj) bkN bkG Jax bkT Kic (Jae (fa Jk6 (fa Ji4 (fa Jdr fz)))) (by kernel_rfl) (fun _ => rfl) Kd0 (fun x h => (J69 x.1 h).elim fun F hF => ⟨F, fun kend => hF none _⟩)
end Go.AI
namespace Go.AI
open Go
open Go.Proofs.Tryz (prog)
set_option linter.unusedVariables false
@[reducible] def Jje  : List PM := [.d (.slc (.int .u8)), .d (.slc (.int .u8))]
def Jnh  : Orc := Orc.of Jje true 1 fun x => (Jej x.1 x.2.1, [.o 5 (.int .u8) (Jhp x.1 x.2.1)])
@[reducible] def Jcl  : Tpl := { cur := ⟨[(1, .row 0), (1, .ptr 1 []), (10, .var (.slc (.int .u8))), (0, .var (.int .i64)), (0, .var (.int .i64))], 10⟩, stk := [⟨[], 9⟩, ⟨[], 0⟩], heap := [.row 5 (.int .u8) false, .box (.pr (.fn 125 (.un)) (.var .unit))] }
def Jw5  : List (FuncId × Orc) := [(111, Jfb), (124, Jqy)]
def Jk8  : Book := { Γ := gam, orc := Jb2 Jw5, hint := Jbd [(126, { keep := some [1, 3, 14, 15, 16], keeps := [(3, [1, 3, 14, 15, 16])], own := [], dat := [], stk := [[]] })] }
def Jw6 (F : Nat) (nx : Jcl.T → ZO) (kq : ZK) (x : Jcl.T) : ZO := Jgc F none (fun s14 s15 s16 dst => nx (((), ((), (s14, (s15, (s16, ()))))), (((), ((), ())), (dst, (((), ()), ()))))) (fun y0 y1 y2 y3 => kq (.exit 0) (Jcl.inst (((), ((), (y0, (y1, (y2, ()))))), (((), ((), ())), (y3, (((), ()), ())))))) x.1.2.2.1 x.1.2.2.2.1 x.1.2.2.2.2.1 x.2.2.1
def Jw7 (F m : Nat) (x : Jcl.T) (kq : ZK) : ZO := Jdp F none (fun y0 y1 y2 y3 => kq (.exit 0) (Jcl.inst (((), ((), (y0, (y1, (y2, ()))))), (((), ((), ())), (y3, (((), ()), ())))))) m x.1.2.2.1 x.1.2.2.2.1 x.1.2.2.2.2.1 x.2.2.1
def Jpn (F : Nat) : List (LoE Unit) := [⟨126, 3, LO.of Jcl (Jw7 F F)⟩]
def Jhw (F : Nat) : Jcg Unit := { toBook := Jk8, lo := Jdn (Jpn F), need := Jbe [(126, 1)] }
theorem Jq1 (F : Nat) : Jco prog (Jhw F) F 126 0 3 Jcl (Jw6 F) := fun d x KQ => by kernel_rfl
theorem Jw8 (F : Nat) : Jjm prog (Jhw F) F := Jbk (l := Jpn F) rfl (fa (Jaw 0 (by kernel_rfl) (by kernel_rfl) (Jak (Jq1 F) (fun _ _ => rfl) (fun _ _ _ _ => rfl))) fz)
theorem Jyy (F : Nat) (x : Jbb Jje) (kend : List BV → ZO) : Jav prog (Jhw F) F 20 96 (Jag Jje x) [.o 5 (.int .u8)] kend = Jon F x.1 x.2.1 none (fun y0 => kend [BV.o 5 (.int .u8) y0]) := by kernel_rfl
theorem Jp1  : Jaf prog 96 Jnh := Jaz (B0 := Jk8) bkN bkG Jax bkT Jyy (Jae (fa Jdr (fa Jnf fz))) (by kernel_rfl) (fun _ => rfl) Jw8 (fun x h => (Jun x.1 x.2.1 h).elim fun F hF => ⟨F, fun kend => hF none _⟩)
@[reducible] def Jj5  : List PM := [.d (.slc (.int .u8))]
def Jtk  : Orc := Orc.of Jj5 false 0 fun x => (Jfj x.1, [.d (.slc (.int .u8)) (Jd3 x.1), .d (.slc (.int .u8)) (Jd4 x.1), .d (.int .i64) (Jcj x.1)])
def Jq2  : List (FuncId × Orc) := [(77, Jq0), (111, Jfb)]
theorem J7e (F : Nat) (x : Jbb Jj5) (kend : List BV → ZO) : Jav prog (bkZ Jq2) F 20 80 (Jag Jj5 x) [.d (.slc (.int .u8)), .d (.slc (.int .u8)), .d (.int .i64)] kend = Jyn F x.1 none (fun y0 y1 y2 => kend [BV.d (.slc (.int .u8)) y0, BV.d (.slc (.int .u8)) y1, BV.d (.int .i64) y2]) := by kernel_rfl
theorem Jus  : Jaf prog 80 Jtk := Jaz (B0 := bkY Jq2) bkN bkG Jax bkT J7e (Jae (fa Jng (fa Jdr fz))) (by kernel_rfl) (fun _ => rfl) (bkO _) (fun x h => (J02 x.1 h).elim fun F hF => ⟨F, fun kend => hF none _⟩)
end Go.AI
namespace Go.AI
open Go
open Go.Proofs.Tryz (prog)
set_option linter.unusedVariables false
@[reducible] def Knr  : List PM := [.d (.int .u32), .d (.int .i64)]
def Kd1  : Orc := Orc.of Knr true 0 fun x => (Jtc x.1 x.2.1, [.d (.int .u32) (J3t x.1 x.2.1)])
def Kid  : List (FuncId × Orc) := []
theorem K4z (F : Nat) (x : Jbb Knr) (kend : List BV → ZO) : Jav prog (bkZ Kid) F 20 169 (Jag Knr x) [.d (.int .u32)] kend = rotr F x.1 x.2.1 none (fun y0 => kend [BV.d (.int .u32) y0]) := by kernel_rfl
theorem Jw9  : Jaf prog 169 Kd1 := Jaz (B0 := bkY Kid) bkN bkG Jax bkT K4z (Jae fz) (by kernel_rfl) (fun _ => rfl) (bkO _) (fun x h => (Kt2 x.1 x.2.1 h).elim fun F hF => ⟨F, fun kend => hF none _⟩)
@[reducible] def K0l  : List PM := [.d (.int .u32), .d (.int .i64)]
def K0m  : Orc := Orc.of K0l true 0 fun x => (K3q x.1 x.2.1, [.d (.int .u32) (K7h x.1 x.2.1)])
def Ksl  : List (FuncId × Orc) := []
theorem K84 (F : Nat) (x : Jbb K0l) (kend : List BV → ZO) : Jav prog (bkZ Ksl) F 20 177 (Jag K0l x) [.d (.int .u32)] kend = shr F x.1 x.2.1 none (fun y0 => kend [BV.d (.int .u32) y0]) := by kernel_rfl
theorem Kie  : Jaf prog 177 K0m := Jaz (B0 := bkY Ksl) bkN bkG Jax bkT K84 (Jae fz) (by kernel_rfl) (fun _ => rfl) (bkO _) (fun x h => (Ky3 x.1 x.2.1 h).elim fun F hF => ⟨F, fun kend => hF none _⟩)
def Kif  : List (FuncId × Orc) := [(169, Kd1)]
def Jxa  : Book := { Γ := gam, orc := Jb2 Kif, hint := Jbd [] }
def J9o (F : Nat) : List (LoE Unit) := []
def Jq3 (F : Nat) : Jcg Unit := { toBook := Jxa, lo := Jdn (J9o F), need := Jbe [] }
theorem Kig (F : Nat) : Jjm prog (Jq3 F) F := Jbk (l := J9o F) rfl fz
theorem Kns (F : Nat) (x_ : UInt32) (a b c : Int) (kend : List BV → ZO) : Jav prog (Jq3 F) F 20 168 [.d (.int .u32) x_, .d (.int .i64) a, .d (.int .i64) b, .d (.int .i64) c, .f 169] [.d (.int .u32)] kend = Kl9 F x_ a b c none (fun y0 => kend [BV.d (.int .u32) y0]) := by kernel_rfl
theorem Jpo  : Jaf prog 168 (Orc.of [.d (.int .u32), .d (.int .i64), .d (.int .i64), .d (.int .i64), .f] true 0 fun x => ((Nat.beq x.2.2.2.2.1 169) && Jfi x.1 x.2.1 x.2.2.1 x.2.2.2.1 x.2.2.2.2.1, [.d (.int .u32) (Jd9 x.1 x.2.1 x.2.2.1 x.2.2.2.1 x.2.2.2.2.1)])) := Jdy (B0 := Jxa) bkN bkG Jax bkT (Jae (fa Jw9 fz)) (by kernel_rfl) (fun x h => by
 obtain ⟨x0, x1, x2, x3, x4, _⟩ := x
 simp only [Bool.and_eq_true] at h
 obtain ⟨e, h⟩ := h
 have e := Nat.eq_of_beq_eq_true e
 subst e
 obtain ⟨F, hF⟩ := Kcm x0 x1 x2 x3 h
 exact ⟨F, 20, Jq3 F, rfl, Kig F, fun kend => (Kns F x0 x1 x2 x3 kend).trans (hF none (fun y0 => kend [BV.d (.int .u32) y0]))⟩)
def Kih  : List (FuncId × Orc) := [(169, Kd1), (177, K0m)]
def Jxb  : Book := { Γ := gam, orc := Jb2 Kih, hint := Jbd [] }
def J9p (F : Nat) : List (LoE Unit) := []
def Jq4 (F : Nat) : Jcg Unit := { toBook := Jxb, lo := Jdn (J9p F), need := Jbe [] }
theorem Kii (F : Nat) : Jjm prog (Jq4 F) F := Jbk (l := J9p F) rfl fz
theorem Knt (F : Nat) (x_ : UInt32) (a b c : Int) (kend : List BV → ZO) : Jav prog (Jq4 F) F 20 168 [.d (.int .u32) x_, .d (.int .i64) a, .d (.int .i64) b, .d (.int .i64) c, .f 177] [.d (.int .u32)] kend = Kma F x_ a b c none (fun y0 => kend [BV.d (.int .u32) y0]) := by kernel_rfl
theorem J07  : Jaf prog 168 (Orc.of [.d (.int .u32), .d (.int .i64), .d (.int .i64), .d (.int .i64), .f] true 0 fun x => ((Nat.beq x.2.2.2.2.1 177) && Jfi x.1 x.2.1 x.2.2.1 x.2.2.2.1 x.2.2.2.2.1, [.d (.int .u32) (Jd9 x.1 x.2.1 x.2.2.1 x.2.2.2.1 x.2.2.2.2.1)])) := Jdy (B0 := Jxb) bkN bkG Jax bkT (Jae (fa Jw9 (fa Kie fz))) (by kernel_rfl) (fun x h => by
 obtain ⟨x0, x1, x2, x3, x4, _⟩ := x
 simp only [Bool.and_eq_true] at h
 obtain ⟨e, h⟩ := h
 have e := Nat.eq_of_beq_eq_true e
 subst e
 obtain ⟨F, hF⟩ := Kcn x0 x1 x2 x3 h
 exact ⟨F, 20, Jq4 F, rfl, Kii F, fun kend => (Knt F x0 x1 x2 x3 kend).trans (hF none (fun y0 => kend [BV.d (.int .u32) y0]))⟩)
def Kij  : Orc := Orc.of [.d (.int .u32), .d (.int .i64), .d (.int .i64), .d (.int .i64), .f] true 0 fun x => ((Nat.beq x.2.2.2.2.1 169 || Nat.beq x.2.2.2.2.1 177) && Jfi x.1 x.2.1 x.2.2.1 x.2.2.2.1 x.2.2.2.2.1, [.d (.int .u32) (Jd9 x.1 x.2.1 x.2.2.1 x.2.2.2.1 x.2.2.2.2.1)])
theorem J7f  : Jaf prog 168 Kij := Jio Jpo.1 (fun x h => by
 obtain ⟨x0, x1, x2, x3, x4, _⟩ := x
 simp only [Bool.and_eq_true, Bool.or_eq_true] at h
 obtain ⟨e, _⟩ := h
 rcases e with e | e
 ·have e := Nat.eq_of_beq_eq_true e
  subst e
  exact ⟨_, Jpo, rfl⟩
 ·have e := Nat.eq_of_beq_eq_true e
  subst e
  exact ⟨_, J07, rfl⟩)
@[reducible] def J4k  : List PM := []
def J9q  : Orc := Orc.of J4k true 0 fun x => (J1z, [.d (.arr 64 (.int .u32)) (Kbq)])
def J4l  : List (FuncId × Orc) := []
theorem Kus (F : Nat) (x : Jbb J4k) (kend : List BV → ZO) : Jav prog (bkZ J4l) F 20 176 (Jag J4k x) [.d (.arr 64 (.int .u32))] kend = K5t F  none (fun y0 => kend [BV.d (.arr 64 (.int .u32)) y0]) := by kernel_rfl
theorem J4m  : Jaf prog 176 J9q := Jaz (B0 := bkY J4l) bkN bkG Jax bkT Kus (Jae fz) (by kernel_rfl) (fun _ => rfl) (bkO _) (fun x h => (Kg3  h).elim fun F hF => ⟨F, fun kend => hF none _⟩)
@[reducible] def J4n  : List PM := [.d (.arr 8 (.int .u32)), .d (.slc (.int .u8))]
def J9r  : Orc := Orc.of J4n true 0 fun x => (Jv8 x.1 x.2.1, [.d (.arr 8 (.int .u32)) (Kbr x.1 x.2.1)])
@[reducible] def Jgn  : Tpl := { cur := ⟨[(0, .hnd .yield 0), (0, .ptr 2 []), (1, .ptr 3 []), (0, .var (.int .i64)), (0, .var (.int .u32)), (4, .var (.arr 64 (.int .u32))), (0, .var (.int .i64)), (11, .var (.slc (.int .u8))), (0, .var (.int .i64)), (0, .var (.int .i64))], 50⟩, stk := [⟨[(0, .hnd .yield 0)], 0⟩, ⟨[(2, .ptr 4 []), (1, .ptr 5 []), (0, .ptr 1 [])], 78⟩, ⟨[], 0⟩], heap := [.lp 160 3 ⟨[(5, .ptr 1 [])], 78⟩ .ready, .box (.var (.arr 8 (.int .u32))), .box (.var (.slc (.int .u8))), .box (.var (.arr 16 (.int .u32))), .box (.var (.arr 8 (.int .u32))), .box (.var (.arr 8 (.int .u32)))] }
@[reducible] def Jgo  : Tpl := { cur := ⟨[(0, .hnd .yield 0), (0, .ptr 2 []), (1, .ptr 3 []), (6, .var (.arr 64 (.int .u32))), (0, .var (.int .i64))], 64⟩, stk := [⟨[(0, .hnd .yield 0)], 0⟩, ⟨[(2, .ptr 4 []), (1, .ptr 5 []), (0, .ptr 1 [])], 78⟩, ⟨[], 0⟩], heap := [.lp 160 3 ⟨[(5, .ptr 1 [])], 78⟩ .ready, .box (.var (.arr 8 (.int .u32))), .box (.var (.slc (.int .u8))), .box (.var (.arr 16 (.int .u32))), .box (.var (.arr 8 (.int .u32))), .box (.var (.arr 8 (.int .u32)))] }
@[reducible] def Jgp  : Tpl := { cur := ⟨[(2, .ptr 0 []), (1, .ptr 1 []), (0, .ptr 2 []), (65, .var (.int .i64))], 12⟩, stk := [⟨[], 0⟩], heap := [.box (.var (.arr 8 (.int .u32))), .box (.var (.arr 8 (.int .u32))), .box (.var (.arr 8 (.int .u32)))] }
def Knu  : List (FuncId × Orc) := [(168, Kij), (176, J9q)]
def J0b  : Book := { Γ := gam, orc := Jb2 Knu, hint := Jbd [(160, { keep := some [2, 4, 5, 71], keeps := [(9, [2, 4, 5, 71])], own := [], dat := [], stk := [] }), (175, { keep := some [0, 1, 3, 4, 5, 10, 11, 23, 24, 25], keeps := [(2, [0, 1, 3, 10, 11]), (6, [0, 1, 3, 4, 5, 10, 11, 23, 24, 25])], own := [], dat := [], stk := [[0], [2, 4, 5, 6, 7, 8, 9, 10, 15, 21]] })] }
def Knv (F : Nat) (nx : Jgn.T → ZO) (kq : ZK) (x : Jgn.T) : ZO := Jwh F none (fun i k s10 s11 s23 s24 s25 x_ s1 w s s4 => nx (((), ((), ((), (i, (k, (s10, (s11, (s23, (s24, (s25, ())))))))))), ((((), ()), (((), ((), ((), ()))), ((), ()))), (((), ()), (x_, (s1, (w, (s, (s4, ()))))))))) (fun y0 y1 y2 y3 y4 y5 y6 y7 y8 y9 y10 y11 => kq (.exit 2) (Jgn.inst (((), ((), ((), (y0, (y1, (y2, (y3, (y4, (y5, (y6, ())))))))))), ((((), ()), (((), ((), ((), ()))), ((), ()))), (((), ()), (y7, (y8, (y9, (y10, (y11, ())))))))))) x.1.2.2.2.1 x.1.2.2.2.2.1 x.1.2.2.2.2.2.1 x.1.2.2.2.2.2.2.1 x.1.2.2.2.2.2.2.2.1 x.1.2.2.2.2.2.2.2.2.1 x.1.2.2.2.2.2.2.2.2.2.1 x.2.2.2.1 x.2.2.2.2.1 x.2.2.2.2.2.1 x.2.2.2.2.2.2.1 x.2.2.2.2.2.2.2.1
def Knw (F m : Nat) (x : Jgn.T) (kq : ZK) : ZO := Jg8 F none (fun y0 y1 y2 y3 y4 y5 y6 y7 y8 y9 y10 y11 => kq (.exit 2) (Jgn.inst (((), ((), ((), (y0, (y1, (y2, (y3, (y4, (y5, (y6, ())))))))))), ((((), ()), (((), ((), ((), ()))), ((), ()))), (((), ()), (y7, (y8, (y9, (y10, (y11, ())))))))))) m x.1.2.2.2.1 x.1.2.2.2.2.1 x.1.2.2.2.2.2.1 x.1.2.2.2.2.2.2.1 x.1.2.2.2.2.2.2.2.1 x.1.2.2.2.2.2.2.2.2.1 x.1.2.2.2.2.2.2.2.2.2.1 x.2.2.2.1 x.2.2.2.2.1 x.2.2.2.2.2.1 x.2.2.2.2.2.2.1 x.2.2.2.2.2.2.2.1
def Knx (F : Nat) (nx : Jgo.T → ZO) (kq : ZK) (x : Jgo.T) : ZO := Jwi F none (fun s10 s11 x_ s1 w s s4 => nx (((), ((), ((), (s10, (s11, ()))))), ((((), ()), (((), ((), ((), ()))), ((), ()))), (((), ()), (x_, (s1, (w, (s, (s4, ()))))))))) (fun y0 y1 y2 y3 y4 y5 y6 => kq (.exit 0) (Jgo.inst (((), ((), ((), (y0, (y1, ()))))), ((((), ()), (((), ((), ((), ()))), ((), ()))), (((), ()), (y2, (y3, (y4, (y5, (y6, ())))))))))) x.1.2.2.2.1 x.1.2.2.2.2.1 x.2.2.2.1 x.2.2.2.2.1 x.2.2.2.2.2.1 x.2.2.2.2.2.2.1 x.2.2.2.2.2.2.2.1
def Kny (F m : Nat) (x : Jgo.T) (kq : ZK) : ZO := Jkg F none (fun y0 y1 y2 y3 y4 y5 y6 => kq (.exit 0) (Jgo.inst (((), ((), ((), (y0, (y1, ()))))), ((((), ()), (((), ((), ((), ()))), ((), ()))), (((), ()), (y2, (y3, (y4, (y5, (y6, ())))))))))) m x.1.2.2.2.1 x.1.2.2.2.2.1 x.2.2.2.1 x.2.2.2.2.1 x.2.2.2.2.2.1 x.2.2.2.2.2.2.1 x.2.2.2.2.2.2.2.1
def Knz (F : Nat) (nx : Jgp.T → ZO) (kq : ZK) (x : Jgp.T) : ZO := Kgr F none (fun s71 s s4 x_ => nx (((), ((), ((), (s71, ())))), (((), ()), (s, (s4, (x_, ())))))) (fun y0 y1 y2 y3 => kq (.exit 2) (Jgp.inst (((), ((), ((), (y0, ())))), (((), ()), (y1, (y2, (y3, ()))))))) x.1.2.2.2.1 x.2.2.1 x.2.2.2.1 x.2.2.2.2.1
def Kn0 (F m : Nat) (x : Jgp.T) (kq : ZK) : ZO := Jm4 F none (fun y0 y1 y2 y3 => kq (.exit 2) (Jgp.inst (((), ((), ((), (y0, ())))), (((), ()), (y1, (y2, (y3, ()))))))) m x.1.2.2.2.1 x.2.2.1 x.2.2.2.1 x.2.2.2.2.1
def Kik (F : Nat) : List (LoE Unit) := [⟨175, 6, LO.of Jgn (Knw F F)⟩,
 ⟨175, 2, LO.of Jgo (Kny F F)⟩,
 ⟨160, 9, LO.of Jgp (Kn0 F F)⟩]
def Jk9 (F : Nat) : Jcg Unit := { toBook := J0b, lo := Jdn (Kik F), need := Jbe [(175, 1)] }
theorem J7g (F : Nat) : Jco prog (Jk9 F) F 175 1 6 Jgn (Knv F) := fun d x KQ => by kernel_rfl
theorem J7h (F : Nat) : Jco prog (Jk9 F) F 175 0 2 Jgo (Knx F) := fun d x KQ => by kernel_rfl
theorem J7i (F : Nat) : Jco prog (Jk9 F) F 160 0 9 Jgp (Knz F) := fun d x KQ => by kernel_rfl
theorem Kn1 (F : Nat) : Jjm prog (Jk9 F) F := Jbk (l := Kik F) rfl (fa (Jaw 1 (by kernel_rfl) (by kernel_rfl) (Jak (J7g F) (fun _ _ => rfl) (fun _ _ _ _ => rfl))) (fa (Jaw 0 (by kernel_rfl) (by kernel_rfl) (Jak (J7h F) (fun _ _ => rfl) (fun _ _ _ _ => rfl))) (fa (Jaw 0 (by kernel_rfl) (by kernel_rfl) (Jak (J7i F) (fun _ _ => rfl) (fun _ _ _ _ => rfl))) fz)))
theorem Kut (F : Nat) (x : Jbb J4n) (kend : List BV → ZO) : Jav prog (Jk9 F) F 20 160 (Jag J4n x) [.d (.arr 8 (.int .u32))] kend = Kx9 F x.1 x.2.1 none (fun y0 => kend [BV.d (.arr 8 (.int .u32)) y0]) := by kernel_rfl
theorem J4o  : Jaf prog 160 J9r := Jaz (B0 := J0b) bkN bkG Jax bkT Kut (Jae (fa J7f (fa J4m fz))) (by kernel_rfl) (fun _ => rfl) Kn1 (fun x h => (Kg7 x.1 x.2.1 h).elim fun F hF => ⟨F, fun kend => hF none _⟩)
@[reducible] def Kn2  : List PM := []
def Kd2  : Orc := Orc.of Kn2 false 0 fun x => (Jz2, [.d (.pair (.arr 8 (.int .u32)) (.pair (.slc (.int .u8)) (.pair (.int .i64) .unit))) (Jf5)])
def Kil  : List (FuncId × Orc) := []
theorem K40 (F : Nat) (x : Jbb Kn2) (kend : List BV → ZO) : Jav prog (bkZ Kil) F 20 145 (Jag Kn2 x) [.d (.pair (.arr 8 (.int .u32)) (.pair (.slc (.int .u8)) (.pair (.int .i64) .unit)))] kend = hNew F  none (fun y0 => kend [BV.d (.pair (.arr 8 (.int .u32)) (.pair (.slc (.int .u8)) (.pair (.int .i64) .unit))) y0]) := by kernel_rfl
theorem Jxc  : Jaf prog 145 Kd2 := Jaz (B0 := bkY Kil) bkN bkG Jax bkT K40 (Jae fz) (by kernel_rfl) (fun _ => rfl) (bkO _) (fun x h => (Kt3  h).elim fun F hF => ⟨F, fun kend => hF none _⟩)
@[reducible] def J4p  : List PM := [.d (.pair (.arr 8 (.int .u32)) (.pair (.slc (.int .u8)) (.pair (.int .i64) .unit))), .d (.slc (.int .u8))]
def Jsv  : Orc := Orc.of J4p false 0 fun x => (Jd2 x.1 x.2.1, [.d (.pair (.arr 8 (.int .u32)) (.pair (.slc (.int .u8)) (.pair (.int .i64) .unit))) (Jcs x.1 x.2.1)])
@[reducible] def Jgq  : Tpl := { cur := ⟨[(1, .var (.slc (.int .u8))), (0, .ptr 0 []), (1, .ptr 1 []), (0, .ptr 2 []), (7, .var (.arr 8 (.int .u32))), (0, .var (.int .i64))], 45⟩, stk := [⟨[], 0⟩], heap := [.box (.var (.pair (.arr 8 (.int .u32)) (.pair (.slc (.int .u8)) (.pair (.int .i64) .unit)))), .box (.var (.pair (.arr 8 (.int .u32)) (.pair (.slc (.int .u8)) (.pair (.int .i64) .unit)))), .box (.var (.arr 8 (.int .u32)))] }
@[reducible] def Jgr  : Tpl := { cur := ⟨[(1, .var (.slc (.int .u8))), (0, .ptr 0 []), (1, .ptr 1 []), (0, .ptr 2 []), (2, .var (.slc (.int .u8)))], 51⟩, stk := [⟨[], 0⟩], heap := [.box (.var (.pair (.arr 8 (.int .u32)) (.pair (.slc (.int .u8)) (.pair (.int .i64) .unit)))), .box (.var (.pair (.arr 8 (.int .u32)) (.pair (.slc (.int .u8)) (.pair (.int .i64) .unit)))), .box (.var (.arr 8 (.int .u32)))] }
@[reducible] def Jgs  : Tpl := { cur := ⟨[(4, .ptr 0 []), (4, .ptr 1 []), (39, .var (.arr 8 (.int .u32))), (0, .var (.int .i64))], 9⟩, stk := [⟨[], 0⟩], heap := [.box (.var (.pair (.arr 8 (.int .u32)) (.pair (.slc (.int .u8)) (.pair (.int .i64) .unit)))), .box (.pr (.var (.arr 8 (.int .u32))) (.pr (.row 2) (.var (.pair (.int .i64) .unit)))), .row 5 (.int .u8) false] }
def Kn3  : List (FuncId × Orc) := [(160, J9r)]
def J0c  : Book := { Γ := gam, orc := Jb2 Kn3, hint := Jbd [(144, { keep := some [1, 2, 4, 5, 8, 9, 13, 14, 49, 50], keeps := [(3, [1, 2, 4, 5, 13, 14]), (8, [1, 2, 4, 5, 8]), (13, [4, 9, 49, 50])], own := [], dat := [], stk := [] })] }
def Kn4 (F : Nat) (nx : Jgq.T → ZO) (kq : ZK) (x : Jgq.T) : ZO := Kgs F none (fun b s13 s14 h s4 s => nx ((b, ((), ((), ((), (s13, (s14, ())))))), (((), ()), (h, (s4, (s, ())))))) (fun y0 y1 y2 y3 y4 y5 => kq (.exit 0) (Jgq.inst ((y0, ((), ((), ((), (y1, (y2, ())))))), (((), ()), (y3, (y4, (y5, ()))))))) x.1.1 x.1.2.2.2.2.1 x.1.2.2.2.2.2.1 x.2.2.1 x.2.2.2.1 x.2.2.2.2.1
def Kn5 (F m : Nat) (x : Jgq.T) (kq : ZK) : ZO := Jsa F none (fun y0 y1 y2 y3 y4 y5 => kq (.exit 0) (Jgq.inst ((y0, ((), ((), ((), (y1, (y2, ())))))), (((), ()), (y3, (y4, (y5, ()))))))) m x.1.1 x.1.2.2.2.2.1 x.1.2.2.2.2.2.1 x.2.2.1 x.2.2.2.1 x.2.2.2.2.1
def Kn6 (F : Nat) (nx : Jgr.T → ZO) (kq : ZK) (x : Jgr.T) : ZO := Jwj F none (fun b all h s4 s => nx ((b, ((), ((), ((), (all, ()))))), (((), ()), (h, (s4, (s, ())))))) (fun y0 y1 y2 y3 y4 => kq (.exit 2) (Jgr.inst ((y0, ((), ((), ((), (y1, ()))))), (((), ()), (y2, (y3, (y4, ()))))))) x.1.1 x.1.2.2.2.2.1 x.2.2.1 x.2.2.2.1 x.2.2.2.2.1
def Kn7 (F m : Nat) (x : Jgr.T) (kq : ZK) : ZO := Jkh F none (fun y0 y1 y2 y3 y4 => kq (.exit 2) (Jgr.inst ((y0, ((), ((), ((), (y1, ()))))), (((), ()), (y2, (y3, (y4, ()))))))) m x.1.1 x.1.2.2.2.2.1 x.2.2.1 x.2.2.2.1 x.2.2.2.2.1
def Kn8 (F : Nat) (nx : Jgs.T → ZO) (kq : ZK) (x : Jgs.T) : ZO := Kgt F none (fun s49 s50 s4 out out1 h2 => nx (((), ((), (s49, (s50, ())))), (((), ()), (s4, ((out, ((), out1)), (h2, ())))))) (fun y0 y1 y2 y3 y4 y5 => kq (.exit 4) (Jgs.inst (((), ((), (y0, (y1, ())))), (((), ()), (y2, ((y3, ((), y4)), (y5, ()))))))) x.1.2.2.1 x.1.2.2.2.1 x.2.2.1 x.2.2.2.1.1 x.2.2.2.1.2.2 x.2.2.2.2.1
def Kn9 (F m : Nat) (x : Jgs.T) (kq : ZK) : ZO := Jsb F none (fun y0 y1 y2 y3 y4 y5 => kq (.exit 4) (Jgs.inst (((), ((), (y0, (y1, ())))), (((), ()), (y2, ((y3, ((), y4)), (y5, ()))))))) m x.1.2.2.1 x.1.2.2.2.1 x.2.2.1 x.2.2.2.1.1 x.2.2.2.1.2.2 x.2.2.2.2.1
def Kim (F : Nat) : List (LoE Unit) := [⟨144, 3, LO.of Jgq (Kn5 F F)⟩,
 ⟨144, 8, LO.of Jgr (Kn7 F F)⟩,
 ⟨144, 13, LO.of Jgs (Kn9 F F)⟩]
def Jla (F : Nat) : Jcg Unit := { toBook := J0c, lo := Jdn (Kim F), need := Jbe [] }
theorem J7j (F : Nat) : Jco prog (Jla F) F 144 0 3 Jgq (Kn4 F) := fun d x KQ => by kernel_rfl
theorem J7k (F : Nat) : Jco prog (Jla F) F 144 1 8 Jgr (Kn6 F) := fun d x KQ => by kernel_rfl
theorem J7l (F : Nat) : Jco prog (Jla F) F 144 2 13 Jgs (Kn8 F) := fun d x KQ => by kernel_rfl
theorem Koa (F : Nat) : Jjm prog (Jla F) F := Jbk (l := Kim F) rfl (fa (Jaw 0 (by kernel_rfl) (by kernel_rfl) (Jak (J7j F) (fun _ _ => rfl) (fun _ _ _ _ => rfl))) (fa (Jaw 1 (by kernel_rfl) (by kernel_rfl) (Jak (J7k F) (fun _ _ => rfl) (fun _ _ _ _ => rfl))) (fa (Jaw 2 (by kernel_rfl) (by kernel_rfl) (Jak (J7l F) (fun _ _ => rfl) (fun _ _ _ _ => rfl))) fz)))
theorem Kuu (F : Nat) (x : Jbb J4p) (kend : List BV → ZO) : Jav prog (Jla F) F 20 144 (Jag J4p x) [.d (.pair (.arr 8 (.int .u32)) (.pair (.slc (.int .u8)) (.pair (.int .i64) .unit)))] kend = Kya F x.1 x.2.1 none (fun y0 => kend [BV.d (.pair (.arr 8 (.int .u32)) (.pair (.slc (.int .u8)) (.pair (.int .i64) .unit))) y0]) := by kernel_rfl
theorem Jlb  : Jaf prog 144 Jsv := Jaz (B0 := J0c) bkN bkG Jax bkT Kuu (Jae (fa J4o fz)) (by kernel_rfl) (fun _ => rfl) Koa (fun x h => (Kg8 x.1 x.2.1 h).elim fun F hF => ⟨F, fun kend => hF none _⟩)
@[reducible] def Jyz  : List PM := [.d (.pair (.arr 8 (.int .u32)) (.pair (.slc (.int .u8)) (.pair (.int .i64) .unit)))]
def Jut  : Orc := Orc.of Jyz true 0 fun x => (Jf8 x.1, [.d (.arr 32 (.int .u8)) (Jiy x.1)])
@[reducible] def Jfo  : Tpl := { cur := ⟨[(1, .ptr 0 []), (0, .ptr 1 []), (0, .row 2), (0, .var (.int .i64))], 52⟩, stk := [⟨[], 0⟩], heap := [.box (.var (.pair (.arr 8 (.int .u32)) (.pair (.slc (.int .u8)) (.pair (.int .i64) .unit)))), .box (.var (.arr 32 (.int .u8))), .row 5 (.int .u8) false] }
@[reducible] def Jfp  : Tpl := { cur := ⟨[(2, .ptr 0 []), (2, .ptr 1 []), (0, .var (.int .i64)), (0, .var (.int .u32)), (27, .var (.arr 8 (.int .u32))), (0, .var (.int .i64)), (3, .var (.int .i64))], 16⟩, stk := [⟨[], 0⟩], heap := [.box (.var (.arr 32 (.int .u8))), .box (.var (.arr 32 (.int .u8)))] }
@[reducible] def Jfq  : Tpl := { cur := ⟨[(2, .ptr 0 []), (2, .ptr 1 []), (29, .var (.arr 8 (.int .u32))), (0, .var (.int .i64))], 20⟩, stk := [⟨[], 0⟩], heap := [.box (.var (.arr 32 (.int .u8))), .box (.var (.arr 32 (.int .u8)))] }
def Kin  : List (FuncId × Orc) := [(144, Jsv)]
def Jxd  : Book := { Γ := gam, orc := Jb2 Kin, hint := Jbd [(143, { keep := some [1, 2, 3, 4, 5, 6, 7, 35, 36, 40], keeps := [(4, [1, 2, 3, 4]), (9, [2, 5, 35, 36]), (12, [2, 5, 6, 7, 35, 36, 40])], own := [], dat := [], stk := [] })] }
def Kio (F : Nat) (nx : Jfo.T → ZO) (kq : ZK) (x : Jfo.T) : ZO := Jsc F none (fun shift h s2 pad => nx (((), ((), ((), (shift, ())))), (((), ()), (h, (s2, (pad, ())))))) (fun y0 y1 y2 y3 => kq (.exit 0) (Jfo.inst (((), ((), ((), (y0, ())))), (((), ()), (y1, (y2, (y3, ()))))))) x.1.2.2.2.1 x.2.2.1 x.2.2.2.1 x.2.2.2.2.1
def Kip (F m : Nat) (x : Jfo.T) (kq : ZK) : ZO := Jfk F none (fun y0 y1 y2 y3 => kq (.exit 0) (Jfo.inst (((), ((), ((), (y0, ())))), (((), ()), (y1, (y2, (y3, ()))))))) m x.1.2.2.2.1 x.2.2.1 x.2.2.2.1 x.2.2.2.2.1
def Kiq (F : Nat) (nx : Jfp.T → ZO) (kq : ZK) (x : Jfp.T) : ZO := J88 F none (fun i x_ s35 s36 s40 s2 out => nx (((), ((), (i, (x_, (s35, (s36, (s40, ()))))))), (((), ()), (s2, (out, ()))))) (fun y0 y1 y2 y3 y4 y5 y6 => kq (.exit 4) (Jfp.inst (((), ((), (y0, (y1, (y2, (y3, (y4, ()))))))), (((), ()), (y5, (y6, ())))))) x.1.2.2.1 x.1.2.2.2.1 x.1.2.2.2.2.1 x.1.2.2.2.2.2.1 x.1.2.2.2.2.2.2.1 x.2.2.1 x.2.2.2.1
def Kir (F m : Nat) (x : Jfp.T) (kq : ZK) : ZO := Juh F none (fun y0 y1 y2 y3 y4 y5 y6 => kq (.exit 4) (Jfp.inst (((), ((), (y0, (y1, (y2, (y3, (y4, ()))))))), (((), ()), (y5, (y6, ())))))) m x.1.2.2.1 x.1.2.2.2.1 x.1.2.2.2.2.1 x.1.2.2.2.2.2.1 x.1.2.2.2.2.2.2.1 x.2.2.1 x.2.2.2.1
def Kis (F : Nat) (nx : Jfq.T → ZO) (kq : ZK) (x : Jfq.T) : ZO := J89 F none (fun s35 s36 s2 out => nx (((), ((), (s35, (s36, ())))), (((), ()), (s2, (out, ()))))) (fun y0 y1 y2 y3 => kq (.exit 2) (Jfq.inst (((), ((), (y0, (y1, ())))), (((), ()), (y2, (y3, ())))))) x.1.2.2.1 x.1.2.2.2.1 x.2.2.1 x.2.2.2.1
def Kit (F m : Nat) (x : Jfq.T) (kq : ZK) : ZO := Jok F none (fun y0 y1 y2 y3 => kq (.exit 2) (Jfq.inst (((), ((), (y0, (y1, ())))), (((), ()), (y2, (y3, ())))))) m x.1.2.2.1 x.1.2.2.2.1 x.2.2.1 x.2.2.2.1
def J9s (F : Nat) : List (LoE Unit) := [⟨143, 4, LO.of Jfo (Kip F F)⟩,
 ⟨143, 12, LO.of Jfp (Kir F F)⟩,
 ⟨143, 9, LO.of Jfq (Kit F F)⟩]
def Ji5 (F : Nat) : Jcg Unit := { toBook := Jxd, lo := Jdn (J9s F), need := Jbe [] }
theorem J4q (F : Nat) : Jco prog (Ji5 F) F 143 0 4 Jfo (Kio F) := fun d x KQ => by kernel_rfl
theorem J4r (F : Nat) : Jco prog (Ji5 F) F 143 2 12 Jfp (Kiq F) := fun d x KQ => by kernel_rfl
theorem J4s (F : Nat) : Jco prog (Ji5 F) F 143 1 9 Jfq (Kis F) := fun d x KQ => by kernel_rfl
theorem Kiu (F : Nat) : Jjm prog (Ji5 F) F := Jbk (l := J9s F) rfl (fa (Jaw 0 (by kernel_rfl) (by kernel_rfl) (Jak (J4q F) (fun _ _ => rfl) (fun _ _ _ _ => rfl))) (fa (Jaw 2 (by kernel_rfl) (by kernel_rfl) (Jak (J4r F) (fun _ _ => rfl) (fun _ _ _ _ => rfl))) (fa (Jaw 1 (by kernel_rfl) (by kernel_rfl) (Jak (J4s F) (fun _ _ => rfl) (fun _ _ _ _ => rfl))) fz)))
theorem Kob (F : Nat) (x : Jbb Jyz) (kend : List BV → ZO) : Jav prog (Ji5 F) F 20 143 (Jag Jyz x) [.d (.arr 32 (.int .u8))] kend = Kmb F x.1 none (fun y0 => kend [BV.d (.arr 32 (.int .u8)) y0]) := by kernel_rfl
theorem Jpp  : Jaf prog 143 Jut := Jaz (B0 := Jxd) bkN bkG Jax bkT Kob (Jae (fa Jlb fz)) (by kernel_rfl) (fun _ => rfl) Kiu (fun x h => (Kcq x.1 h).elim fun F hF => ⟨F, fun kend => hF none _⟩)
@[reducible] def Koc  : List PM := [.d (.slc (.int .u8))]
def Ksm  : Orc := Orc.of Koc true 0 fun x => (Kgo x.1, [.d (.arr 32 (.int .u8)) (Jtd x.1)])
def Kiv  : List (FuncId × Orc) := [(143, Jut), (144, Jsv), (145, Kd2)]
theorem K41 (F : Nat) (x : Jbb Koc) (kend : List BV → ZO) : Jav prog (bkZ Kiv) F 20 161 (Jag Koc x) [.d (.arr 32 (.int .u8))] kend = dSum F x.1 none (fun y0 => kend [BV.d (.arr 32 (.int .u8)) y0]) := by kernel_rfl
theorem Kd3  : Jaf prog 161 Ksm := Jaz (B0 := bkY Kiv) bkN bkG Jax bkT K41 (Jae (fa Jpp (fa Jlb (fa Jxc fz)))) (by kernel_rfl) (fun _ => rfl) (bkO _) (fun x h => (Kt4 x.1 h).elim fun F hF => ⟨F, fun kend => hF none _⟩)
end Go.AI
namespace Go.AI
open Go
open Go.Proofs.Tryz (prog)
set_option linter.unusedVariables false
@[reducible] def J4t  : List PM := [.d (.slc (.int .u8)), .d (.int .u8)]
def J9t  : Orc := Orc.of J4t true 1 fun x => (Jr3 x.1 x.2.1, [.o 5 (.int .u8) (Jeb x.1 x.2.1)])
@[reducible] def Jgt  : Tpl := { cur := ⟨[(1, .var (.int .u8)), (4, .row 0), (12, .var (.int .i64)), (0, .var (.int .i64))], 11⟩, stk := [⟨[], 0⟩], heap := [.row 5 (.int .u8) false] }
def Kod  : List (FuncId × Orc) := [(161, Ksm)]
def J0d  : Book := { Γ := gam, orc := Jb2 Kod, hint := Jbd [(146, { keep := some [1, 6, 19, 20], keeps := [(7, [1, 6, 19, 20])], own := [], dat := [], stk := [] })] }
def Koe (F : Nat) (nx : Jgt.T → ZO) (kq : ZK) (x : Jgt.T) : ZO := Jwk F none (fun by_ s19 s20 out => nx ((by_, ((), (s19, (s20, ())))), (((), ()), (out, ())))) (fun y0 y1 y2 y3 => kq (.exit 0) (Jgt.inst ((y0, ((), (y1, (y2, ())))), (((), ()), (y3, ()))))) x.1.1 x.1.2.2.1 x.1.2.2.2.1 x.2.2.1
def Kof (F m : Nat) (x : Jgt.T) (kq : ZK) : ZO := Jif F none (fun y0 y1 y2 y3 => kq (.exit 0) (Jgt.inst ((y0, ((), (y1, (y2, ())))), (((), ()), (y3, ()))))) m x.1.1 x.1.2.2.1 x.1.2.2.2.1 x.2.2.1
def Kiw (F : Nat) : List (LoE Unit) := [⟨146, 7, LO.of Jgt (Kof F F)⟩]
def Juu (F : Nat) : Jcg Unit := { toBook := J0d, lo := Jdn (Kiw F), need := Jbe [] }
theorem J7m (F : Nat) : Jco prog (Juu F) F 146 0 7 Jgt (Koe F) := fun d x KQ => by kernel_rfl
theorem Kog (F : Nat) : Jjm prog (Juu F) F := Jbk (l := Kiw F) rfl (fa (Jaw 0 (by kernel_rfl) (by kernel_rfl) (Jak (J7m F) (fun _ _ => rfl) (fun _ _ _ _ => rfl))) fz)
theorem Kuv (F : Nat) (x : Jbb J4t) (kend : List BV → ZO) : Jav prog (Juu F) F 20 146 (Jag J4t x) [.o 5 (.int .u8)] kend = Kyb F x.1 x.2.1 none (fun y0 => kend [BV.o 5 (.int .u8) y0]) := by kernel_rfl
theorem J4u  : Jaf prog 146 J9t := Jaz (B0 := J0d) bkN bkG Jax bkT Kuv (Jae (fa Kd3 fz)) (by kernel_rfl) (fun _ => rfl) Kog (fun x h => (Khf x.1 x.2.1 h).elim fun F hF => ⟨F, fun kend => hF none _⟩)
@[reducible] def Koh  : List PM := [.d (.slc (.int .u8)), .d (.slc (.int .u8))]
def J2i  : Orc := Orc.of Koh true 0 fun x => (Jqj x.1 x.2.1, [.d (.arr 32 (.int .u8)) (Jz3 x.1 x.2.1)])
def Kix  : List (FuncId × Orc) := [(143, Jut), (144, Jsv), (145, Kd2), (146, J9t)]
theorem K42 (F : Nat) (x : Jbb Koh) (kend : List BV → ZO) : Jav prog (bkZ Kix) F 20 127 (Jag Koh x) [.d (.arr 32 (.int .u8))] kend = dMac F x.1 x.2.1 none (fun y0 => kend [BV.d (.arr 32 (.int .u8)) y0]) := by kernel_rfl
theorem Jo7  : Jaf prog 127 J2i := Jaz (B0 := bkY Kix) bkN bkG Jax bkT K42 (Jae (fa Jpp (fa Jlb (fa Jxc (fa J4u fz))))) (by kernel_rfl) (fun _ => rfl) (bkO _) (fun x h => (Kt7 x.1 x.2.1 h).elim fun F hF => ⟨F, fun kend => hF none _⟩)
end Go.AI
namespace Go.AI
open Go
open Go.Proofs.Tryz (prog)
set_option linter.unusedVariables false
@[reducible] def Kd4  : List PM := [.d (.int .u32), .d (.int .i64)]
def Kiy  : Orc := Orc.of Kd4 true 0 fun x => (Jyf x.1 x.2.1, [.d (.int .u32) (J3u x.1 x.2.1)])
def J9u  : List (FuncId × Orc) := []
theorem K0n (F : Nat) (x : Jbb Kd4) (kend : List BV → ZO) : Jav prog (bkZ J9u) F 20 170 (Jag Kd4 x) [.d (.int .u32)] kend = K7p F x.1 x.2.1 none (fun y0 => kend [BV.d (.int .u32) y0]) := by kernel_rfl
theorem J7n  : Jaf prog 170 Kiy := Jaz (B0 := bkY J9u) bkN bkG Jax bkT K0n (Jae fz) (by kernel_rfl) (fun _ => rfl) (bkO _) (fun x h => (Km2 x.1 x.2.1 h).elim fun F hF => ⟨F, fun kend => hF none _⟩)
@[reducible] def J4v  : List PM := [.d (.arr 32 (.int .u8)), .d (.int .i64), .d (.int .i64)]
def J9v  : Orc := Orc.of J4v true 0 fun x => (J10 x.1 x.2.1 x.2.2.1, [.d (.arr 16 (.int .u32)) (J11 x.1 x.2.1 x.2.2.1)])
@[reducible] def Jgu  : Tpl := { cur := ⟨[(1, .var (.int .i64)), (0, .var (.int .i64)), (0, .ptr 0 []), (2, .ptr 1 []), (0, .ptr 2 []), (0, .var (.int .i64)), (2, .var (.int .i64)), (2, .var (.int .i64))], 31⟩, stk := [⟨[], 0⟩], heap := [.box (.var (.arr 32 (.int .u8))), .box (.var (.arr 16 (.int .u32))), .box (.var (.arr 16 (.int .u32)))] }
@[reducible] def Jgv  : Tpl := { cur := ⟨[(1, .var (.int .i64)), (0, .var (.int .i64)), (0, .ptr 0 []), (2, .ptr 1 []), (0, .ptr 2 []), (3, .var (.int .i64))], 34⟩, stk := [⟨[], 0⟩], heap := [.box (.var (.arr 32 (.int .u8))), .box (.var (.arr 16 (.int .u32))), .box (.var (.arr 16 (.int .u32)))] }
def Koi  : List (FuncId × Orc) := []
def J0e  : Book := { Γ := gam, orc := Jb2 Koi, hint := Jbd [(147, { keep := some [1, 2, 3, 6, 7, 8, 11, 14], keeps := [(3, [1, 2, 3, 6, 7, 11]), (6, [1, 2, 3, 6, 7, 8, 11, 14])], own := [], dat := [], stk := [] })] }
def Koj (F : Nat) (nx : Jgu.T → ZO) (kq : ZK) (x : Jgu.T) : ZO := Jwl F none (fun nonce counter i s11 s14 key s6 w => nx ((nonce, (counter, ((), ((), ((), (i, (s11, (s14, ())))))))), (((), ()), (key, (s6, (w, ())))))) (fun y0 y1 y2 y3 y4 y5 y6 y7 => kq (.exit 2) (Jgu.inst ((y0, (y1, ((), ((), ((), (y2, (y3, (y4, ())))))))), (((), ()), (y5, (y6, (y7, ()))))))) x.1.1 x.1.2.1 x.1.2.2.2.2.2.1 x.1.2.2.2.2.2.2.1 x.1.2.2.2.2.2.2.2.1 x.2.2.1 x.2.2.2.1 x.2.2.2.2.1
def Kok (F m : Nat) (x : Jgu.T) (kq : ZK) : ZO := Jhb F none (fun y0 y1 y2 y3 y4 y5 y6 y7 => kq (.exit 2) (Jgu.inst ((y0, (y1, ((), ((), ((), (y2, (y3, (y4, ())))))))), (((), ()), (y5, (y6, (y7, ()))))))) m x.1.1 x.1.2.1 x.1.2.2.2.2.2.1 x.1.2.2.2.2.2.2.1 x.1.2.2.2.2.2.2.2.1 x.2.2.1 x.2.2.2.1 x.2.2.2.2.1
def Kol (F : Nat) (nx : Jgv.T → ZO) (kq : ZK) (x : Jgv.T) : ZO := Jwm F none (fun nonce counter s11 key s6 w => nx ((nonce, (counter, ((), ((), ((), (s11, ())))))), (((), ()), (key, (s6, (w, ())))))) (fun y0 y1 y2 y3 y4 y5 => kq (.exit 0) (Jgv.inst ((y0, (y1, ((), ((), ((), (y2, ())))))), (((), ()), (y3, (y4, (y5, ()))))))) x.1.1 x.1.2.1 x.1.2.2.2.2.2.1 x.2.2.1 x.2.2.2.1 x.2.2.2.2.1
def Kom (F m : Nat) (x : Jgv.T) (kq : ZK) : ZO := Jki F none (fun y0 y1 y2 y3 y4 y5 => kq (.exit 0) (Jgv.inst ((y0, (y1, ((), ((), ((), (y2, ())))))), (((), ()), (y3, (y4, (y5, ()))))))) m x.1.1 x.1.2.1 x.1.2.2.2.2.2.1 x.2.2.1 x.2.2.2.1 x.2.2.2.2.1
def Kiz (F : Nat) : List (LoE Unit) := [⟨147, 6, LO.of Jgu (Kok F F)⟩,
 ⟨147, 3, LO.of Jgv (Kom F F)⟩]
def Jo8 (F : Nat) : Jcg Unit := { toBook := J0e, lo := Jdn (Kiz F), need := Jbe [] }
theorem J7o (F : Nat) : Jco prog (Jo8 F) F 147 1 6 Jgu (Koj F) := fun d x KQ => by kernel_rfl
theorem J7p (F : Nat) : Jco prog (Jo8 F) F 147 0 3 Jgv (Kol F) := fun d x KQ => by kernel_rfl
theorem Kon (F : Nat) : Jjm prog (Jo8 F) F := Jbk (l := Kiz F) rfl (fa (Jaw 1 (by kernel_rfl) (by kernel_rfl) (Jak (J7o F) (fun _ _ => rfl) (fun _ _ _ _ => rfl))) (fa (Jaw 0 (by kernel_rfl) (by kernel_rfl) (Jak (J7p F) (fun _ _ => rfl) (fun _ _ _ _ => rfl))) fz))
theorem Kuw (F : Nat) (x : Jbb J4v) (kend : List BV → ZO) : Jav prog (Jo8 F) F 20 147 (Jag J4v x) [.d (.arr 16 (.int .u32))] kend = Kyc F x.1 x.2.1 x.2.2.1 none (fun y0 => kend [BV.d (.arr 16 (.int .u32)) y0]) := by kernel_rfl
theorem J4w  : Jaf prog 147 J9v := Jaz (B0 := J0e) bkN bkG Jax bkT Kuw (Jae fz) (by kernel_rfl) (fun _ => rfl) Kon (fun x h => (Khg x.1 x.2.1 x.2.2.1 h).elim fun F hF => ⟨F, fun kend => hF none _⟩)
@[reducible] def Koo  : List PM := [.d (.arr 32 (.int .u8)), .d (.int .i64), .d (.int .i64)]
def Ksn  : Orc := Orc.of Koo true 1 fun x => (Kq6 x.1 x.2.1 x.2.2.1, [.o 5 (.int .u8) (Kq7 x.1 x.2.1 x.2.2.1)])
@[reducible] def Jlc  : Tpl := { cur := ⟨[(0, .ptr 0 []), (29, .var (.arr 4 (.pair (.int .i64) (.pair (.int .i64) (.pair (.int .i64) (.pair (.int .i64) .unit)))))), (0, .var (.int .i64))], 39⟩, stk := [⟨[(2, .mv 162 (.pr (.ptr 0 []) (.un))), (4, .var (.int .i64)), (1, .var (.int .i64))], 32⟩, ⟨[(7, .ptr 1 []), (0, .ptr 0 [])], 35⟩, ⟨[], 0⟩], heap := [.box (.var (.arr 16 (.int .u32))), .box (.var (.arr 16 (.int .u32)))] }
@[reducible] def Jld  : Tpl := { cur := ⟨[(2, .mv 162 (.pr (.ptr 0 []) (.un))), (4, .var (.int .i64)), (1, .var (.int .i64))], 32⟩, stk := [⟨[(7, .ptr 1 []), (0, .ptr 0 [])], 35⟩, ⟨[], 0⟩], heap := [.box (.var (.arr 16 (.int .u32))), .box (.var (.arr 16 (.int .u32)))] }
@[reducible] def Jle  : Tpl := { cur := ⟨[(0, .ptr 0 []), (29, .var (.arr 4 (.pair (.int .i64) (.pair (.int .i64) (.pair (.int .i64) (.pair (.int .i64) .unit)))))), (0, .var (.int .i64))], 39⟩, stk := [⟨[(2, .mv 162 (.pr (.ptr 0 []) (.un))), (4, .var (.int .i64)), (14, .var (.int .i64))], 19⟩, ⟨[(7, .ptr 1 []), (0, .ptr 0 [])], 35⟩, ⟨[], 0⟩], heap := [.box (.var (.arr 16 (.int .u32))), .box (.var (.arr 16 (.int .u32)))] }
@[reducible] def Jlf  : Tpl := { cur := ⟨[(2, .mv 162 (.pr (.ptr 0 []) (.un))), (4, .var (.int .i64)), (14, .var (.int .i64))], 19⟩, stk := [⟨[(7, .ptr 1 []), (0, .ptr 0 [])], 35⟩, ⟨[], 0⟩], heap := [.box (.var (.arr 16 (.int .u32))), .box (.var (.arr 16 (.int .u32)))] }
@[reducible] def Jlg  : Tpl := { cur := ⟨[(2, .mv 162 (.pr (.ptr 0 []) (.un))), (4, .var (.int .i64))], 34⟩, stk := [⟨[(7, .ptr 1 []), (0, .ptr 0 [])], 35⟩, ⟨[], 0⟩], heap := [.box (.var (.arr 16 (.int .u32))), .box (.var (.arr 16 (.int .u32)))] }
@[reducible] def Jlh  : Tpl := { cur := ⟨[(7, .ptr 0 []), (1, .row 1), (8, .var (.arr 16 (.int .u32))), (0, .var (.int .i64))], 24⟩, stk := [⟨[], 0⟩], heap := [.box (.var (.arr 16 (.int .u32))), .row 5 (.int .u8) false] }
def K0o  : List (FuncId × Orc) := [(147, J9v), (170, Kiy)]
def J9w  : Book := { Γ := gam, orc := Jb2 K0o, hint := Jbd [(128, { keep := some [7, 9, 18, 19], keeps := [(6, [7, 9, 18, 19])], own := [(9, 32)], dat := [], stk := [] }), (148, { keep := some [2, 7, 9, 22], keeps := [(2, [2, 7]), (4, [2, 7, 9]), (9, [2, 7, 22])], own := [], dat := [], stk := [[7, 8]] }), (162, { keep := some [0, 30, 31], keeps := [(2, [0, 30, 31])], own := [], dat := [], stk := [[2, 7, 9, 22], [7, 8]] })] }
def K0p (F : Nat) (nx : Jlc.T → ZO) (kq : ZK) (x : Jlc.T) : ZO := Kb3 F none (fun s30 s31 s7 s9 w w1 => nx (((), (s30, (s31, ()))), (((((), ()), (s7, (s9, ()))), (((), ((), ())), ((), ()))), (w, (w1, ()))))) (fun y0 y1 y2 y3 y4 y5 => kq (.exit 0) (Jlc.inst (((), (y0, (y1, ()))), (((((), ()), (y2, (y3, ()))), (((), ((), ())), ((), ()))), (y4, (y5, ())))))) x.1.2.1 x.1.2.2.1 x.2.1.1.2.1 x.2.1.1.2.2.1 x.2.2.1 x.2.2.2.1
def K0q (F m : Nat) (x : Jlc.T) (kq : ZK) : ZO := Jj1 F none (fun y0 y1 y2 y3 y4 y5 => kq (.exit 0) (Jlc.inst (((), (y0, (y1, ()))), (((((), ()), (y2, (y3, ()))), (((), ((), ())), ((), ()))), (y4, (y5, ())))))) m x.1.2.1 x.1.2.2.1 x.2.1.1.2.1 x.2.1.1.2.2.1 x.2.2.1 x.2.2.2.1
def K0r (F : Nat) (nx : Jld.T → ZO) (kq : ZK) (x : Jld.T) : ZO := Kb4 F none (fun s7 s9 change w => nx ((((), ()), (s7, (s9, ()))), ((((), ((), ())), ((), ())), (change, (w, ()))))) (fun y0 y1 y2 y3 => kq (.exit 2) (Jld.inst ((((), ()), (y0, (y1, ()))), ((((), ((), ())), ((), ())), (y2, (y3, ())))))) x.1.2.1 x.1.2.2.1 x.2.2.1 x.2.2.2.1
def K0s (F m : Nat) (x : Jld.T) (kq : ZK) : ZO := Joo F none (fun y0 y1 y2 y3 => kq (.exit 2) (Jld.inst ((((), ()), (y0, (y1, ()))), ((((), ((), ())), ((), ())), (y2, (y3, ())))))) m x.1.2.1 x.1.2.2.1 x.2.2.1 x.2.2.2.1
def K0t (F : Nat) (nx : Jle.T → ZO) (kq : ZK) (x : Jle.T) : ZO := Kb5 F none (fun s30 s31 s7 s22 w w1 => nx (((), (s30, (s31, ()))), (((((), ()), (s7, (s22, ()))), (((), ((), ())), ((), ()))), (w, (w1, ()))))) (fun y0 y1 y2 y3 y4 y5 => kq (.exit 0) (Jle.inst (((), (y0, (y1, ()))), (((((), ()), (y2, (y3, ()))), (((), ((), ())), ((), ()))), (y4, (y5, ())))))) x.1.2.1 x.1.2.2.1 x.2.1.1.2.1 x.2.1.1.2.2.1 x.2.2.1 x.2.2.2.1
def K0u (F m : Nat) (x : Jle.T) (kq : ZK) : ZO := Jj2 F none (fun y0 y1 y2 y3 y4 y5 => kq (.exit 0) (Jle.inst (((), (y0, (y1, ()))), (((((), ()), (y2, (y3, ()))), (((), ((), ())), ((), ()))), (y4, (y5, ())))))) m x.1.2.1 x.1.2.2.1 x.2.1.1.2.1 x.2.1.1.2.2.1 x.2.2.1 x.2.2.2.1
def K0v (F : Nat) (nx : Jlf.T → ZO) (kq : ZK) (x : Jlf.T) : ZO := Kb6 F none (fun s7 s22 change w => nx ((((), ()), (s7, (s22, ()))), ((((), ((), ())), ((), ())), (change, (w, ()))))) (fun y0 y1 y2 y3 => kq (.exit 4) (Jlf.inst ((((), ()), (y0, (y1, ()))), ((((), ((), ())), ((), ())), (y2, (y3, ())))))) x.1.2.1 x.1.2.2.1 x.2.2.1 x.2.2.2.1
def K0w (F m : Nat) (x : Jlf.T) (kq : ZK) : ZO := Jop F none (fun y0 y1 y2 y3 => kq (.exit 4) (Jlf.inst ((((), ()), (y0, (y1, ()))), ((((), ((), ())), ((), ())), (y2, (y3, ())))))) m x.1.2.1 x.1.2.2.1 x.2.2.1 x.2.2.2.1
def K0x (F : Nat) (nx : Jlg.T → ZO) (kq : ZK) (x : Jlg.T) : ZO := Kb7 F none (fun s7 change w => nx ((((), ()), (s7, ())), ((((), ((), ())), ((), ())), (change, (w, ()))))) (fun y0 y1 y2 => kq (.exit 0) (Jlg.inst ((((), ()), (y0, ())), ((((), ((), ())), ((), ())), (y1, (y2, ())))))) x.1.2.1 x.2.2.1 x.2.2.2.1
def K0y (F m : Nat) (x : Jlg.T) (kq : ZK) : ZO := Jse F none (fun y0 y1 y2 => kq (.exit 0) (Jlg.inst ((((), ()), (y0, ())), ((((), ((), ())), ((), ())), (y1, (y2, ())))))) m x.1.2.1 x.2.2.1 x.2.2.2.1
def K0z (F : Nat) (nx : Jlh.T → ZO) (kq : ZK) (x : Jlh.T) : ZO := Kb8 F none (fun s18 s19 w out => nx (((), ((), (s18, (s19, ())))), (((), ()), (w, (out, ()))))) (fun y0 y1 y2 y3 => kq (.exit 0) (Jlh.inst (((), ((), (y0, (y1, ())))), (((), ()), (y2, (y3, ())))))) x.1.2.2.1 x.1.2.2.2.1 x.2.2.1 x.2.2.2.1
def K00 (F m : Nat) (x : Jlh.T) (kq : ZK) : ZO := Jsf F none (fun y0 y1 y2 y3 => kq (.exit 0) (Jlh.inst (((), ((), (y0, (y1, ())))), (((), ()), (y2, (y3, ())))))) m x.1.2.2.1 x.1.2.2.2.1 x.2.2.1 x.2.2.2.1
def K01 (F : Nat) : List (LoE Unit) := [⟨162, 2, LO.orT Jlc (K0q F F) (LO.of Jle (K0u F F))⟩,
 ⟨148, 4, LO.of Jld (K0s F F)⟩,
 ⟨148, 9, LO.of Jlf (K0w F F)⟩,
 ⟨148, 2, LO.of Jlg (K0y F F)⟩,
 ⟨128, 6, LO.of Jlh (K00 F F)⟩]
def Ji6 (F : Nat) : Jcg Unit := { toBook := J9w, lo := Jdn (K01 F), need := Jbe [(148, 1)] }
theorem Ki0 (F : Nat) : Jco prog (Ji6 F) F 162 0 2 Jlc (K0p F) := fun d x KQ => by kernel_rfl
theorem Ki1 (F : Nat) : Jco prog (Ji6 F) F 148 1 4 Jld (K0r F) := fun d x KQ => by kernel_rfl
theorem Ki2 (F : Nat) : Jco prog (Ji6 F) F 162 0 2 Jle (K0t F) := fun d x KQ => by kernel_rfl
theorem Ki3 (F : Nat) : Jco prog (Ji6 F) F 148 2 9 Jlf (K0v F) := fun d x KQ => by kernel_rfl
theorem Ki4 (F : Nat) : Jco prog (Ji6 F) F 148 0 2 Jlg (K0x F) := fun d x KQ => by kernel_rfl
theorem Ki5 (F : Nat) : Jco prog (Ji6 F) F 128 0 6 Jlh (K0z F) := fun d x KQ => by kernel_rfl
theorem K02 (F : Nat) : Jjm prog (Ji6 F) F := Jbk (l := K01 F) rfl (fa (Jaw 0 (by kernel_rfl) (by kernel_rfl) (Kbh (Jak (Ki0 F) (fun _ _ => rfl) (fun _ _ _ _ => rfl)) (Jak (Ki2 F) (fun _ _ => rfl) (fun _ _ _ _ => rfl)))) (fa (Jaw 1 (by kernel_rfl) (by kernel_rfl) (Jak (Ki1 F) (fun _ _ => rfl) (fun _ _ _ _ => rfl))) (fa (Jaw 2 (by kernel_rfl) (by kernel_rfl) (Jak (Ki3 F) (fun _ _ => rfl) (fun _ _ _ _ => rfl))) (fa (Jaw 0 (by kernel_rfl) (by kernel_rfl) (Jak (Ki4 F) (fun _ _ => rfl) (fun _ _ _ _ => rfl))) (fa (Jaw 0 (by kernel_rfl) (by kernel_rfl) (Jak (Ki5 F) (fun _ _ => rfl) (fun _ _ _ _ => rfl))) fz)))))
theorem K43 (F : Nat) (x : Jbb Koo) (kend : List BV → ZO) : Jav prog (Ji6 F) F 20 128 (Jag Koo x) [.o 5 (.int .u8)] kend = cBlk F x.1 x.2.1 x.2.2.1 none (fun y0 => kend [BV.o 5 (.int .u8) y0]) := by kernel_rfl
theorem Kd5  : Jaf prog 128 Ksn := Jaz (B0 := J9w) bkN bkG Jax bkT K43 (Jae (fa J4w (fa J7n fz))) (by kernel_rfl) (fun _ => rfl) K02 (fun x h => (Kt8 x.1 x.2.1 x.2.2.1 h).elim fun F hF => ⟨F, fun kend => hF none _⟩)
@[reducible] def J4x  : List PM := [.d (.int .i64)]
def Jy0  : Orc := Orc.of J4x true 0 fun x => (true, [.d .bool (Jn8 x.1)])
def J4y  : List (FuncId × Orc) := []
theorem Kux (F : Nat) (x : Jbb J4x) (kend : List BV → ZO) : Jav prog (bkZ J4y) F 20 107 (Jag J4x x) [.d .bool] kend = Kyd F x.1 none (fun y0 => kend [BV.d .bool y0]) := by kernel_rfl
theorem Jq5  : Jaf prog 107 Jy0 := Jaz (B0 := bkY J4y) bkN bkG Jax bkT Kux (Jae fz) (by kernel_rfl) (fun _ => rfl) (bkO _) (fun x _ => (Khh x.1).elim fun F hF => ⟨F, fun kend => hF none _⟩)
end Go.AI
namespace Go.AI
open Go
open Go.Proofs.Tryz (prog)
set_option linter.unusedVariables false
@[reducible] def Jo9  : List PM := [.d (.slc (.int .u8)), .d (.slc (.int .u8))]
def Jtl  : Orc := Orc.of Jo9 true 0 fun x => (Jg4 x.1 x.2.1, [.d .bool (Jg5 x.1 x.2.1)])
@[reducible] def Jcm  : Tpl := { cur := ⟨[(0, .var (.slc (.int .u8))), (0, .var (.slc (.int .u8))), (2, .var .bool), (7, .var (.int .i64)), (0, .var (.int .i64))], 12⟩, stk := [⟨[], 0⟩], heap := [] }
def J4z  : List (FuncId × Orc) := []
def Jpq  : Book := { Γ := gam, orc := Jb2 J4z, hint := Jbd [(108, { keep := some [0, 1, 4, 12, 13], keeps := [(4, [0, 1, 4, 12, 13])], own := [], dat := [], stk := [] })] }
def J40 (F : Nat) (nx : Jcm.T → ZO) (kq : ZK) (x : Jcm.T) : ZO := Jj0 F none (fun s1 s2 s4 s12 s13 => nx ((s1, (s2, (s4, (s12, (s13, ()))))), (((), ()), ()))) (fun y0 y1 y2 y3 y4 => kq .ret (Jcm.inst ((y0, (y1, (y2, (y3, (y4, ()))))), (((), ()), ())))) (fun y0 y1 y2 y3 y4 => kq (.exit 0) (Jcm.inst ((y0, (y1, (y2, (y3, (y4, ()))))), (((), ()), ())))) x.1.1 x.1.2.1 x.1.2.2.1 x.1.2.2.2.1 x.1.2.2.2.2.1
def J41 (F m : Nat) (x : Jcm.T) (kq : ZK) : ZO := Jfa F none (fun y0 y1 y2 y3 y4 => kq .ret (Jcm.inst ((y0, (y1, (y2, (y3, (y4, ()))))), (((), ()), ())))) (fun y0 y1 y2 y3 y4 => kq (.exit 0) (Jcm.inst ((y0, (y1, (y2, (y3, (y4, ()))))), (((), ()), ())))) m x.1.1 x.1.2.1 x.1.2.2.1 x.1.2.2.2.1 x.1.2.2.2.2.1
def Jxe (F : Nat) : List (LoE Unit) := [⟨108, 4, LO.of Jcm (J41 F F)⟩]
def Jli (F : Nat) : Jcg Unit := { toBook := Jpq, lo := Jdn (Jxe F), need := Jbe [] }
theorem Jxf (F : Nat) : Jco prog (Jli F) F 108 0 4 Jcm (J40 F) := fun d x KQ => by kernel_rfl
theorem J42 (F : Nat) : Jjm prog (Jli F) F := Jbk (l := Jxe F) rfl (fa (Jaw 0 (by kernel_rfl) (by kernel_rfl) (Jak (Jxf F) (fun _ _ => rfl) (fun _ _ _ _ => rfl))) fz)
theorem J7q (F : Nat) (x : Jbb Jo9) (kend : List BV → ZO) : Jav prog (Jli F) F 20 108 (Jag Jo9 x) [.d .bool] kend = Jyo F x.1 x.2.1 none (fun y0 => kend [BV.d .bool y0]) := by kernel_rfl
theorem Juv  : Jaf prog 108 Jtl := Jaz (B0 := Jpq) bkN bkG Jax bkT J7q (Jae fz) (by kernel_rfl) (fun _ => rfl) J42 (fun x h => (J03 x.1 x.2.1 h).elim fun F hF => ⟨F, fun kend => hF none _⟩)
@[reducible] def Jy1  : List PM := [.d (.arr 32 (.int .u8)), .d (.int .i64), .d (.slc (.int .u8))]
def Juw  : Orc := Orc.of Jy1 true 1 fun x => (Jk0 x.1 x.2.1 x.2.2.1, [.o 5 (.int .u8) (Jid x.1 x.2.1 x.2.2.1), .d (.int .i64) (Jf0 x.1 x.2.1 x.2.2.1)])
@[reducible] def Jfr  : Tpl := { cur := ⟨[(9, .ptr 0 []), (0, .sl 1), (0, .row 2), (19, .var (.int .i64)), (0, .var (.int .i64))], 16⟩, stk := [⟨[(0, .hnd .yield 3)], 0⟩, ⟨[(0, .hnd .yield 3), (0, .ptr 6 []), (0, .ptr 7 []), (1, .var (.int .i64))], 26⟩, ⟨[(0, .hnd .yield 3)], 0⟩, ⟨[(2, .var (.slc (.int .u8))), (0, .ptr 4 []), (0, .ptr 5 []), (1, .nils), (0, .var (.int .i64)), (0, .row 1), (0, .ptr 0 [])], 39⟩, ⟨[], 0⟩], heap := [.box (.var (.int .i64)), .row 5 (.int .u8) false, .row 5 (.int .u8) false, .lp 99 8 ⟨[(3, .ptr 4 []), (0, .ptr 5 []), (4, .ptr 0 [])], 39⟩ .busy, .box (.var (.arr 32 (.int .u8))), .box (.var (.int .i64)), .box (.row 1), .box (.var (.int .i64))] }
@[reducible] def Jfs  : Tpl := { cur := ⟨[(0, .hnd .yield 0), (0, .ptr 4 []), (0, .ptr 6 []), (1, .var (.int .i64))], 26⟩, stk := [⟨[(0, .hnd .yield 0)], 0⟩, ⟨[(2, .var (.slc (.int .u8))), (0, .ptr 1 []), (0, .ptr 2 []), (1, .nils), (0, .var (.int .i64)), (0, .row 5), (0, .ptr 3 [])], 39⟩, ⟨[], 0⟩], heap := [.lp 99 8 ⟨[(3, .ptr 1 []), (0, .ptr 2 []), (4, .ptr 3 [])], 39⟩ .ready, .box (.var (.arr 32 (.int .u8))), .box (.var (.int .i64)), .box (.var (.int .i64)), .box (.row 5), .row 5 (.int .u8) false, .box (.var (.int .i64))] }
def Ki6  : List (FuncId × Orc) := [(107, Jy0), (111, Jfb), (128, Ksn)]
def Jxg  : Book := { Γ := gam, orc := Jb2 Ki6, hint := Jbd [(99, { keep := some [9, 10, 11, 31, 32], keeps := [(11, [9, 10, 11, 31, 32])], own := [], dat := [], stk := [[0], [0, 1, 2, 4], [0], [2, 3, 4, 6, 7, 8, 9, 10, 11, 12, 25, 31, 32, 33]] }), (103, { keep := some [0, 1, 2, 4], keeps := [(1, [0, 1, 2, 4])], own := [], dat := [], stk := [[0], [2, 3, 4, 6, 7, 8, 9, 10, 11, 12, 25, 31, 32, 33]] })] }
def Ki7 (F : Nat) (nx : Jfr.T → ZO) (kq : ZK) (x : Jfr.T) : ZO := Jsg F none (fun part_i part_n s31 s32 i b s7 counter part s key nonce s2 => nx (((), ((part_i, part_n), ((), (s31, (s32, ()))))), ((((), ()), (((), ((), ((), (i, ())))), (((), ()), ((b, ((), ((), ((), (s7, ((), ((), ()))))))), ((), ()))))), (counter, (part, (s, (((), ((), ((), ()))), (key, (nonce, ((), (s2, ()))))))))))) (fun y0 y1 y2 y3 y4 y5 y6 y7 y8 y9 y10 y11 y12 => kq (.exit 3) (Jfr.inst (((), ((y0, y1), ((), (y2, (y3, ()))))), ((((), ()), (((), ((), ((), (y4, ())))), (((), ()), ((y5, ((), ((), ((), (y6, ((), ((), ()))))))), ((), ()))))), (y7, (y8, (y9, (((), ((), ((), ()))), (y10, (y11, ((), (y12, ())))))))))))) x.1.2.1.1 x.1.2.1.2 x.1.2.2.2.1 x.1.2.2.2.2.1 x.2.1.2.1.2.2.2.1 x.2.1.2.2.2.1.1 x.2.1.2.2.2.1.2.2.2.2.1 x.2.2.1 x.2.2.2.1 x.2.2.2.2.1 x.2.2.2.2.2.2.1 x.2.2.2.2.2.2.2.1 x.2.2.2.2.2.2.2.2.2.1
def Ki8 (F m : Nat) (x : Jfr.T) (kq : ZK) : ZO := Jig F none (fun y0 y1 y2 y3 y4 y5 y6 y7 y8 y9 y10 y11 y12 => kq (.exit 3) (Jfr.inst (((), ((y0, y1), ((), (y2, (y3, ()))))), ((((), ()), (((), ((), ((), (y4, ())))), (((), ()), ((y5, ((), ((), ((), (y6, ((), ((), ()))))))), ((), ()))))), (y7, (y8, (y9, (((), ((), ((), ()))), (y10, (y11, ((), (y12, ())))))))))))) m x.1.2.1.1 x.1.2.1.2 x.1.2.2.2.1 x.1.2.2.2.2.1 x.2.1.2.1.2.2.2.1 x.2.1.2.2.2.1.1 x.2.1.2.2.2.1.2.2.2.2.1 x.2.2.1 x.2.2.2.1 x.2.2.2.2.1 x.2.2.2.2.2.2.1 x.2.2.2.2.2.2.2.1 x.2.2.2.2.2.2.2.2.2.1
def Ki9 (F : Nat) (nx : Jfs.T → ZO) (kq : ZK) (x : Jfs.T) : ZO := Jm6 F none (fun i b s7 key nonce counter out s2 => nx (((), ((), ((), (i, ())))), ((((), ()), ((b, ((), ((), ((), (s7, ((), ((), ()))))))), ((), ()))), (((), ((), ((), ()))), (key, (nonce, (counter, ((), (out, (s2, ())))))))))) (fun y0 y1 y2 y3 y4 y5 y6 y7 => kq (.exit 0) (Jfs.inst (((), ((), ((), (y0, ())))), ((((), ()), ((y1, ((), ((), ((), (y2, ((), ((), ()))))))), ((), ()))), (((), ((), ((), ()))), (y3, (y4, (y5, ((), (y6, (y7, ()))))))))))) x.1.2.2.2.1 x.2.1.2.1.1 x.2.1.2.1.2.2.2.2.1 x.2.2.2.1 x.2.2.2.2.1 x.2.2.2.2.2.1 x.2.2.2.2.2.2.2.1 x.2.2.2.2.2.2.2.2.1
def Kja (F m : Nat) (x : Jfs.T) (kq : ZK) : ZO := Jgk F none (fun y0 y1 y2 y3 y4 y5 y6 y7 => kq (.exit 0) (Jfs.inst (((), ((), ((), (y0, ())))), ((((), ()), ((y1, ((), ((), ((), (y2, ((), ((), ()))))))), ((), ()))), (((), ((), ((), ()))), (y3, (y4, (y5, ((), (y6, (y7, ()))))))))))) m x.1.2.2.2.1 x.2.1.2.1.1 x.2.1.2.1.2.2.2.2.1 x.2.2.2.1 x.2.2.2.2.1 x.2.2.2.2.2.1 x.2.2.2.2.2.2.2.1 x.2.2.2.2.2.2.2.2.1
def J9x (F : Nat) : List (LoE Unit) := [⟨99, 11, LO.of Jfr (Ki8 F F)⟩,
 ⟨103, 1, LO.of Jfs (Kja F F)⟩]
def Jl9 (F : Nat) : Jcg Unit := { toBook := Jxg, lo := Jdn (J9x F), need := Jbe [(103, 1)] }
theorem J43 (F : Nat) : Jco prog (Jl9 F) F 99 0 11 Jfr (Ki7 F) := fun d x KQ => by kernel_rfl
theorem J44 (F : Nat) : Jco prog (Jl9 F) F 103 0 1 Jfs (Ki9 F) := fun d x KQ => by kernel_rfl
theorem Kjb (F : Nat) : Jjm prog (Jl9 F) F := Jbk (l := J9x F) rfl (fa (Jaw 0 (by kernel_rfl) (by kernel_rfl) (Jak (J43 F) (fun _ _ => rfl) (fun _ _ _ _ => rfl))) (fa (Jaw 0 (by kernel_rfl) (by kernel_rfl) (Jak (J44 F) (fun _ _ => rfl) (fun _ _ _ _ => rfl))) fz))
theorem Kop (F : Nat) (x : Jbb Jy1) (kend : List BV → ZO) : Jav prog (Jl9 F) F 20 99 (Jag Jy1 x) [.o 5 (.int .u8), .d (.int .i64)] kend = Kmd F x.1 x.2.1 x.2.2.1 none (fun y0 y1 => kend [BV.o 5 (.int .u8) y0, BV.d (.int .i64) y1]) := by kernel_rfl
theorem Jpr  : Jaf prog 99 Juw := Jaz (B0 := Jxg) bkN bkG Jax bkT Kop (Jae (fa Jq5 (fa Jdr (fa Kd5 fz)))) (by kernel_rfl) (fun _ => rfl) Kjb (fun x h => (Kc0 x.1 x.2.1 x.2.2.1 h).elim fun F hF => ⟨F, fun kend => hF none _⟩)
@[reducible] def Kd6  : List PM := [.d (.slc (.int .u8))]
def J45  : Orc := Orc.of Kd6 true 0 fun x => (Jn9 x.1, [.d (.arr 32 (.int .u8)) (Jfd x.1), .d (.arr 32 (.int .u8)) (Jgb x.1)])
def J9y  : List (FuncId × Orc) := [(127, J2i)]
theorem K03 (F : Nat) (x : Jbb Kd6) (kend : List BV → ZO) : Jav prog (bkZ J9y) F 20 98 (Jag Kd6 x) [.d (.arr 32 (.int .u8)), .d (.arr 32 (.int .u8))] kend = K7m F x.1 none (fun y0 y1 => kend [BV.d (.arr 32 (.int .u8)) y0, BV.d (.arr 32 (.int .u8)) y1]) := by kernel_rfl
theorem Jtm  : Jaf prog 98 J45 := Jaz (B0 := bkY J9y) bkN bkG Jax bkT K03 (Jae (fa Jo7 fz)) (by kernel_rfl) (fun _ => rfl) (bkO _) (fun x h => (Km5 x.1 h).elim fun F hF => ⟨F, fun kend => hF none _⟩)
@[reducible] def Koq  : List PM := [.d (.arr 32 (.int .u8)), .d (.int .i64), .d (.slc (.int .u8))]
def Kso  : Orc := Orc.of Koq false 0 fun x => (Jz4 x.1 x.2.1 x.2.2.1, [.d (.slc (.int .u8)) (Jz5 x.1 x.2.1 x.2.2.1)])
@[reducible] def Jlj  : Tpl := { cur := ⟨[(1, .var (.int .i64)), (0, .var (.slc (.int .u8))), (0, .ptr 0 []), (3, .row 1), (2, .var (.int .i64))], 17⟩, stk := [⟨[], 0⟩], heap := [.box (.var (.arr 32 (.int .u8))), .row 5 (.int .u8) false] }
def K04  : List (FuncId × Orc) := [(127, J2i)]
def J9z  : Book := { Γ := gam, orc := Jb2 K04, hint := Jbd [(100, { keep := some [1, 2, 3, 7, 10], keeps := [(3, [1, 2, 3, 7, 10])], own := [(7, 32)], dat := [], stk := [] })] }
def K05 (F : Nat) (nx : Jlj.T → ZO) (kq : ZK) (x : Jlj.T) : ZO := Kb2 F none (fun nonce b s10 key l => nx ((nonce, (b, ((), ((), (s10, ()))))), (((), ()), (key, (l, ()))))) (fun y0 y1 y2 y3 y4 => kq (.exit 0) (Jlj.inst ((y0, (y1, ((), ((), (y2, ()))))), (((), ()), (y3, (y4, ())))))) x.1.1 x.1.2.1 x.1.2.2.2.2.1 x.2.2.1 x.2.2.2.1
def K06 (F m : Nat) (x : Jlj.T) (kq : ZK) : ZO := Jsd F none (fun y0 y1 y2 y3 y4 => kq (.exit 0) (Jlj.inst ((y0, (y1, ((), ((), (y2, ()))))), (((), ()), (y3, (y4, ())))))) m x.1.1 x.1.2.1 x.1.2.2.2.2.1 x.2.2.1 x.2.2.2.1
def K07 (F : Nat) : List (LoE Unit) := [⟨100, 3, LO.of Jlj (K06 F F)⟩]
def J46 (F : Nat) : Jcg Unit := { toBook := J9z, lo := Jdn (K07 F), need := Jbe [] }
theorem Kjc (F : Nat) : Jco prog (J46 F) F 100 0 3 Jlj (K05 F) := fun d x KQ => by kernel_rfl
theorem K08 (F : Nat) : Jjm prog (J46 F) F := Jbk (l := K07 F) rfl (fa (Jaw 0 (by kernel_rfl) (by kernel_rfl) (Jak (Kjc F) (fun _ _ => rfl) (fun _ _ _ _ => rfl))) fz)
theorem K44 (F : Nat) (x : Jbb Koq) (kend : List BV → ZO) : Jav prog (J46 F) F 20 100 (Jag Koq x) [.d (.slc (.int .u8))] kend = cTag F x.1 x.2.1 x.2.2.1 none (fun y0 => kend [BV.d (.slc (.int .u8)) y0]) := by kernel_rfl
theorem Kd7  : Jaf prog 100 Kso := Jaz (B0 := J9z) bkN bkG Jax bkT K44 (Jae (fa Jo7 fz)) (by kernel_rfl) (fun _ => rfl) K08 (fun x h => (Kua x.1 x.2.1 x.2.2.1 h).elim fun F hF => ⟨F, fun kend => hF none _⟩)
@[reducible] def Jy2  : List PM := [.d (.slc (.int .u8))]
def Jux  : Orc := Orc.of Jy2 true 0 fun x => (true, [.d .bool (Jk1 x.1)])
def J0f  : List (FuncId × Orc) := []
theorem Kor (F : Nat) (x : Jbb Jy2) (kend : List BV → ZO) : Jav prog (bkZ J0f) F 20 97 (Jag Jy2 x) [.d .bool] kend = Kmc F x.1 none (fun y0 => kend [BV.d .bool y0]) := by kernel_rfl
theorem Jps  : Jaf prog 97 Jux := Jaz (B0 := bkY J0f) bkN bkG Jax bkT Kor (Jae fz) (by kernel_rfl) (fun _ => rfl) (bkO _) (fun x _ => (Kc1 x.1).elim fun F hF => ⟨F, fun kend => hF none _⟩)
@[reducible] def Kd8  : List PM := [.d (.slc (.int .u8)), .d (.int .i64), .d (.slc (.int .u8))]
def Kjd  : Orc := Orc.of Kd8 true 1 fun x => (Kbt x.1 x.2.1 x.2.2.1, [.o 5 (.int .u8) (Joa x.1 x.2.1 x.2.2.1), .d (.int .i64) (Jr6 x.1 x.2.1 x.2.2.1)])
@[reducible] def Jij  : Tpl := { cur := ⟨[(1, .var (.int .i64)), (0, .row 0), (0, .ptr 1 []), (3, .row 2), (2, .var (.int .i64))], 17⟩, stk := [⟨[(0, .var (.slc (.int .u8))), (0, .var (.int .i64)), (0, .var (.slc (.int .u8))), (6, .ptr 3 []), (25, .row 0)], 5⟩, ⟨[], 0⟩], heap := [.row 5 (.int .u8) false, .box (.var (.arr 32 (.int .u8))), .row 5 (.int .u8) false, .box (.var (.arr 32 (.int .u8)))] }
def Kuy  : List (FuncId × Orc) := [(97, Jux), (98, J45), (99, Juw), (127, J2i)]
def J47  : Book := { Γ := gam, orc := Jb2 Kuy, hint := Jbd [(100, { keep := some [1, 2, 3, 7, 10], keeps := [(3, [1, 2, 3, 7, 10])], own := [(7, 32)], dat := [], stk := [[0, 1, 2, 9, 35]] })] }
def Kuz (F : Nat) (nx : Jij.T → ZO) (kq : ZK) (x : Jij.T) : ZO := J16 F none (fun nonce s10 key nonce1 b b1 Jpz l authenticate => nx ((nonce, ((), ((), ((), (s10, ()))))), (((key, (nonce1, (b, ((), ((), ()))))), ((), ())), (b1, (Jpz, (l, (authenticate, ()))))))) (fun y0 y1 y2 y3 y4 y5 y6 y7 y8 => kq (.exit 0) (Jij.inst ((y0, ((), ((), ((), (y1, ()))))), (((y2, (y3, (y4, ((), ((), ()))))), ((), ())), (y5, (y6, (y7, (y8, ())))))))) x.1.1 x.1.2.2.2.2.1 x.2.1.1.1 x.2.1.1.2.1 x.2.1.1.2.2.1 x.2.2.1 x.2.2.2.1 x.2.2.2.2.1 x.2.2.2.2.2.1
def Ku0 (F m : Nat) (x : Jij.T) (kq : ZK) : ZO := Jm5 F none (fun y0 y1 y2 y3 y4 y5 y6 y7 y8 => kq (.exit 0) (Jij.inst ((y0, ((), ((), ((), (y1, ()))))), (((y2, (y3, (y4, ((), ((), ()))))), ((), ())), (y5, (y6, (y7, (y8, ())))))))) m x.1.1 x.1.2.2.2.2.1 x.2.1.1.1 x.2.1.1.2.1 x.2.1.1.2.2.1 x.2.2.1 x.2.2.2.1 x.2.2.2.2.1 x.2.2.2.2.2.1
def Ksp (F : Nat) : List (LoE Unit) := [⟨100, 3, LO.of Jij (Ku0 F F)⟩]
def Jy3 (F : Nat) : Jcg Unit := { toBook := J47, lo := Jdn (Ksp F), need := Jbe [] }
theorem Kd9 (F : Nat) : Jco prog (Jy3 F) F 100 0 3 Jij (Kuz F) := fun d x KQ => by kernel_rfl
theorem Ku1 (F : Nat) : Jjm prog (Jy3 F) F := Jbk (l := Ksp F) rfl (fa (Jaw 0 (by kernel_rfl) (by kernel_rfl) (Jak (Kd9 F) (fun _ _ => rfl) (fun _ _ _ _ => rfl))) fz)
theorem K09 (F : Nat) (x : Jbb Kd8) (kend : List BV → ZO) : Jav prog (Jy3 F) F 20 55 (Jag Kd8 x) [.o 5 (.int .u8), .d (.int .i64)] kend = K7n F x.1 x.2.1 x.2.2.1 none (fun y0 y1 => kend [BV.o 5 (.int .u8) y0, BV.d (.int .i64) y1]) := by kernel_rfl
theorem J7r  : Jaf prog 55 Kjd := Jaz (B0 := J47) bkN bkG Jax bkT K09 (Jae (fa Jps (fa Jtm (fa Jpr (fa Jo7 fz))))) (by kernel_rfl) (fun _ => rfl) Ku1 (fun x h => (Km7 x.1 x.2.1 x.2.2.1 h).elim fun F hF => ⟨F, fun kend => hF none _⟩)
@[reducible] def J2j  : List PM := [.d (.slc (.int .u8)), .d (.int .i64), .d (.slc (.int .u8))]
def Kje  : Orc := Orc.of J2j true 1 fun x => (Jyg x.1 x.2.1 x.2.2.1, [.o 5 (.int .u8) (Jhq x.1 x.2.1 x.2.2.1), .d (.int .i64) (Jjr x.1 x.2.1 x.2.2.1)])
def J90  : List (FuncId × Orc) := [(97, Jux), (98, J45), (99, Juw), (100, Kso), (107, Jy0), (108, Jtl)]
theorem K1a (F : Nat) (x : Jbb J2j) (kend : List BV → ZO) : Jav prog (bkZ J90) F 20 75 (Jag J2j x) [.o 5 (.int .u8), .d (.int .i64)] kend = K7o F x.1 x.2.1 x.2.2.1 none (fun y0 y1 => kend [BV.o 5 (.int .u8) y0, BV.d (.int .i64) y1]) := by kernel_rfl
theorem J7s  : Jaf prog 75 Kje := Jaz (B0 := bkY J90) bkN bkG Jax bkT K1a (Jae (fa Jps (fa Jtm (fa Jpr (fa Kd7 (fa Jq5 (fa Juv fz))))))) (by kernel_rfl) (fun _ => rfl) (bkO _) (fun x h => (Km8 x.1 x.2.1 x.2.2.1 h).elim fun F hF => ⟨F, fun kend => hF none _⟩)
end Go.AI
namespace Go.AI
open Go
open Go.Proofs.Tryz (prog)
set_option linter.unusedVariables false
@[reducible] def J48  : List PM := [.d (.slc (.arr 16 (.int .u8)))]
def Jni  : Orc := Orc.of J48 true 1 fun x => (Jho x.1, [.o 62 (.arr 16 (.int .u8)) (Jn5 x.1)])
def J49  : List (FuncId × Orc) := []
theorem Ku2 (F : Nat) (x : Jbb J48) (kend : List BV → ZO) : Jav prog (bkZ J49) F 20 43 (Jag J48 x) [.o 62 (.arr 16 (.int .u8))] kend = Kx5 F x.1 none Jmm (fun y0 => kend [BV.o 62 (.arr 16 (.int .u8)) y0]) := by kernel_rfl
theorem Jhx  : Jaf prog 43 Jni := Jaz (B0 := bkY J49) bkN bkG Jax bkT Ku2 (Jae fz) (by kernel_rfl) (fun _ => rfl) (bkO _) (fun x h => (Kgu x.1 h).elim fun F hF => ⟨F, fun kend => hF none Jmm Jv5 _⟩)
@[reducible] def J5a  : List PM := [.d (.slc (.pair (.int .i64) (.pair (.arr 16 (.int .u8)) .unit)))]
def J91  : Orc := Orc.of J5a true 1 fun x => (Jv6 x.1, [.o 137 (.pair (.int .i64) (.pair (.arr 16 (.int .u8)) .unit)) (J1y x.1)])
def J5b  : List (FuncId × Orc) := []
theorem Ku3 (F : Nat) (x : Jbb J5a) (kend : List BV → ZO) : Jav prog (bkZ J5b) F 20 65 (Jag J5a x) [.o 137 (.pair (.int .i64) (.pair (.arr 16 (.int .u8)) .unit))] kend = Kx6 F x.1 none Jmm (fun y0 => kend [BV.o 137 (.pair (.int .i64) (.pair (.arr 16 (.int .u8)) .unit)) y0]) := by kernel_rfl
theorem J5c  : Jaf prog 65 J91 := Jaz (B0 := bkY J5b) bkN bkG Jax bkT Ku3 (Jae fz) (by kernel_rfl) (fun _ => rfl) (bkO _) (fun x h => (Kgv x.1 h).elim fun F hF => ⟨F, fun kend => hF none Jmm Jv5 _⟩)
@[reducible] def Kea  : List PM := [.d (.slc (.int .i64))]
def Kjf  : Orc := Orc.of Kea true 1 fun x => (J3q x.1, [.o 3 (.int .i64) (Kbo x.1)])
def J92  : List (FuncId × Orc) := []
theorem K1b (F : Nat) (x : Jbb Kea) (kend : List BV → ZO) : Jav prog (bkZ J92) F 20 102 (Jag Kea x) [.o 3 (.int .i64)] kend = K7j F x.1 none Jmm (fun y0 => kend [BV.o 3 (.int .i64) y0]) := by kernel_rfl
theorem J7t  : Jaf prog 102 Kjf := Jaz (B0 := bkY J92) bkN bkG Jax bkT K1b (Jae fz) (by kernel_rfl) (fun _ => rfl) (bkO _) (fun x h => (Kmr x.1 h).elim fun F hF => ⟨F, fun kend => hF none Jmm Jv5 _⟩)
@[reducible] def Keb  : List PM := [.d (.pair (.slc (.arr 16 (.int .u8))) (.pair (.slc (.pair (.int .i64) (.pair (.arr 16 (.int .u8)) .unit))) .unit)), .d (.int .i64), .d (.int .i64)]
def J5d  : Orc := Orc.of Keb true 0 fun x => (Jye x.1 x.2.1 x.2.2.1, [.d .bool (Jqd x.1 x.2.1 x.2.2.1)])
def J93  : List (FuncId × Orc) := []
theorem K1c (F : Nat) (x : Jbb Keb) (kend : List BV → ZO) : Jav prog (bkZ J93) F 20 42 (Jag Keb x) [.d .bool] kend = K7k F x.1 x.2.1 x.2.2.1 none (fun y0 => kend [BV.d .bool y0]) := by kernel_rfl
theorem Jtn  : Jaf prog 42 J5d := Jaz (B0 := bkY J93) bkN bkG Jax bkT K1c (Jae fz) (by kernel_rfl) (fun _ => rfl) (bkO _) (fun x h => (Kms x.1 x.2.1 x.2.2.1 h).elim fun F hF => ⟨F, fun kend => hF none _⟩)
@[reducible] def Kos  : List PM := [.d (.int .i64)]
def Ksq  : Orc := Orc.of Kos false 0 fun x => (Kx0 x.1, [.d (.pair (.slc (.arr 16 (.int .u8))) (.pair (.slc (.pair (.int .i64) (.pair (.arr 16 (.int .u8)) .unit))) .unit)) (Jkz x.1), .d (.int .i64) (J3r x.1)])
def Kjg  : List (FuncId × Orc) := []
theorem K45 (F : Nat) (x : Jbb Kos) (kend : List BV → ZO) : Jav prog (bkZ Kjg) F 20 31 (Jag Kos x) [.d (.pair (.slc (.arr 16 (.int .u8))) (.pair (.slc (.pair (.int .i64) (.pair (.arr 16 (.int .u8)) .unit))) .unit)), .d (.int .i64)] kend = dNew F x.1 none (fun y0 y1 => kend [BV.d (.pair (.slc (.arr 16 (.int .u8))) (.pair (.slc (.pair (.int .i64) (.pair (.arr 16 (.int .u8)) .unit))) .unit)) y0, BV.d (.int .i64) y1]) := by kernel_rfl
theorem Kec  : Jaf prog 31 Ksq := Jaz (B0 := bkY Kjg) bkN bkG Jax bkT K45 (Jae fz) (by kernel_rfl) (fun _ => rfl) (bkO _) (fun x h => (Kt0 x.1 h).elim fun F hF => ⟨F, fun kend => hF none _⟩)
@[reducible] def J5e  : List PM := [.d (.pair (.slc (.arr 16 (.int .u8))) (.pair (.slc (.pair (.int .i64) (.pair (.arr 16 (.int .u8)) .unit))) .unit))]
def Jnj  : Orc := Orc.of J5e true 0 fun x => (Jip x.1, [.d (.int .i64) (Jes x.1)])
@[reducible] def Jez  : Tpl := { cur := ⟨[(0, .var (.slc (.pair (.int .i64) (.pair (.arr 16 (.int .u8)) .unit)))), (0, .fn 63 (.pr (.ptr 0 []) (.un))), (2, .var (.int .i64)), (2, .var (.int .i64)), (0, .var (.int .i64))], 10⟩, stk := [⟨[], 9⟩, ⟨[(11, .lit false), (3, .lit false)], 5⟩, ⟨[], 0⟩], heap := [.box (.var (.pair (.slc (.arr 16 (.int .u8))) (.pair (.slc (.pair (.int .i64) (.pair (.arr 16 (.int .u8)) .unit))) .unit)))] }
def Kot  : List (FuncId × Orc) := []
def J0g  : Book := { Γ := gam, orc := Jb2 Kot, hint := Jbd [(105, { keep := some [0, 1, 4, 7, 8], keeps := [(2, [0, 1, 4, 7, 8])], own := [], dat := [], stk := [[], [11, 15]] })] }
def Kou (F : Nat) (nx : Jez.T → ZO) (kq : ZK) (x : Jez.T) : ZO := Jwe F none (fun s s4 s7 s8 f => nx ((s, (((), ()), (s4, (s7, (s8, ()))))), (((), (((), ((), ())), ((), ()))), (f, ())))) (fun y0 y1 y2 y3 y4 => kq .ret (Jez.inst ((y0, (((), ()), (y1, (y2, (y3, ()))))), (((), (((), ((), ())), ((), ()))), (y4, ()))))) (fun y0 y1 y2 y3 y4 => kq (.exit 0) (Jez.inst ((y0, (((), ()), (y1, (y2, (y3, ()))))), (((), (((), ((), ())), ((), ()))), (y4, ()))))) x.1.1 x.1.2.2.1 x.1.2.2.2.1 x.1.2.2.2.2.1 x.2.2.1
def Kov (F m : Nat) (x : Jez.T) (kq : ZK) : ZO := Jkd F none (fun y0 y1 y2 y3 y4 => kq .ret (Jez.inst ((y0, (((), ()), (y1, (y2, (y3, ()))))), (((), (((), ((), ())), ((), ()))), (y4, ()))))) (fun y0 y1 y2 y3 y4 => kq (.exit 0) (Jez.inst ((y0, (((), ()), (y1, (y2, (y3, ()))))), (((), (((), ((), ())), ((), ()))), (y4, ()))))) m x.1.1 x.1.2.2.1 x.1.2.2.2.1 x.1.2.2.2.2.1 x.2.2.1
def Kjh (F : Nat) : List (LoE Unit) := [⟨105, 2, LO.of Jez (Kov F F)⟩]
def Juy (F : Nat) : Jcg Unit := { toBook := J0g, lo := Jdn (Kjh F), need := Jbe [(105, 1)] }
theorem J7u (F : Nat) : Jco prog (Juy F) F 105 0 2 Jez (Kou F) := fun d x KQ => by kernel_rfl
theorem Kow (F : Nat) : Jjm prog (Juy F) F := Jbk (l := Kjh F) rfl (fa (Jaw 0 (by kernel_rfl) (by kernel_rfl) (Jak (J7u F) (fun _ _ => rfl) (fun _ _ _ _ => rfl))) fz)
theorem Ku4 (F : Nat) (x : Jbb J5e) (kend : List BV → ZO) : Jav prog (Juy F) F 20 39 (Jag J5e x) [.d (.int .i64)] kend = Kx7 F x.1 none (fun y0 => kend [BV.d (.int .i64) y0]) := by kernel_rfl
theorem Jhy  : Jaf prog 39 Jnj := Jaz (B0 := J0g) bkN bkG Jax bkT Ku4 (Jae fz) (by kernel_rfl) (fun _ => rfl) Kow (fun x h => (Kgw x.1 h).elim fun F hF => ⟨F, fun kend => hF none _⟩)
@[reducible] def Juz  : List PM := [.d (.pair (.slc (.arr 16 (.int .u8))) (.pair (.slc (.pair (.int .i64) (.pair (.arr 16 (.int .u8)) .unit))) .unit))]
def Jq6  : Orc := Orc.of Juz true 1 fun x => (Jg3 x.1, [.o 62 (.arr 16 (.int .u8)) (Jia x.1)])
@[reducible] def Je0  : Tpl := { cur := ⟨[(3, .row 0), (6, .var (.slc (.pair (.int .i64) (.pair (.arr 16 (.int .u8)) .unit)))), (0, .var (.int .i64)), (0, .var (.int .i64))], 11⟩, stk := [⟨[], 0⟩], heap := [.row 62 (.arr 16 (.int .u8)) false] }
def Ked  : List (FuncId × Orc) := [(43, Jni)]
def Jto  : Book := { Γ := gam, orc := Jb2 Ked, hint := Jbd [(44, { keep := some [3, 10, 11, 12], keeps := [(3, [3, 10, 11, 12])], own := [], dat := [], stk := [] })] }
def Kee (F : Nat) (nx : Je0.T → ZO) (kq : ZK) (x : Je0.T) : ZO := Joi F none (fun s10 s11 s12 out => nx (((), (s10, (s11, (s12, ())))), (((), ()), (out, ())))) (fun y0 y1 y2 y3 => kq (.exit 0) (Je0.inst (((), (y0, (y1, (y2, ())))), (((), ()), (y3, ()))))) x.1.2.1 x.1.2.2.1 x.1.2.2.2.1 x.2.2.1
def Kef (F m : Nat) (x : Je0.T) (kq : ZK) : ZO := Jg7 F none (fun y0 y1 y2 y3 => kq (.exit 0) (Je0.inst (((), (y0, (y1, (y2, ())))), (((), ()), (y3, ()))))) m x.1.2.1 x.1.2.2.1 x.1.2.2.2.1 x.2.2.1
def J5f (F : Nat) : List (LoE Unit) := [⟨44, 3, LO.of Je0 (Kef F F)⟩]
def Jpa (F : Nat) : Jcg Unit := { toBook := Jto, lo := Jdn (J5f F), need := Jbe [] }
theorem J08 (F : Nat) : Jco prog (Jpa F) F 44 0 3 Je0 (Kee F) := fun d x KQ => by kernel_rfl
theorem Keg (F : Nat) : Jjm prog (Jpa F) F := Jbk (l := J5f F) rfl (fa (Jaw 0 (by kernel_rfl) (by kernel_rfl) (Jak (J08 F) (fun _ _ => rfl) (fun _ _ _ _ => rfl))) fz)
theorem Kji (F : Nat) (x : Jbb Juz) (kend : List BV → ZO) : Jav prog (Jpa F) F 20 44 (Jag Juz x) [.o 62 (.arr 16 (.int .u8))] kend = Kbw F x.1 none (fun y0 => kend [BV.o 62 (.arr 16 (.int .u8)) y0]) := by kernel_rfl
theorem Jnk  : Jaf prog 44 Jq6 := Jaz (B0 := Jto) bkN bkG Jax bkT Kji (Jae (fa Jhx fz)) (by kernel_rfl) (fun _ => rfl) Keg (fun x h => (J65 x.1 h).elim fun F hF => ⟨F, fun kend => hF none _⟩)
@[reducible] def Keh  : List PM := [.d (.pair (.slc (.arr 16 (.int .u8))) (.pair (.slc (.pair (.int .i64) (.pair (.arr 16 (.int .u8)) .unit))) .unit)), .d (.int .i64), .d (.int .i64)]
def Kjj  : Orc := Orc.of Keh true 1 fun x => (Kbp x.1 x.2.1 x.2.2.1, [.o 62 (.arr 16 (.int .u8)) (Jd1 x.1 x.2.1 x.2.2.1), .d (.int .i64) (Jr2 x.1 x.2.1 x.2.2.1)])
def J94  : List (FuncId × Orc) := [(39, Jnj), (42, J5d), (43, Jni), (44, Jq6)]
theorem K1d (F : Nat) (x : Jbb Keh) (kend : List BV → ZO) : Jav prog (bkZ J94) F 20 13 (Jag Keh x) [.o 62 (.arr 16 (.int .u8)), .d (.int .i64)] kend = K7l F x.1 x.2.1 x.2.2.1 none (fun y0 y1 => kend [BV.o 62 (.arr 16 (.int .u8)) y0, BV.d (.int .i64) y1]) := by kernel_rfl
theorem J7v  : Jaf prog 13 Kjj := Jaz (B0 := bkY J94) bkN bkG Jax bkT K1d (Jae (fa Jhy (fa Jtn (fa Jhx (fa Jnk fz))))) (by kernel_rfl) (fun _ => rfl) (bkO _) (fun x h => (Kmt x.1 x.2.1 x.2.2.1 h).elim fun F hF => ⟨F, fun kend => hF none _⟩)
@[reducible] def Kox  : List PM := [.d (.pair (.slc (.arr 16 (.int .u8))) (.pair (.slc (.pair (.int .i64) (.pair (.arr 16 (.int .u8)) .unit))) .unit)), .d (.slc (.pair (.int .i64) (.pair (.int .i64) (.pair (.slc (.arr 16 (.int .u8))) .unit))))]
def J2k  : Orc := Orc.of Kox false 0 fun x => (J3s x.1 x.2.1, [.d (.pair (.slc (.arr 16 (.int .u8))) (.pair (.slc (.pair (.int .i64) (.pair (.arr 16 (.int .u8)) .unit))) .unit)) (Jib x.1 x.2.1), .d (.int .i64) (Kl3 x.1 x.2.1), .d (.int .i64) (Jn6 x.1 x.2.1)])
@[reducible] def Jlk  : Tpl := { cur := ⟨[(0, .ptr 0 []), (2, .ptr 3 []), (14, .var (.slc (.arr 16 (.int .u8)))), (0, .var (.int .i64)), (0, .var (.int .i64))], 20⟩, stk := [⟨[(1, .var (.slc (.pair (.int .i64) (.pair (.int .i64) (.pair (.slc (.arr 16 (.int .u8))) .unit))))), (2, .ptr 4 []), (0, .var (.int .i64)), (0, .var (.int .i64)), (1, .ptr 0 []), (0, .ptr 5 []), (0, .var (.int .i64)), (11, .var (.slc (.pair (.int .i64) (.pair (.int .i64) (.pair (.slc (.arr 16 (.int .u8))) .unit))))), (0, .var (.int .i64)), (0, .var (.int .i64))], 27⟩, ⟨[], 0⟩], heap := [.box (.pr (.row 1) (.pr (.row 2) (.var .unit))), .row 62 (.arr 16 (.int .u8)) false, .row 137 (.pair (.int .i64) (.pair (.arr 16 (.int .u8)) .unit)) false, .box (.var (.pair (.int .i64) (.pair (.int .i64) (.pair (.slc (.arr 16 (.int .u8))) .unit)))), .box (.var (.pair (.slc (.arr 16 (.int .u8))) (.pair (.slc (.pair (.int .i64) (.pair (.arr 16 (.int .u8)) .unit))) .unit))), .box (.fns [some 66, some 67])] }
@[reducible] def Jhz  : Tpl := { cur := ⟨[(1, .var (.slc (.pair (.int .i64) (.pair (.int .i64) (.pair (.slc (.arr 16 (.int .u8))) .unit))))), (2, .ptr 0 []), (0, .var (.int .i64)), (0, .var (.int .i64)), (1, .ptr 1 []), (0, .ptr 4 []), (12, .var (.slc (.pair (.int .i64) (.pair (.int .i64) (.pair (.slc (.arr 16 (.int .u8))) .unit))))), (0, .var (.int .i64)), (0, .var (.int .i64))], 27⟩, stk := [⟨[], 0⟩], heap := [.box (.var (.pair (.slc (.arr 16 (.int .u8))) (.pair (.slc (.pair (.int .i64) (.pair (.arr 16 (.int .u8)) .unit))) .unit))), .box (.pr (.row 2) (.pr (.row 3) (.var .unit))), .row 62 (.arr 16 (.int .u8)) false, .row 137 (.pair (.int .i64) (.pair (.arr 16 (.int .u8)) .unit)) false, .box (.fns [some 66, some 67])] }
def K1e  : List (FuncId × Orc) := [(39, Jnj), (42, J5d), (43, Jni), (44, Jq6), (65, J91)]
def J95  : Book := { Γ := gam, orc := Jb2 K1e, hint := Jbd [(12, { keep := some [1, 4, 5, 6, 8, 9, 22, 23, 24], keeps := [(6, [1, 4, 5, 6, 8, 9, 22, 23, 24])], own := [], dat := [], stk := [], ownb := [(8, 1, 25)] }), (66, { keep := some [0, 3, 18, 19, 20], keeps := [(4, [0, 3, 18, 19, 20])], own := [], dat := [], stk := [[1, 2, 4, 5, 6, 8, 9, 10, 20, 22, 23, 24]] })] }
def K1f (F : Nat) (nx : Jlk.T → ZO) (kq : ZK) (x : Jlk.T) : ZO := Kbx F none (fun s18 s19 s20 l s5 s6 i s22 s23 s24 h1 h2 op s4 => nx (((), ((), (s18, (s19, (s20, ()))))), (((l, ((), (s5, (s6, ((), ((), (i, (s22, (s23, (s24, ())))))))))), ((), ())), (((), ((), ())), (h1, (h2, (op, (s4, ((), ()))))))))) (fun y0 y1 y2 y3 y4 y5 y6 y7 y8 y9 y10 y11 y12 y13 => kq (.exit 0) (Jlk.inst (((), ((), (y0, (y1, (y2, ()))))), (((y3, ((), (y4, (y5, ((), ((), (y6, (y7, (y8, (y9, ())))))))))), ((), ())), (((), ((), ())), (y10, (y11, (y12, (y13, ((), ())))))))))) x.1.2.2.1 x.1.2.2.2.1 x.1.2.2.2.2.1 x.2.1.1.1 x.2.1.1.2.2.1 x.2.1.1.2.2.2.1 x.2.1.1.2.2.2.2.2.2.1 x.2.1.1.2.2.2.2.2.2.2.1 x.2.1.1.2.2.2.2.2.2.2.2.1 x.2.1.1.2.2.2.2.2.2.2.2.2.1 x.2.2.2.1 x.2.2.2.2.1 x.2.2.2.2.2.1 x.2.2.2.2.2.2.1
def K1g (F m : Nat) (x : Jlk.T) (kq : ZK) : ZO := Jr9 F none (fun y0 y1 y2 y3 y4 y5 y6 y7 y8 y9 y10 y11 y12 y13 => kq (.exit 0) (Jlk.inst (((), ((), (y0, (y1, (y2, ()))))), (((y3, ((), (y4, (y5, ((), ((), (y6, (y7, (y8, (y9, ())))))))))), ((), ())), (((), ((), ())), (y10, (y11, (y12, (y13, ((), ())))))))))) m x.1.2.2.1 x.1.2.2.2.1 x.1.2.2.2.2.1 x.2.1.1.1 x.2.1.1.2.2.1 x.2.1.1.2.2.2.1 x.2.1.1.2.2.2.2.2.2.1 x.2.1.1.2.2.2.2.2.2.2.1 x.2.1.1.2.2.2.2.2.2.2.2.1 x.2.1.1.2.2.2.2.2.2.2.2.2.1 x.2.2.2.1 x.2.2.2.2.1 x.2.2.2.2.2.1 x.2.2.2.2.2.2.1
def K1h (F : Nat) (nx : Jhz.T → ZO) (kq : ZK) (x : Jhz.T) : ZO := Kby F none (fun l s5 s6 s22 s23 s24 s4 h2 h3 => nx ((l, ((), (s5, (s6, ((), ((), (s22, (s23, (s24, ()))))))))), (((), ()), (s4, (((), ((), ())), (h2, (h3, ((), ())))))))) (fun y0 y1 y2 y3 y4 y5 y6 y7 y8 => kq .ret (Jhz.inst ((y0, ((), (y1, (y2, ((), ((), (y3, (y4, (y5, ()))))))))), (((), ()), (y6, (((), ((), ())), (y7, (y8, ((), ()))))))))) (fun y0 y1 y2 y3 y4 y5 y6 y7 y8 => kq (.exit 0) (Jhz.inst ((y0, ((), (y1, (y2, ((), ((), (y3, (y4, (y5, ()))))))))), (((), ()), (y6, (((), ((), ())), (y7, (y8, ((), ()))))))))) x.1.1 x.1.2.2.1 x.1.2.2.2.1 x.1.2.2.2.2.2.2.1 x.1.2.2.2.2.2.2.2.1 x.1.2.2.2.2.2.2.2.2.1 x.2.2.1 x.2.2.2.2.1 x.2.2.2.2.2.1
def K1i (F m : Nat) (x : Jhz.T) (kq : ZK) : ZO := Joj F none (fun y0 y1 y2 y3 y4 y5 y6 y7 y8 => kq .ret (Jhz.inst ((y0, ((), (y1, (y2, ((), ((), (y3, (y4, (y5, ()))))))))), (((), ()), (y6, (((), ((), ())), (y7, (y8, ((), ()))))))))) (fun y0 y1 y2 y3 y4 y5 y6 y7 y8 => kq (.exit 0) (Jhz.inst ((y0, ((), (y1, (y2, ((), ((), (y3, (y4, (y5, ()))))))))), (((), ()), (y6, (((), ((), ())), (y7, (y8, ((), ()))))))))) m x.1.1 x.1.2.2.1 x.1.2.2.2.1 x.1.2.2.2.2.2.2.1 x.1.2.2.2.2.2.2.2.1 x.1.2.2.2.2.2.2.2.2.1 x.2.2.1 x.2.2.2.2.1 x.2.2.2.2.2.1
def K1j (F : Nat) : List (LoE Unit) := [⟨66, 4, LO.of Jlk (K1g F F)⟩,
 ⟨12, 6, LO.of Jhz (K1i F F)⟩]
def Jxh (F : Nat) : Jcg Unit := { toBook := J95, lo := Jdn (K1j F), need := Jbe [(12, 1)] }
theorem Kjk (F : Nat) : Jco prog (Jxh F) F 66 0 4 Jlk (K1f F) := fun d x KQ => by kernel_rfl
theorem Kjl (F : Nat) : Jco prog (Jxh F) F 12 0 6 Jhz (K1h F) := fun d x KQ => by kernel_rfl
theorem K1k (F : Nat) : Jjm prog (Jxh F) F := Jbk (l := K1j F) rfl (fa (Jaw 0 (by kernel_rfl) (by kernel_rfl) (Jak (Kjk F) (fun _ _ => rfl) (fun _ _ _ _ => rfl))) (fa (Jaw 0 (by kernel_rfl) (by kernel_rfl) (Jak (Kjl F) (fun _ _ => rfl) (fun _ _ _ _ => rfl))) fz))
theorem K46 (F : Nat) (x : Jbb Kox) (kend : List BV → ZO) : Jav prog (Jxh F) F 20 12 (Jag Kox x) [.d (.pair (.slc (.arr 16 (.int .u8))) (.pair (.slc (.pair (.int .i64) (.pair (.arr 16 (.int .u8)) .unit))) .unit)), .d (.int .i64), .d (.int .i64)] kend = dRun F x.1 x.2.1 none (fun y0 y1 y2 => kend [BV.d (.pair (.slc (.arr 16 (.int .u8))) (.pair (.slc (.pair (.int .i64) (.pair (.arr 16 (.int .u8)) .unit))) .unit)) y0, BV.d (.int .i64) y1, BV.d (.int .i64) y2]) := by kernel_rfl
theorem Jpb  : Jaf prog 12 J2k := Jaz (B0 := J95) bkN bkG Jax bkT K46 (Jae (fa Jhy (fa Jtn (fa Jhx (fa Jnk (fa J5c fz)))))) (by kernel_rfl) (fun _ => rfl) K1k (fun x h => (Kt1 x.1 x.2.1 h).elim fun F hF => ⟨F, fun kend => hF none _⟩)
@[reducible] def Jy4  : List PM := [.d (.slc (.int .i64)), .d (.int .i64)]
def J5g  : Orc := Orc.of Jy4 false 0 fun x => (Jqe x.1 x.2.1, [.d (.int .i64) (Jic x.1 x.2.1), .d (.slc (.int .i64)) (Jmu x.1 x.2.1)])
def J0h  : List (FuncId × Orc) := []
theorem Koy (F : Nat) (x : Jbb Jy4) (kend : List BV → ZO) : Jav prog (bkZ J0h) F 20 101 (Jag Jy4 x) [.d (.int .i64), .d (.slc (.int .i64))] kend = Kl8 F x.1 x.2.1 none (fun y0 y1 => kend [BV.d (.int .i64) y0, BV.d (.slc (.int .i64)) y1]) := by kernel_rfl
theorem J09  : Jaf prog 101 J5g := Jaz (B0 := bkY J0h) bkN bkG Jax bkT Koy (Jae fz) (by kernel_rfl) (fun _ => rfl) (bkO _) (fun x h => (Kch x.1 x.2.1 h).elim fun F hF => ⟨F, fun kend => hF none _⟩)
@[reducible] def J5h  : List PM := [.d (.pair (.slc (.arr 16 (.int .u8))) (.pair (.slc (.pair (.int .i64) (.pair (.arr 16 (.int .u8)) .unit))) .unit)), .d (.slc (.int .i64))]
def J96  : Orc := Orc.of J5h false 1 fun x => (Jv7 x.1 x.2.1, [.d (.pair (.slc (.arr 16 (.int .u8))) (.pair (.slc (.pair (.int .i64) (.pair (.arr 16 (.int .u8)) .unit))) .unit)) (Jqf x.1 x.2.1), .o 3 (.int .i64) (Jqg x.1 x.2.1), .d (.int .i64) (Jqh x.1 x.2.1)])
@[reducible] def Jgw  : Tpl := { cur := ⟨[(1, .var (.slc (.int .i64))), (0, .ptr 0 []), (1, .ptr 1 []), (3, .hnd .map 2), (0, .row 3), (14, .var (.slc (.pair (.int .i64) (.pair (.arr 16 (.int .u8)) .unit)))), (0, .var (.int .i64)), (0, .var (.int .i64))], 68⟩, stk := [⟨[], 0⟩], heap := [.box (.var (.pair (.slc (.arr 16 (.int .u8))) (.pair (.slc (.pair (.int .i64) (.pair (.arr 16 (.int .u8)) .unit))) .unit))), .box (.var (.pair (.slc (.arr 16 (.int .u8))) (.pair (.slc (.pair (.int .i64) (.pair (.arr 16 (.int .u8)) .unit))) .unit))), .mps 3 23 62 (.int .i64) (.arr 16 (.int .u8)), .row 3 (.int .i64) false] }
@[reducible] def Jgx  : Tpl := { cur := ⟨[(1, .var (.slc (.int .i64))), (2, .ptr 0 []), (3, .hnd .map 1), (3, .ptr 2 []), (53, .row 4), (0, .var (.int .i64)), (0, .var (.int .i64))], 26⟩, stk := [⟨[], 0⟩], heap := [.box (.var (.pair (.slc (.arr 16 (.int .u8))) (.pair (.slc (.pair (.int .i64) (.pair (.arr 16 (.int .u8)) .unit))) .unit))), .mp 3 23 (.int .i64) (.slc (.arr 16 (.int .u8))), .box (.pr (.row 3) (.var (.pair (.slc (.pair (.int .i64) (.pair (.arr 16 (.int .u8)) .unit))) .unit))), .row 62 (.arr 16 (.int .u8)) false, .row 3 (.int .i64) false] }
def Koz  : List (FuncId × Orc) := [(39, Jnj), (43, Jni), (101, J5g), (102, Kjf)]
def J0i  : Book := { Γ := gam, orc := Jb2 Koz, hint := Jbd [(56, { keep := some [1, 2, 4, 8, 9, 12, 24, 25, 26, 66, 67, 68], keeps := [(7, [1, 2, 4, 8, 9, 24, 25, 26]), (16, [1, 4, 8, 12, 66, 67, 68])], own := [(9, 64)], dat := [], stk := [], fz := [(16, [8])] })] }
def Ko0 (F : Nat) (nx : Jgw.T → ZO) (kq : ZK) (x : Jgw.T) : ZO := Jwf F none (fun choices s24 s25 s26 d_ s4 versions places => nx ((choices, ((), ((), ((), ((), (s24, (s25, (s26, ())))))))), (((), ()), (d_, (s4, (versions, (places, ()))))))) (fun y0 y1 y2 y3 y4 y5 y6 y7 => kq (.exit 0) (Jgw.inst ((y0, ((), ((), ((), ((), (y1, (y2, (y3, ())))))))), (((), ()), (y4, (y5, (y6, (y7, ())))))))) x.1.1 x.1.2.2.2.2.2.1 x.1.2.2.2.2.2.2.1 x.1.2.2.2.2.2.2.2.1 x.2.2.1 x.2.2.2.1 x.2.2.2.2.1 x.2.2.2.2.2.1
def Ko1 (F m : Nat) (x : Jgw.T) (kq : ZK) : ZO := Jke F none (fun y0 y1 y2 y3 y4 y5 y6 y7 => kq (.exit 0) (Jgw.inst ((y0, ((), ((), ((), ((), (y1, (y2, (y3, ())))))))), (((), ()), (y4, (y5, (y6, (y7, ())))))))) m x.1.1 x.1.2.2.2.2.2.1 x.1.2.2.2.2.2.2.1 x.1.2.2.2.2.2.2.2.1 x.2.2.1 x.2.2.2.1 x.2.2.2.2.1 x.2.2.2.2.2.1
def Ko2 (F : Nat) (nx : Jgx.T → ZO) (kq : ZK) (x : Jgx.T) : ZO := Jwg F none (fun choices s67 s68 s4 versions out h3 s66 => nx ((choices, ((), ((), ((), ((), (s67, (s68, ()))))))), (((), ()), (s4, (versions, (((), out), (h3, (s66, ())))))))) (fun y0 y1 y2 y3 y4 y5 y6 y7 => kq (.exit 2) (Jgx.inst ((y0, ((), ((), ((), ((), (y1, (y2, ()))))))), (((), ()), (y3, (y4, (((), y5), (y6, (y7, ()))))))))) x.1.1 x.1.2.2.2.2.2.1 x.1.2.2.2.2.2.2.1 x.2.2.1 x.2.2.2.1 x.2.2.2.2.1.2 x.2.2.2.2.2.1 x.2.2.2.2.2.2.1
def Ko3 (F m : Nat) (x : Jgx.T) (kq : ZK) : ZO := Jkf F none (fun y0 y1 y2 y3 y4 y5 y6 y7 => kq (.exit 2) (Jgx.inst ((y0, ((), ((), ((), ((), (y1, (y2, ()))))))), (((), ()), (y3, (y4, (((), y5), (y6, (y7, ()))))))))) m x.1.1 x.1.2.2.2.2.2.1 x.1.2.2.2.2.2.2.1 x.2.2.1 x.2.2.2.1 x.2.2.2.2.1.2 x.2.2.2.2.2.1 x.2.2.2.2.2.2.1
def Kjm (F : Nat) : List (LoE Unit) := [⟨56, 7, LO.of Jgw (Ko1 F F)⟩,
 ⟨56, 16, LO.of Jgx (Ko3 F F)⟩]
def Jpc (F : Nat) : Jcg Unit := { toBook := J0i, lo := Jdn (Kjm F), need := Jbe [] }
theorem J7w (F : Nat) : Jco prog (Jpc F) F 56 0 7 Jgw (Ko0 F) := fun d x KQ => by kernel_rfl
theorem J7x (F : Nat) : Jco prog (Jpc F) F 56 1 16 Jgx (Ko2 F) := fun d x KQ => by kernel_rfl
theorem Ko4 (F : Nat) : Jjm prog (Jpc F) F := Jbk (l := Kjm F) rfl (fa (Jaw 0 (by kernel_rfl) (by kernel_rfl) (Jak (J7w F) (fun _ _ => rfl) (fun _ _ _ _ => rfl))) (fa (Jaw 1 (by kernel_rfl) (by kernel_rfl) (Jak (J7x F) (fun _ _ => rfl) (fun _ _ _ _ => rfl))) fz))
theorem Ku5 (F : Nat) (x : Jbb J5h) (kend : List BV → ZO) : Jav prog (Jpc F) F 20 56 (Jag J5h x) [.d (.pair (.slc (.arr 16 (.int .u8))) (.pair (.slc (.pair (.int .i64) (.pair (.arr 16 (.int .u8)) .unit))) .unit)), .o 3 (.int .i64), .d (.int .i64)] kend = Kx8 F x.1 x.2.1 none (fun y0 y1 y2 => kend [BV.d (.pair (.slc (.arr 16 (.int .u8))) (.pair (.slc (.pair (.int .i64) (.pair (.arr 16 (.int .u8)) .unit))) .unit)) y0, BV.o 3 (.int .i64) y1, BV.d (.int .i64) y2]) := by kernel_rfl
theorem J5i  : Jaf prog 56 J96 := Jaz (B0 := J0i) bkN bkG Jax bkT Ku5 (Jae (fa Jhy (fa Jhx (fa J09 (fa J7t fz))))) (by kernel_rfl) (fun _ => rfl) Ko4 (fun x h => (Kgz x.1 x.2.1 h).elim fun F hF => ⟨F, fun kend => hF none _⟩)
@[reducible] def Jpd  : List PM := [.d (.pair (.slc (.arr 16 (.int .u8))) (.pair (.slc (.pair (.int .i64) (.pair (.arr 16 (.int .u8)) .unit))) .unit)), .d (.slc (.pair (.int .i64) (.pair (.int .i64) (.pair (.slc (.arr 16 (.int .u8))) .unit)))), .d (.int .i64), .d (.slc (.int .i64))]
def Jtp  : Orc := Orc.of Jpd false 1 fun x => (Jqi x.1 x.2.1 x.2.2.1 x.2.2.2.1, [.d (.pair (.slc (.arr 16 (.int .u8))) (.pair (.slc (.pair (.int .i64) (.pair (.arr 16 (.int .u8)) .unit))) .unit)) (Jaj x.1 x.2.1 x.2.2.1 x.2.2.2.1), .o 3 (.int .i64) (Jbq x.1 x.2.1 x.2.2.1 x.2.2.2.1), .d (.int .i64) (Jjp x.1 x.2.1 x.2.2.1 x.2.2.2.1)])
def Jq7  : List (FuncId × Orc) := [(12, J2k), (39, Jnj), (56, J96)]
theorem J7y (F : Nat) (x : Jbb Jpd) (kend : List BV → ZO) : Jav prog (bkZ Jq7) F 20 25 (Jag Jpd x) [.d (.pair (.slc (.arr 16 (.int .u8))) (.pair (.slc (.pair (.int .i64) (.pair (.arr 16 (.int .u8)) .unit))) .unit)), .o 3 (.int .i64), .d (.int .i64)] kend = Jyl F x.1 x.2.1 x.2.2.1 x.2.2.2.1 none (fun y0 y1 y2 => kend [BV.d (.pair (.slc (.arr 16 (.int .u8))) (.pair (.slc (.pair (.int .i64) (.pair (.arr 16 (.int .u8)) .unit))) .unit)) y0, BV.o 3 (.int .i64) y1, BV.d (.int .i64) y2]) := by kernel_rfl
theorem Ju0  : Jaf prog 25 Jtp := Jaz (B0 := bkY Jq7) bkN bkG Jax bkT J7y (Jae (fa Jpb (fa Jhy (fa J5i fz)))) (by kernel_rfl) (fun _ => rfl) (bkO _) (fun x h => (J0y x.1 x.2.1 x.2.2.1 x.2.2.2.1 h).elim fun F hF => ⟨F, fun kend => hF none _⟩)
end Go.AI
namespace Go.AI
open Go Go.Proofs
def rcvs (f : FuncId) : Option Rcv := bif Nat.beq f 45 then some { clo := 68, ncap := 2, pan := 142, sto := [(0, 32, none), (1, 4, some false)] } else none
theorem K85 (p q : Value) (w : World) : CallsDIn (Fe none) 0 Tryz.prog 68 #[p, q] .returning w fun e u' w' => (∃ v, e = .returned v) ∧ u' = .returning ∧ w' = w := by
 refine callsDIn_of_wpSIn Tryz.func68 rfl trivial fun c₀ cs hu => ?_
 apply wpSIn_seq
 apply wpSIn_region
 simp [wpOpsSIn, go_sem, recoverD, hu, Tryz.ntmps68, Exit.thenS]
 apply wpSIn_seq
 apply wpSIn_region
 simp [wpOpsSIn, go_sem, Exit.thenS]
 refine wpSIn_cond (t := false) (by simp [Act.eval, Array.replicate]) ?_
 simp only [Bool.false_eq_true, if_false]
 refine wpSIn_of_wpIn rfl (wpIn_skip ?_)
 cases c₀
 simp_all [bodyPostS, results, Tryz.results68]
theorem K86 (p q : Value) (w w' : World) (h : Kf9 Tryz.prog [p, q] [(0, 32, none), (1, 4, some false)] (w.alloc (.cells #[] 142)) w') :
  CallsDIn (Fe none) 0 Tryz.prog 68 #[p, q] (.panicking (panicked 142)) w fun e u' w'' => (∃ v, e = .returned v) ∧ settle u' = .returning ∧ w'' = w' := by
 obtain ⟨w1, h1, w2, h2, h3⟩ := h
 simp only [Kf9] at h3
 subst h3
 have hta : ∀ w, (Instr.typeAssert (.iface 142 (.agg #[])) 20 142 true).run Tryz.prog w = .ok (.tuple #[.agg #[], .bool true]) w := fun w => by kernel_rfl
 refine callsDIn_of_wpSIn Tryz.func68 rfl trivial fun c₀ cs hu => ?_
 apply wpSIn_seq
 apply wpSIn_region
 simp [wpOpsSIn, go_sem, recoverD, hu, Tryz.ntmps68, Exit.thenS, panicked]
 apply wpSIn_seq
 apply wpSIn_region
 simp [wpOpsSIn, go_sem, Exit.thenS]
 refine wpSIn_cond (t := true) (by simp [Act.eval, Array.replicate]) ?_
 simp only [if_true]
 apply wpSIn_seq
 apply wpSIn_seq
 apply wpSIn_region
 simp [wpOpsSIn, go_sem, Exit.thenS, hta]
 apply wpSIn_seq
 apply wpSIn_region
 simp [wpOpsSIn, go_sem, Exit.thenS]
 refine wpSIn_cond (t := false) (by simp [Act.eval, Array.replicate]) ?_
 simp only [Bool.false_eq_true, if_false]
 refine wpSIn_of_wpIn rfl (wpIn_skip ?_)
 simp only [Exit.thenS]
 apply wpSIn_region
 have g1 : (Instr.storeAt 32 p (.slice none 0 0)).run Tryz.prog (w.alloc (.cells #[] 142)) = .ok () w1 := h1
 have g2 : (Instr.storeAt 4 q (.bool false)).run Tryz.prog w1 = .ok () w' := h2
 show wpOpsSIn (Fe none) 0 Tryz.prog _ _ [0, 1] _ _ _
 simp [wpOpsSIn, execOp, Act.eval, Act.put, Region.wanted, g1, g2, bodyPostS, results, Tryz.results68, settle]
 exact ⟨fun _ _ => trivial, fun _ _ => trivial⟩
theorem K87  : Kte Tryz.prog rcvs := by
 intro f rc h
 unfold rcvs at h
 cases hf : Nat.beq f 45 with
 | false => rw [hf] at h; cases h
 | true =>
  rw [hf] at h
  cases h
  have two : ∀ caps : Array Value, caps.size = 2 → ∃ p q, caps = #[p, q] := fun caps h => by
   obtain ⟨l⟩ := caps
   match l, h with
   | [p, q], _ => exact ⟨p, q, rfl⟩
  refine ⟨⟨Tryz.f68, Tryz.func68, by kernel_rfl, by kernel_rfl⟩, fun caps w h => ?_, fun caps w h => ⟨.cells #[] 142, fun w' hs => ?_⟩⟩
  ·obtain ⟨p, q, rfl⟩ := two caps h
   exact K85 p q w
  ·obtain ⟨p, q, rfl⟩ := two caps h
   exact K86 p q w w' hs
end Go.AI
namespace Go.AI
open Go
open Go.Proofs.Tryz (prog)
set_option linter.unusedVariables false
@[reducible] def Jy5  : List PM := [.d (.int .u32)]
def J5j  : Orc := Orc.of Jy5 true 0 fun x => (Jv9 x.1, [.d (.int .u32) (Jiz x.1)])
@[reducible] def Jft  : Tpl := { cur := ⟨[(0, .var (.int .u32)), (3, .var (.int .i64))], 11⟩, stk := [⟨[], 0⟩], heap := [] }
def Kjn  : List (FuncId × Orc) := []
def Jxi  : Book := { Γ := gam, orc := Jb2 Kjn, hint := Jbd [(163, { keep := some [0, 4], keeps := [(2, [0, 4])], own := [], dat := [], stk := [] })] }
def Kjo (F : Nat) (nx : Jft.T → ZO) (kq : ZK) (x : Jft.T) : ZO := Jyp F none (fun register s4 => nx ((register, (s4, ())), (((), ()), ()))) (fun y0 y1 => kq (.exit 0) (Jft.inst ((y0, (y1, ())), (((), ()), ())))) x.1.1 x.1.2.1
def Kjp (F m : Nat) (x : Jft.T) (kq : ZK) : ZO := Jk3 F none (fun y0 y1 => kq (.exit 0) (Jft.inst ((y0, (y1, ())), (((), ()), ())))) m x.1.1 x.1.2.1
def J97 (F : Nat) : List (LoE Unit) := [⟨163, 2, LO.of Jft (Kjp F F)⟩]
def Jq8 (F : Nat) : Jcg Unit := { toBook := Jxi, lo := Jdn (J97 F), need := Jbe [] }
theorem J5k (F : Nat) : Jco prog (Jq8 F) F 163 0 2 Jft (Kjo F) := fun d x KQ => by kernel_rfl
theorem Kjq (F : Nat) : Jjm prog (Jq8 F) F := Jbk (l := J97 F) rfl (fa (Jaw 0 (by kernel_rfl) (by kernel_rfl) (Jak (J5k F) (fun _ _ => rfl) (fun _ _ _ _ => rfl))) fz)
theorem Ko5 (F : Nat) (x : Jbb Jy5) (kend : List BV → ZO) : Jav prog (Jq8 F) F 20 163 (Jag Jy5 x) [.d (.int .u32)] kend = Kme F x.1 none (fun y0 => kend [BV.d (.int .u32) y0]) := by kernel_rfl
theorem J1a  : Jaf prog 163 J5j := Jaz (B0 := Jxi) bkN bkG Jax bkT Ko5 (Jae fz) (by kernel_rfl) (fun _ => rfl) Kjq (fun x h => (Kc2 x.1 h).elim fun F hF => ⟨F, fun kend => hF none _⟩)
@[reducible] def J5l  : List PM := []
def J98  : Orc := Orc.of J5l true 0 fun x => (J12, [.d (.arr 256 (.int .u32)) (Jjs)])
@[reducible] def Jgy  : Tpl := { cur := ⟨[(0, .ptr 0 []), (0, .ptr 1 []), (1, .var (.int .i64))], 9⟩, stk := [⟨[], 0⟩], heap := [.box (.var (.arr 256 (.int .u32))), .box (.var (.arr 256 (.int .u32)))] }
def Ko6  : List (FuncId × Orc) := [(163, J5j)]
def J0j  : Book := { Γ := gam, orc := Jb2 Ko6, hint := Jbd [(149, { keep := some [0, 1, 3], keeps := [(3, [0, 1, 3])], own := [], dat := [], stk := [] })] }
def Ko7 (F : Nat) (nx : Jgy.T → ZO) (kq : ZK) (x : Jgy.T) : ZO := J34 F none (fun s3 s0 out => nx (((), ((), (s3, ()))), (((), ()), (s0, (out, ()))))) (fun y0 y1 y2 => kq (.exit 0) (Jgy.inst (((), ((), (y0, ()))), (((), ()), (y1, (y2, ())))))) x.1.2.2.1 x.2.2.1 x.2.2.2.1
def Ko8 (F m : Nat) (x : Jgy.T) (kq : ZK) : ZO := Jm7 F none (fun y0 y1 y2 => kq (.exit 0) (Jgy.inst (((), ((), (y0, ()))), (((), ()), (y1, (y2, ())))))) m x.1.2.2.1 x.2.2.1 x.2.2.2.1
def Kjr (F : Nat) : List (LoE Unit) := [⟨149, 3, LO.of Jgy (Ko8 F F)⟩]
def Ju1 (F : Nat) : Jcg Unit := { toBook := J0j, lo := Jdn (Kjr F), need := Jbe [] }
theorem J7z (F : Nat) : Jco prog (Ju1 F) F 149 0 3 Jgy (Ko7 F) := fun d x KQ => by kernel_rfl
theorem Ko9 (F : Nat) : Jjm prog (Ju1 F) F := Jbk (l := Kjr F) rfl (fa (Jaw 0 (by kernel_rfl) (by kernel_rfl) (Jak (J7z F) (fun _ _ => rfl) (fun _ _ _ _ => rfl))) fz)
theorem Ku6 (F : Nat) (x : Jbb J5l) (kend : List BV → ZO) : Jav prog (Ju1 F) F 20 149 (Jag J5l x) [.d (.arr 256 (.int .u32))] kend = Kye F  none (fun y0 => kend [BV.d (.arr 256 (.int .u32)) y0]) := by kernel_rfl
theorem J5m  : Jaf prog 149 J98 := Jaz (B0 := J0j) bkN bkG Jax bkT Ku6 (Jae (fa J1a fz)) (by kernel_rfl) (fun _ => rfl) Ko9 (fun x h => (Khi  h).elim fun F hF => ⟨F, fun kend => hF none _⟩)
@[reducible] def Kpa  : List PM := [.d (.int .u32), .d (.slc (.int .u8))]
def Ksr  : Orc := Orc.of Kpa true 0 fun x => (Kgp x.1 x.2.1, [.d (.int .u32) (Kq8 x.1 x.2.1)])
@[reducible] def Jll  : Tpl := { cur := ⟨[(0, .hnd .yield 0), (4, .var (.slc (.int .u8))), (0, .var (.int .i64)), (0, .var (.int .i64))], 8⟩, stk := [⟨[(0, .hnd .yield 0)], 0⟩, ⟨[(1, .fn 150 (.pr (.ptr 3 []) (.un))), (0, .ptr 1 []), (1, .var (.int .u32))], 15⟩, ⟨[(6, .var (.int .u32))], 4⟩, ⟨[], 0⟩], heap := [.lp 129 3 ⟨[(2, .ptr 1 []), (2, .ptr 2 [])], 14⟩ .ready, .box (.var (.int .u32)), .box (.var (.arr 256 (.int .u32))), .box (.var (.slc (.int .u8)))] }
def K1l  : List (FuncId × Orc) := [(149, J98)]
def J99  : Book := { Γ := gam, orc := Jb2 K1l, hint := Jbd [(150, { keep := some [0, 5, 6, 7], keeps := [(1, [0, 5, 6, 7])], own := [], dat := [], stk := [[0], [1, 2, 4, 6, 9], [6]] })] }
def K1m (F : Nat) (nx : Jll.T → ZO) (kq : ZK) (x : Jll.T) : ZO := Kb9 F none (fun s5 s6 s7 s4 s61 register t bytes => nx (((), (s5, (s6, (s7, ())))), ((((), ()), ((((), ()), ((), (s4, ()))), ((s61, ()), ((), ())))), (((), ((), ())), (register, (t, (bytes, ()))))))) (fun y0 y1 y2 y3 y4 y5 y6 y7 => kq (.exit 0) (Jll.inst (((), (y0, (y1, (y2, ())))), ((((), ()), ((((), ()), ((), (y3, ()))), ((y4, ()), ((), ())))), (((), ((), ())), (y5, (y6, (y7, ())))))))) x.1.2.1 x.1.2.2.1 x.1.2.2.2.1 x.2.1.2.1.2.2.1 x.2.1.2.2.1.1 x.2.2.2.1 x.2.2.2.2.1 x.2.2.2.2.2.1
def K1n (F m : Nat) (x : Jll.T) (kq : ZK) : ZO := Jsh F none (fun y0 y1 y2 y3 y4 y5 y6 y7 => kq (.exit 0) (Jll.inst (((), (y0, (y1, (y2, ())))), ((((), ()), ((((), ()), ((), (y3, ()))), ((y4, ()), ((), ())))), (((), ((), ())), (y5, (y6, (y7, ())))))))) m x.1.2.1 x.1.2.2.1 x.1.2.2.2.1 x.2.1.2.1.2.2.1 x.2.1.2.2.1.1 x.2.2.2.1 x.2.2.2.2.1 x.2.2.2.2.2.1
def K1o (F : Nat) : List (LoE Unit) := [⟨150, 1, LO.of Jll (K1n F F)⟩]
def J5n (F : Nat) : Jcg Unit := { toBook := J99, lo := Jdn (K1o F), need := Jbe [(150, 1)] }
theorem Kjs (F : Nat) : Jco prog (J5n F) F 150 0 1 Jll (K1m F) := fun d x KQ => by kernel_rfl
theorem K1p (F : Nat) : Jjm prog (J5n F) F := Jbk (l := K1o F) rfl (fa (Jaw 0 (by kernel_rfl) (by kernel_rfl) (Jak (Kjs F) (fun _ _ => rfl) (fun _ _ _ _ => rfl))) fz)
theorem K47 (F : Nat) (x : Jbb Kpa) (kend : List BV → ZO) : Jav prog (J5n F) F 20 104 (Jag Kpa x) [.d (.int .u32)] kend = cUpd F x.1 x.2.1 none (fun y0 => kend [BV.d (.int .u32) y0]) := by kernel_rfl
theorem Kei  : Jaf prog 104 Ksr := Jaz (B0 := J99) bkN bkG Jax bkT K47 (Jae (fa J5m fz)) (by kernel_rfl) (fun _ => rfl) K1p (fun x h => (Kud x.1 x.2.1 h).elim fun F hF => ⟨F, fun kend => hF none _⟩)
@[reducible] def Kpb  : List PM := [.d (.slc (.int .u8))]
def Kej  : Orc := Orc.of Kpb true 0 fun x => (J84 x.1, [.d (.int .u32) (J85 x.1)])
def Kjt  : List (FuncId × Orc) := [(104, Ksr)]
theorem K48 (F : Nat) (x : Jbb Kpb) (kend : List BV → ZO) : Jav prog (bkZ Kjt) F 20 62 (Jag Kpb x) [.d (.int .u32)] kend = cSum F x.1 none (fun y0 => kend [BV.d (.int .u32) y0]) := by kernel_rfl
theorem Jxj  : Jaf prog 62 Kej := Jaz (B0 := bkY Kjt) bkN bkG Jax bkT K48 (Jae (fa Kei fz)) (by kernel_rfl) (fun _ => rfl) (bkO _) (fun x h => (Kue x.1 h).elim fun F hF => ⟨F, fun kend => hF none _⟩)
@[reducible] def J5o  : List PM := [.d (.int .i64)]
def Jsw  : Orc := Orc.of J5o true 0 fun x => (Jjt x.1, [.d (.int .i64) (Jju x.1)])
def J5p  : List (FuncId × Orc) := []
theorem Ku7 (F : Nat) (x : Jbb J5o) (kend : List BV → ZO) : Jav prog (bkZ J5p) F 20 58 (Jag J5o x) [.d (.int .i64)] kend = Kyf F x.1 none (fun y0 => kend [BV.d (.int .i64) y0]) := by kernel_rfl
theorem Jlm  : Jaf prog 58 Jsw := Jaz (B0 := bkY J5p) bkN bkG Jax bkT Ku7 (Jae fz) (by kernel_rfl) (fun _ => rfl) (bkO _) (fun x h => (Khn x.1 h).elim fun F hF => ⟨F, fun kend => hF none _⟩)
@[reducible] def J5q  : List PM := [.d (.int .i64)]
def Kaa  : Orc := Orc.of J5q true 0 fun x => (J13 x.1, [.d (.int .i64) (Jiq x.1)])
def J5r  : List (FuncId × Orc) := [(58, Jsw)]
theorem Ku8 (F : Nat) (x : Jbb J5q) (kend : List BV → ZO) : Jav prog (bkZ J5r) F 20 34 (Jag J5q x) [.d (.int .i64)] kend = Kyg F x.1 none (fun y0 => kend [BV.d (.int .i64) y0]) := by kernel_rfl
theorem J5s  : Jaf prog 34 Kaa := Jaz (B0 := bkY J5r) bkN bkG Jax bkT Ku8 (Jae (fa Jlm fz)) (by kernel_rfl) (fun _ => rfl) (bkO _) (fun x h => (Kho x.1 h).elim fun F hF => ⟨F, fun kend => hF none _⟩)
@[reducible] def J5t  : List PM := [.d (.pair (.int .i64) (.pair (.int .i64) (.pair (.int .i64) .unit)))]
def Jy6  : Orc := Orc.of J5t true 0 fun x => (true, [.d (.int .i64) (Jjv x.1)])
def J5u  : List (FuncId × Orc) := []
theorem Ku9 (F : Nat) (x : Jbb J5t) (kend : List BV → ZO) : Jav prog (bkZ J5u) F 20 33 (Jag J5t x) [.d (.int .i64)] kend = Kyh F x.1 none (fun y0 => kend [BV.d (.int .i64) y0]) := by kernel_rfl
theorem Jq9  : Jaf prog 33 Jy6 := Jaz (B0 := bkY J5u) bkN bkG Jax bkT Ku9 (Jae fz) (by kernel_rfl) (fun _ => rfl) (bkO _) (fun x _ => (Khp x.1).elim fun F hF => ⟨F, fun kend => hF none _⟩)
@[reducible] def Kek  : List PM := []
def J5v  : Orc := Orc.of Kek true 0 fun x => (J3v, [.d (.arr 16 (.int .u8)) (Jyh)])
def Kab  : List (FuncId × Orc) := []
theorem K1q (F : Nat) (x : Jbb Kek) (kend : List BV → ZO) : Jav prog (bkZ Kab) F 20 46 (Jag Kek x) [.d (.arr 16 (.int .u8))] kend = Qae F  none (fun y0 => kend [BV.d (.arr 16 (.int .u8)) y0]) := by kernel_rfl
theorem Jtq  : Jaf prog 46 J5v := Jaz (B0 := bkY Kab) bkN bkG Jax bkT K1q (Jae fz) (by kernel_rfl) (fun _ => rfl) (bkO _) (fun x h => (Knc  h).elim fun F hF => ⟨F, fun kend => hF none _⟩)
@[reducible] def J5w  : List PM := [.d (.slc (.int .u8))]
def Kac  : Orc := Orc.of J5w true 0 fun x => (Jl2 x.1, [.d (.int .i64) (Jb8 x.1)])
@[reducible] def Jgz  : Tpl := { cur := ⟨[(3, .var (.int .i64)), (2, .var (.slc (.int .u8))), (0, .var (.int .i64)), (0, .var (.int .i64))], 10⟩, stk := [⟨[], 0⟩], heap := [] }
def Kpc  : List (FuncId × Orc) := []
def J0k  : Book := { Γ := gam, orc := Jb2 Kpc, hint := Jbd [(70, { keep := some [3, 6, 7, 8], keeps := [(3, [3, 6, 7, 8])], own := [], dat := [], stk := [] })] }
def Kpd (F : Nat) (nx : Jgz.T → ZO) (kq : ZK) (x : Jgz.T) : ZO := Jwn F none (fun n s6 s7 s8 => nx ((n, (s6, (s7, (s8, ())))), (((), ()), ()))) (fun y0 y1 y2 y3 => kq (.exit 0) (Jgz.inst ((y0, (y1, (y2, (y3, ())))), (((), ()), ())))) x.1.1 x.1.2.1 x.1.2.2.1 x.1.2.2.2.1
def Kpe (F m : Nat) (x : Jgz.T) (kq : ZK) : ZO := Jkj F none (fun y0 y1 y2 y3 => kq (.exit 0) (Jgz.inst ((y0, (y1, (y2, (y3, ())))), (((), ()), ())))) m x.1.1 x.1.2.1 x.1.2.2.1 x.1.2.2.2.1
def Kju (F : Nat) : List (LoE Unit) := [⟨70, 3, LO.of Jgz (Kpe F F)⟩]
def Ju2 (F : Nat) : Jcg Unit := { toBook := J0k, lo := Jdn (Kju F), need := Jbe [] }
theorem J70 (F : Nat) : Jco prog (Ju2 F) F 70 0 3 Jgz (Kpd F) := fun d x KQ => by kernel_rfl
theorem Kpf (F : Nat) : Jjm prog (Ju2 F) F := Jbk (l := Kju F) rfl (fa (Jaw 0 (by kernel_rfl) (by kernel_rfl) (Jak (J70 F) (fun _ _ => rfl) (fun _ _ _ _ => rfl))) fz)
theorem Kva (F : Nat) (x : Jbb J5w) (kend : List BV → ZO) : Jav prog (Ju2 F) F 20 70 (Jag J5w x) [.d (.int .i64)] kend = Kyi F x.1 none (fun y0 => kend [BV.d (.int .i64) y0]) := by kernel_rfl
theorem J5x  : Jaf prog 70 Kac := Jaz (B0 := J0k) bkN bkG Jax bkT Kva (Jae fz) (by kernel_rfl) (fun _ => rfl) Kpf (fun x h => (Khl x.1 h).elim fun F hF => ⟨F, fun kend => hF none _⟩)
@[reducible] def Kpg  : List PM := [.d (.slc (.int .u8)), .d (.int .i64)]
def Kss  : Orc := Orc.of Kpg true 0 fun x => (J3w x.1 x.2.1, [.d (.arr 16 (.int .u8)) (Jwa x.1 x.2.1)])
@[reducible] def Jln  : Tpl := { cur := ⟨[(0, .sl 0), (0, .var (.int .i64)), (4, .var (.int .i64)), (0, .var (.int .i64))], 15⟩, stk := [⟨[(0, .var (.slc (.int .u8))), (3, .ptr 1 []), (0, .ptr 0 [])], 19⟩, ⟨[], 0⟩], heap := [.box (.var (.arr 16 (.int .u8))), .box (.var (.arr 16 (.int .u8)))] }
@[reducible] def Jlo  : Tpl := { cur := ⟨[(0, .sl 0), (0, .var (.int .i64)), (4, .var (.int .i64)), (0, .var (.int .i64))], 15⟩, stk := [⟨[(0, .var (.slc (.int .u8))), (3, .ptr 1 []), (0, .ptr 0 []), (4, .sl 0)], 14⟩, ⟨[], 0⟩], heap := [.box (.var (.arr 16 (.int .u8))), .box (.var (.arr 16 (.int .u8)))] }
@[reducible] def Jlp  : Tpl := { cur := ⟨[(0, .sl 0), (0, .var (.int .i64)), (4, .var (.int .i64)), (0, .var (.int .i64))], 15⟩, stk := [⟨[(0, .var (.slc (.int .u8))), (3, .ptr 1 []), (0, .ptr 0 []), (4, .sl 0), (8, .sl 0)], 5⟩, ⟨[], 0⟩], heap := [.box (.var (.arr 16 (.int .u8))), .box (.var (.arr 16 (.int .u8)))] }
def K1r  : List (FuncId × Orc) := [(58, Jsw), (62, Kej)]
def Kad  : Book := { Γ := gam, orc := Jb2 K1r, hint := Jbd [(61, { keep := some [0, 1, 6, 7], keeps := [(1, [0, 1, 6, 7])], own := [], dat := [], stk := [[0, 4, 5, 10, 19]] })] }
def K1s (F : Nat) (nx : Jln.T → ZO) (kq : ZK) (x : Jln.T) : ZO := Kca F none (fun to_i to_n n s6 s7 payload to s4 => nx (((to_i, to_n), (n, (s6, (s7, ())))), (((payload, ((), ((), ()))), ((), ())), (to, (s4, ()))))) (fun y0 y1 y2 y3 y4 y5 y6 y7 => kq (.exit 0) (Jln.inst (((y0, y1), (y2, (y3, (y4, ())))), (((y5, ((), ((), ()))), ((), ())), (y6, (y7, ())))))) x.1.1.1 x.1.1.2 x.1.2.1 x.1.2.2.1 x.1.2.2.2.1 x.2.1.1.1 x.2.2.1 x.2.2.2.1
def K1t (F m : Nat) (x : Jln.T) (kq : ZK) : ZO := Joq F none (fun y0 y1 y2 y3 y4 y5 y6 y7 => kq (.exit 0) (Jln.inst (((y0, y1), (y2, (y3, (y4, ())))), (((y5, ((), ((), ()))), ((), ())), (y6, (y7, ())))))) m x.1.1.1 x.1.1.2 x.1.2.1 x.1.2.2.1 x.1.2.2.2.1 x.2.1.1.1 x.2.2.1 x.2.2.2.1
def K1u (F : Nat) (nx : Jlo.T → ZO) (kq : ZK) (x : Jlo.T) : ZO := Kcb F none (fun to_i to_n n s6 s7 payload s10_i s10_n to s4 => nx (((to_i, to_n), (n, (s6, (s7, ())))), (((payload, ((), ((), ((s10_i, s10_n), ())))), ((), ())), (to, (s4, ()))))) (fun y0 y1 y2 y3 y4 y5 y6 y7 y8 y9 => kq (.exit 0) (Jlo.inst (((y0, y1), (y2, (y3, (y4, ())))), (((y5, ((), ((), ((y6, y7), ())))), ((), ())), (y8, (y9, ())))))) x.1.1.1 x.1.1.2 x.1.2.1 x.1.2.2.1 x.1.2.2.2.1 x.2.1.1.1 x.2.1.1.2.2.2.1.1 x.2.1.1.2.2.2.1.2 x.2.2.1 x.2.2.2.1
def K1v (F m : Nat) (x : Jlo.T) (kq : ZK) : ZO := Jl7 F none (fun y0 y1 y2 y3 y4 y5 y6 y7 y8 y9 => kq (.exit 0) (Jlo.inst (((y0, y1), (y2, (y3, (y4, ())))), (((y5, ((), ((), ((y6, y7), ())))), ((), ())), (y8, (y9, ())))))) m x.1.1.1 x.1.1.2 x.1.2.1 x.1.2.2.1 x.1.2.2.2.1 x.2.1.1.1 x.2.1.1.2.2.2.1.1 x.2.1.1.2.2.2.1.2 x.2.2.1 x.2.2.2.1
def K1w (F : Nat) (nx : Jlp.T → ZO) (kq : ZK) (x : Jlp.T) : ZO := Kcc F none (fun to_i to_n n s6 s7 payload s10_i s10_n s19_i s19_n to s4 => nx (((to_i, to_n), (n, (s6, (s7, ())))), (((payload, ((), ((), ((s10_i, s10_n), ((s19_i, s19_n), ()))))), ((), ())), (to, (s4, ()))))) (fun y0 y1 y2 y3 y4 y5 y6 y7 y8 y9 y10 y11 => kq (.exit 0) (Jlp.inst (((y0, y1), (y2, (y3, (y4, ())))), (((y5, ((), ((), ((y6, y7), ((y8, y9), ()))))), ((), ())), (y10, (y11, ())))))) x.1.1.1 x.1.1.2 x.1.2.1 x.1.2.2.1 x.1.2.2.2.1 x.2.1.1.1 x.2.1.1.2.2.2.1.1 x.2.1.1.2.2.2.1.2 x.2.1.1.2.2.2.2.1.1 x.2.1.1.2.2.2.2.1.2 x.2.2.1 x.2.2.2.1
def K1x (F m : Nat) (x : Jlp.T) (kq : ZK) : ZO := Jor F none (fun y0 y1 y2 y3 y4 y5 y6 y7 y8 y9 y10 y11 => kq (.exit 0) (Jlp.inst (((y0, y1), (y2, (y3, (y4, ())))), (((y5, ((), ((), ((y6, y7), ((y8, y9), ()))))), ((), ())), (y10, (y11, ())))))) m x.1.1.1 x.1.1.2 x.1.2.1 x.1.2.2.1 x.1.2.2.2.1 x.2.1.1.1 x.2.1.1.2.2.2.1.1 x.2.1.1.2.2.2.1.2 x.2.1.1.2.2.2.2.1.1 x.2.1.1.2.2.2.2.1.2 x.2.2.1 x.2.2.2.1
def K1y (F : Nat) : List (LoE Unit) := [⟨61, 1, LO.orT Jln (K1t F F) (LO.orT Jlo (K1v F F) (LO.of Jlp (K1x F F)))⟩]
def Jra (F : Nat) : Jcg Unit := { toBook := Kad, lo := Jdn (K1y F), need := Jbe [] }
theorem Kjv (F : Nat) : Jco prog (Jra F) F 61 0 1 Jln (K1s F) := fun d x KQ => by kernel_rfl
theorem Kjw (F : Nat) : Jco prog (Jra F) F 61 0 1 Jlo (K1u F) := fun d x KQ => by kernel_rfl
theorem Kjx (F : Nat) : Jco prog (Jra F) F 61 0 1 Jlp (K1w F) := fun d x KQ => by kernel_rfl
theorem K1z (F : Nat) : Jjm prog (Jra F) F := Jbk (l := K1y F) rfl (fa (Jaw 0 (by kernel_rfl) (by kernel_rfl) (Kbh (Jak (Kjv F) (fun _ _ => rfl) (fun _ _ _ _ => rfl)) (Kbh (Jak (Kjw F) (fun _ _ => rfl) (fun _ _ _ _ => rfl)) (Jak (Kjx F) (fun _ _ => rfl) (fun _ _ _ _ => rfl))))) fz)
theorem K49 (F : Nat) (x : Jbb Kpg) (kend : List BV → ZO) : Jav prog (Jra F) F 20 38 (Jag Kpg x) [.d (.arr 16 (.int .u8))] kend = lEnd F x.1 x.2.1 none (fun y0 => kend [BV.d (.arr 16 (.int .u8)) y0]) := by kernel_rfl
theorem Kel  : Jaf prog 38 Kss := Jaz (B0 := Kad) bkN bkG Jax bkT K49 (Jae (fa Jlm (fa Jxj fz))) (by kernel_rfl) (fun _ => rfl) K1z (fun x h => (Kuf x.1 x.2.1 h).elim fun F hF => ⟨F, fun kend => hF none _⟩)
@[reducible] def J5y  : List PM := [.d (.int .i64), .d (.slc (.arr 16 (.int .u8)))]
def Jy7  : Orc := Orc.of J5y false 0 fun x => (Jjw x.1 x.2.1, [.d (.pair (.int .i64) (.pair (.int .i64) (.pair (.slc (.arr 16 (.int .u8))) .unit))) (Jjx x.1 x.2.1)])
def J5z  : List (FuncId × Orc) := []
theorem Kvb (F : Nat) (x : Jbb J5y) (kend : List BV → ZO) : Jav prog (bkZ J5z) F 20 36 (Jag J5y x) [.d (.pair (.int .i64) (.pair (.int .i64) (.pair (.slc (.arr 16 (.int .u8))) .unit)))] kend = K5u F x.1 x.2.1 none (fun y0 => kend [BV.d (.pair (.int .i64) (.pair (.int .i64) (.pair (.slc (.arr 16 (.int .u8))) .unit))) y0]) := by kernel_rfl
theorem Jrb  : Jaf prog 36 Jy7 := Jaz (B0 := bkY J5z) bkN bkG Jax bkT Kvb (Jae fz) (by kernel_rfl) (fun _ => rfl) (bkO _) (fun x h => (Khq x.1 x.2.1 h).elim fun F hF => ⟨F, fun kend => hF none _⟩)
@[reducible] def Kem  : List PM := []
def J50  : Orc := Orc.of Kem false 0 fun x => (Job, [.d (.pair (.int .i64) (.pair (.int .i64) (.pair (.slc (.arr 16 (.int .u8))) .unit))) (Joc)])
def Kae  : List (FuncId × Orc) := []
theorem K10 (F : Nat) (x : Jbb Kem) (kend : List BV → ZO) : Jav prog (bkZ Kae) F 20 37 (Jag Kem x) [.d (.pair (.int .i64) (.pair (.int .i64) (.pair (.slc (.arr 16 (.int .u8))) .unit)))] kend = Qaf F  none (fun y0 => kend [BV.d (.pair (.int .i64) (.pair (.int .i64) (.pair (.slc (.arr 16 (.int .u8))) .unit))) y0]) := by kernel_rfl
theorem Jtr  : Jaf prog 37 J50 := Jaz (B0 := bkY Kae) bkN bkG Jax bkT K10 (Jae fz) (by kernel_rfl) (fun _ => rfl) (bkO _) (fun x h => (Knd  h).elim fun F hF => ⟨F, fun kend => hF none _⟩)
@[reducible] def Jf2  : Tpl := { cur := ⟨[(0, .var (.slc (.int .u8))), (0, .fn 73 (.un)), (2, .var (.int .i64)), (2, .var (.int .i64)), (0, .var (.int .i64))], 10⟩, stk := [⟨[], 9⟩, ⟨[], 0⟩], heap := [] }
def Kvc  : List (FuncId × Orc) := []
def J51  : Book := { Γ := gam, orc := Jb2 Kvc, hint := Jbd [(106, { keep := some [0, 1, 4, 7, 8], keeps := [(2, [0, 1, 4, 7, 8])], own := [], dat := [], stk := [[]] })] }
def Kvd (F : Nat) (nx : Jf2.T → ZO) (kq : ZK) (x : Jf2.T) : ZO := J17 F none (fun s s4 s7 s8 => nx ((s, ((), (s4, (s7, (s8, ()))))), (((), ((), ())), ()))) (fun y0 y1 y2 y3 => kq .ret (Jf2.inst ((y0, ((), (y1, (y2, (y3, ()))))), (((), ((), ())), ())))) (fun y0 y1 y2 y3 => kq (.exit 0) (Jf2.inst ((y0, ((), (y1, (y2, (y3, ()))))), (((), ((), ())), ())))) x.1.1 x.1.2.2.1 x.1.2.2.2.1 x.1.2.2.2.2.1
def Kve (F m : Nat) (x : Jf2.T) (kq : ZK) : ZO := Jm8 F none (fun y0 y1 y2 y3 => kq .ret (Jf2.inst ((y0, ((), (y1, (y2, (y3, ()))))), (((), ((), ())), ())))) (fun y0 y1 y2 y3 => kq (.exit 0) (Jf2.inst ((y0, ((), (y1, (y2, (y3, ()))))), (((), ((), ())), ())))) m x.1.1 x.1.2.2.1 x.1.2.2.2.1 x.1.2.2.2.2.1
def Kst (F : Nat) : List (LoE Unit) := [⟨106, 2, LO.of Jf2 (Kve F F)⟩]
def Jsx (F : Nat) : Jcg Unit := { toBook := J51, lo := Jdn (Kst F), need := Jbe [(106, 1)] }
theorem Ken (F : Nat) : Jco prog (Jsx F) F 106 0 2 Jf2 (Kvd F) := fun d x KQ => by kernel_rfl
theorem Kvf (F : Nat) : Jjm prog (Jsx F) F := Jbk (l := Kst F) rfl (fa (Jaw 0 (by kernel_rfl) (by kernel_rfl) (Jak (Ken F) (fun _ _ => rfl) (fun _ _ _ _ => rfl))) fz)
theorem K11 (F : Nat) (s : ZB) (kend : List BV → ZO) : Jav prog (Jsx F) F 20 72 [.d (.slc (.int .u8)) s, .f 73] [.d .bool] kend = K7q F s none (fun y0 => kend [BV.d .bool y0]) := by kernel_rfl
theorem Jts  : Jaf prog 72 (Orc.of [.d (.slc (.int .u8)), .f] true 0 fun x => ((Nat.beq x.2.1 73) && Ktx x.1 x.2.1, [.d .bool (Kty x.1 x.2.1)])) := Jdy (B0 := J51) bkN bkG Jax bkT (Jae fz) (by kernel_rfl) (fun x h => by
 obtain ⟨x0, x1, _⟩ := x
 simp only [Bool.and_eq_true] at h
 obtain ⟨e, h⟩ := h
 have e := Nat.eq_of_beq_eq_true e
 subst e
 obtain ⟨F, hF⟩ := Kne x0 h
 exact ⟨F, 20, Jsx F, rfl, Kvf F, fun kend => (K11 F x0 kend).trans (hF none (fun y0 => kend [BV.d .bool y0]))⟩)
def K12  : Orc := Orc.of [.d (.slc (.int .u8)), .f] true 0 fun x => ((Nat.beq x.2.1 73) && Ktx x.1 x.2.1, [.d .bool (Kty x.1 x.2.1)])
theorem Kjy  : Jaf prog 72 K12 := Jio Jts.1 (fun x h => by
 obtain ⟨x0, x1, _⟩ := x
 simp only [Bool.and_eq_true] at h
 obtain ⟨e, _⟩ := h
 rcases e with e
 ·have e := Nat.eq_of_beq_eq_true e
  subst e
  exact ⟨_, Jts, rfl⟩)
@[reducible] def Jy8  : List PM := [.d (.int .i64)]
def J52  : Orc := Orc.of Jy8 false 0 fun x => (J3x x.1, [.d (.pair (.int .i64) (.pair (.int .i64) (.pair (.int .i64) .unit))) (Jie x.1), .d (.slc (.pair (.int .i64) (.pair (.int .i64) (.pair (.slc (.arr 16 (.int .u8))) .unit)))) (Jek x.1), .d (.int .i64) (Jmw x.1)])
def J0l  : List (FuncId × Orc) := [(36, Jy7), (37, J50), (46, J5v)]
theorem Kph (F : Nat) (x : Jbb Jy8) (kend : List BV → ZO) : Jav prog (bkZ J0l) F 20 32 (Jag Jy8 x) [.d (.pair (.int .i64) (.pair (.int .i64) (.pair (.int .i64) .unit))), .d (.slc (.pair (.int .i64) (.pair (.int .i64) (.pair (.slc (.arr 16 (.int .u8))) .unit)))), .d (.int .i64)] kend = Kmf F x.1 none (fun y0 y1 y2 => kend [BV.d (.pair (.int .i64) (.pair (.int .i64) (.pair (.int .i64) .unit))) y0, BV.d (.slc (.pair (.int .i64) (.pair (.int .i64) (.pair (.slc (.arr 16 (.int .u8))) .unit)))) y1, BV.d (.int .i64) y2]) := by kernel_rfl
theorem J1b  : Jaf prog 32 J52 := Jaz (B0 := bkY J0l) bkN bkG Jax bkT Kph (Jae (fa Jrb (fa Jtr (fa Jtq fz)))) (by kernel_rfl) (fun _ => rfl) (bkO _) (fun x h => (Kc6 x.1 h).elim fun F hF => ⟨F, fun kend => hF none _⟩)
@[reducible] def Jy9  : List PM := [.d (.pair (.int .i64) (.pair (.int .i64) (.pair (.int .i64) .unit))), .d (.slc (.int .u8))]
def J53  : Orc := Orc.of Jy9 false 0 fun x => (Jwb x.1 x.2.1, [.d (.pair (.int .i64) (.pair (.int .i64) (.pair (.int .i64) .unit))) (Jmx x.1 x.2.1), .d (.slc (.pair (.int .i64) (.pair (.int .i64) (.pair (.slc (.arr 16 (.int .u8))) .unit)))) (Jmy x.1 x.2.1), .d (.int .i64) (Jmz x.1 x.2.1)])
@[reducible] def Jfu  : Tpl := { cur := ⟨[(0, .hnd .yield 0), (0, .ptr 5 []), (0, .ptr 6 []), (1, .var (.int .i64))], 26⟩, stk := [⟨[(0, .hnd .yield 0)], 0⟩, ⟨[(2, .ptr 1 [])], 13⟩, ⟨[(0, .hnd .yield 2)], 0⟩, ⟨[(1, .var (.slc (.int .u8))), (0, .ptr 7 []), (1, .ptr 8 []), (0, .nils), (0, .var (.int .i64)), (1, .var (.int .i64)), (0, .nils), (0, .ptr 3 [])], 66⟩, ⟨[], 0⟩], heap := [.lp 59 2 ⟨[(2, .ptr 1 [])], 13⟩ .ready, .box (.hnd .yield 2), .lp 11 13 ⟨[(10, .ptr 3 [])], 66⟩ .ready, .box (.row 4), .row 62 (.arr 16 (.int .u8)) false, .box (.var (.slc (.int .u8))), .box (.var (.int .i64)), .box (.var (.pair (.int .i64) (.pair (.int .i64) (.pair (.int .i64) .unit)))), .box (.var (.pair (.int .i64) (.pair (.int .i64) (.pair (.int .i64) .unit))))] }
def Kjz  : List (FuncId × Orc) := [(33, Jy6), (34, Kaa), (36, Jy7), (37, J50), (38, Kss)]
def Jxk  : Book := { Γ := gam, orc := Jb2 Kjz, hint := Jbd [(11, { keep := some [], keeps := [], own := [], dat := [], stk := [], rgb := [(5012, [(10, 0, 23)])] }), (103, { keep := some [0, 1, 2, 4], keeps := [(1, [0, 1, 2, 4])], own := [], dat := [], stk := [[0], [2, 3, 4, 7, 15], [0], [1, 2, 4, 5, 6, 8, 9, 10, 11, 40, 45, 49, 63, 64, 67, 73]] })] }
def Kj0 (F : Nat) (nx : Jfu.T → ZO) (kq : ZK) (x : Jfu.T) : ZO := Jsi F none (fun i payload s6 n parts s1 s2 l s4 => nx (((), ((), ((), (i, ())))), ((((), ()), (((), ()), (((), ()), ((payload, ((), ((), ((), (s6, (n, ((), ((), ())))))))), ((), ()))))), (((), ()), ((), (((), ()), ((), (parts, (s1, (s2, (l, (s4, ())))))))))))) (fun y0 y1 y2 y3 y4 y5 y6 y7 y8 => kq (.exit 0) (Jfu.inst (((), ((), ((), (y0, ())))), ((((), ()), (((), ()), (((), ()), ((y1, ((), ((), ((), (y2, (y3, ((), ((), ())))))))), ((), ()))))), (((), ()), ((), (((), ()), ((), (y4, (y5, (y6, (y7, (y8, ()))))))))))))) x.1.2.2.2.1 x.2.1.2.2.2.1.1 x.2.1.2.2.2.1.2.2.2.2.1 x.2.1.2.2.2.1.2.2.2.2.2.1 x.2.2.2.2.2.2.1 x.2.2.2.2.2.2.2.1 x.2.2.2.2.2.2.2.2.1 x.2.2.2.2.2.2.2.2.2.1 x.2.2.2.2.2.2.2.2.2.2.1
def Kj1 (F m : Nat) (x : Jfu.T) (kq : ZK) : ZO := Jih F none (fun y0 y1 y2 y3 y4 y5 y6 y7 y8 => kq (.exit 0) (Jfu.inst (((), ((), ((), (y0, ())))), ((((), ()), (((), ()), (((), ()), ((y1, ((), ((), ((), (y2, (y3, ((), ((), ())))))))), ((), ()))))), (((), ()), ((), (((), ()), ((), (y4, (y5, (y6, (y7, (y8, ()))))))))))))) m x.1.2.2.2.1 x.2.1.2.2.2.1.1 x.2.1.2.2.2.1.2.2.2.2.1 x.2.1.2.2.2.1.2.2.2.2.2.1 x.2.2.2.2.2.2.1 x.2.2.2.2.2.2.2.1 x.2.2.2.2.2.2.2.2.1 x.2.2.2.2.2.2.2.2.2.1 x.2.2.2.2.2.2.2.2.2.2.1
def Kaf (F : Nat) : List (LoE Unit) := [⟨103, 1, LO.of Jfu (Kj1 F F)⟩]
def Jrc (F : Nat) : Jcg Unit := { toBook := Jxk, lo := Jdn (Kaf F), need := Jbe [(103, 2)] }
theorem J54 (F : Nat) : Jco prog (Jrc F) F 103 0 1 Jfu (Kj0 F) := fun d x KQ => by kernel_rfl
theorem Kj2 (F : Nat) : Jjm prog (Jrc F) F := Jbk (l := Kaf F) rfl (fa (Jaw 0 (by kernel_rfl) (by kernel_rfl) (Jak (J54 F) (fun _ _ => rfl) (fun _ _ _ _ => rfl))) fz)
theorem Kpi (F : Nat) (x : Jbb Jy9) (kend : List BV → ZO) : Jav prog (Jrc F) F 20 11 (Jag Jy9 x) [.d (.pair (.int .i64) (.pair (.int .i64) (.pair (.int .i64) .unit))), .d (.slc (.pair (.int .i64) (.pair (.int .i64) (.pair (.slc (.arr 16 (.int .u8))) .unit)))), .d (.int .i64)] kend = Kmg F x.1 x.2.1 none (fun y0 y1 y2 => kend [BV.d (.pair (.int .i64) (.pair (.int .i64) (.pair (.int .i64) .unit))) y0, BV.d (.slc (.pair (.int .i64) (.pair (.int .i64) (.pair (.slc (.arr 16 (.int .u8))) .unit)))) y1, BV.d (.int .i64) y2]) := by kernel_rfl
theorem J1c  : Jaf prog 11 J53 := Jaz (B0 := Jxk) bkN bkG Jax bkT Kpi (Jae (fa Jq9 (fa J5s (fa Jrb (fa Jtr (fa Kel fz)))))) (by kernel_rfl) (fun _ => rfl) Kj2 (fun x h => (Kc8 x.1 x.2.1 h).elim fun F hF => ⟨F, fun kend => hF none _⟩)
@[reducible] def Keo  : List PM := [.d (.slc (.arr 16 (.int .u8))), .d (.int .i64)]
def Kj3  : Orc := Orc.of Keo false 0 fun x => (Jyj x.1 x.2.1, [.d (.slc (.slc (.int .u8))) (Jwc x.1 x.2.1), .d (.int .i64) (Jjy x.1 x.2.1)])
@[reducible] def Jf3  : Tpl := { cur := ⟨[(0, .ptr 0 []), (0, .var (.int .i64)), (2, .ptr 1 []), (0, .ptr 3 []), (0, .ptr 4 []), (0, .var (.int .i64))], 63⟩, stk := [⟨[(0, .ptr 1 []), (0, .ptr 3 [])], 0⟩, ⟨[(0, .var (.slc (.arr 16 (.int .u8)))), (0, .var (.int .i64)), (2, .nils), (0, .var (.int .i64)), (0, .row 5), (0, .ptr 0 []), (0, .var (.int .i64))], 36⟩, ⟨[], 0⟩], heap := [.box (.var (.pair (.slc (.arr 16 (.int .u8))) .unit)), .box (.row 2), .row 5 (.int .u8) false, .box (.var .bool), .box (.var (.arr 16 (.int .u8))), .row 32 (.slc (.int .u8)) false] }
@[reducible] def Jnl  : Tpl := { cur := ⟨[(0, .var (.slc (.arr 16 (.int .u8)))), (0, .var (.int .i64)), (2, .nils), (0, .var (.int .i64)), (0, .row 0), (0, .ptr 1 [])], 37⟩, stk := [⟨[], 0⟩], heap := [.row 32 (.slc (.int .u8)) false, .box (.var (.pair (.slc (.arr 16 (.int .u8))) .unit))] }
@[reducible] def J55  : Tpl := { cur := ⟨[(0, .var (.slc (.arr 16 (.int .u8)))), (0, .var (.int .i64)), (2, .row 0), (0, .var (.int .i64)), (0, .row 0), (0, .ptr 1 [])], 37⟩, stk := [⟨[], 0⟩], heap := [.row 32 (.slc (.int .u8)) false, .box (.var (.pair (.slc (.arr 16 (.int .u8))) .unit))] }
def Kvg  : List (FuncId × Orc) := [(58, Jsw), (62, Kej), (70, Kac), (72, K12)]
def J56  : Book := { Γ := gam, orc := Jb2 Kvg, hint := Jbd [(14, { keep := some [0, 1, 4, 5, 6, 7], keeps := [(5, [0, 1, 4, 5, 6, 7])], own := [(6, 22)], dat := [], stk := [] }), (45, { keep := some [0, 1, 4, 5, 6, 7], keeps := [(4, [0, 1, 4, 5, 6, 7])], own := [], dat := [], stk := [[0, 1, 2, 3, 4, 5, 6, 7], [0, 1, 4, 5, 6, 7, 8]], rgb := [(5002, [(4, 0, 32)])] })], rcv := rcvs }
def Kvh (F : Nat) (nx : Jf3.T → ZO) (kq : ZK) (x : Jf3.T) : ZO := J18 F none (fun number count l first s5 left r payload ok p out => nx (((), (number, ((), ((), ((), (count, ())))))), ((((), ((), ())), ((l, (first, ((), (s5, ((), ((), (left, ()))))))), ((), ()))), (r, ((), (payload, (ok, (p, (out, ()))))))))) (fun y0 y1 y2 y3 y4 y5 y6 y7 y8 y9 y10 => kq (.panic 142) (Jf3.inst (((), (y0, ((), ((), ((), (y1, ())))))), ((((), ((), ())), ((y2, (y3, ((), (y4, ((), ((), (y5, ()))))))), ((), ()))), (y6, ((), (y7, (y8, (y9, (y10, ())))))))))) (fun y0 y1 y2 y3 y4 y5 y6 y7 y8 y9 y10 => kq (.exit 0) (Jf3.inst (((), (y0, ((), ((), ((), (y1, ())))))), ((((), ((), ())), ((y2, (y3, ((), (y4, ((), ((), (y5, ()))))))), ((), ()))), (y6, ((), (y7, (y8, (y9, (y10, ())))))))))) x.1.2.1 x.1.2.2.2.2.2.1 x.2.1.2.1.1 x.2.1.2.1.2.1 x.2.1.2.1.2.2.2.1 x.2.1.2.1.2.2.2.2.2.2.1 x.2.2.1 x.2.2.2.2.1 x.2.2.2.2.2.1 x.2.2.2.2.2.2.1 x.2.2.2.2.2.2.2.1
def Kvi (F m : Nat) (x : Jf3.T) (kq : ZK) : ZO := Jm9 F none (fun y0 y1 y2 y3 y4 y5 y6 y7 y8 y9 y10 => kq (.panic 142) (Jf3.inst (((), (y0, ((), ((), ((), (y1, ())))))), ((((), ((), ())), ((y2, (y3, ((), (y4, ((), ((), (y5, ()))))))), ((), ()))), (y6, ((), (y7, (y8, (y9, (y10, ())))))))))) (fun y0 y1 y2 y3 y4 y5 y6 y7 y8 y9 y10 => kq (.exit 0) (Jf3.inst (((), (y0, ((), ((), ((), (y1, ())))))), ((((), ((), ())), ((y2, (y3, ((), (y4, ((), ((), (y5, ()))))))), ((), ()))), (y6, ((), (y7, (y8, (y9, (y10, ())))))))))) m x.1.2.1 x.1.2.2.2.2.2.1 x.2.1.2.1.1 x.2.1.2.1.2.1 x.2.1.2.1.2.2.2.1 x.2.1.2.1.2.2.2.2.2.2.1 x.2.2.1 x.2.2.2.2.1 x.2.2.2.2.2.1 x.2.2.2.2.2.2.1 x.2.2.2.2.2.2.2.1
def Kvj (F : Nat) (nx : Jnl.T → ZO) (kq : ZK) (x : Jnl.T) : ZO := J19 F none (fun l first s5 out r => nx ((l, (first, ((), (s5, ((), ((), ())))))), (((), ()), (out, (r, ()))))) (fun y0 y1 y2 y3 y4 => kq .ret (J55.inst ((y0, (y1, ((), (y2, ((), ((), ())))))), (((), ()), (y3, (y4, ())))))) x.1.1 x.1.2.1 x.1.2.2.2.1 x.2.2.1 x.2.2.2.1
def Kvk (F m : Nat) (x : Jnl.T) (kq : ZK) : ZO := Jna F none (fun y0 y1 y2 y3 y4 => kq .ret (J55.inst ((y0, (y1, ((), (y2, ((), ((), ())))))), (((), ()), (y3, (y4, ())))))) m x.1.1 x.1.2.1 x.1.2.2.2.1 x.2.2.1 x.2.2.2.1
def Ksu (F : Nat) : List (LoE Unit) := [⟨45, 4, LO.of Jf3 (Kvi F F)⟩,
 ⟨14, 5, LO.of Jnl (Kvk F F)⟩]
def Jsy (F : Nat) : Jcg Unit := { toBook := J56, lo := Jdn (Ksu F), need := Jbe [(14, 3), (45, 2)] }
theorem Kep (F : Nat) : Jco prog (Jsy F) F 45 0 4 Jf3 (Kvh F) := fun d x KQ => by kernel_rfl
theorem Keq (F : Nat) : Jco prog (Jsy F) F 14 0 5 Jnl (Kvj F) := fun d x KQ => by kernel_rfl
theorem Kvl (F : Nat) : Jjm prog (Jsy F) F := Jbk (l := Ksu F) rfl (fa (Jaw 0 (by kernel_rfl) (by kernel_rfl) (Jak (Kep F) (fun _ _ => rfl) (fun _ _ _ _ => rfl))) (fa (Jaw 0 (by kernel_rfl) (by kernel_rfl) (Jak (Keq F) (fun _ _ => rfl) (fun _ _ _ _ => rfl))) fz))
theorem K13 (F : Nat) (x : Jbb Keo) (kend : List BV → ZO) : Jav prog (Jsy F) F 20 14 (Jag Keo x) [.d (.slc (.slc (.int .u8))), .d (.int .i64)] kend = K7r F x.1 x.2.1 none (fun y0 y1 => kend [BV.d (.slc (.slc (.int .u8))) y0, BV.d (.int .i64) y1]) := by kernel_rfl
theorem J71  : Jaf prog 14 Kj3 := Jaz (B0 := J56) bkN bkG Jax bkT K13 (Jae (fa Jlm (fa Jxj (fa J5x (fa Kjy fz))))) (by kernel_rfl) (fun _ => rfl) Kvl (fun x h => (Knh x.1 x.2.1 h).elim fun F hF => ⟨F, fun kend => hF none _⟩) (hR := K87)
@[reducible] def J2l  : List PM := [.d (.pair (.slc (.arr 16 (.int .u8))) (.pair (.slc (.pair (.int .i64) (.pair (.arr 16 (.int .u8)) .unit))) .unit))]
def Kj4  : Orc := Orc.of J2l false 0 fun x => (Jeu x.1, [.d (.pair (.int .i64) (.pair (.int .i64) (.pair (.int .i64) .unit))) (Jod x.1), .d (.slc (.slc (.int .u8))) (Jl3 x.1), .d (.int .i64) (Jl4 x.1)])
def Kag  : List (FuncId × Orc) := [(13, Kjj), (14, Kj3), (46, J5v)]
theorem K14 (F : Nat) (x : Jbb J2l) (kend : List BV → ZO) : Jav prog (bkZ Kag) F 20 15 (Jag J2l x) [.d (.pair (.int .i64) (.pair (.int .i64) (.pair (.int .i64) .unit))), .d (.slc (.slc (.int .u8))), .d (.int .i64)] kend = K7s F x.1 none (fun y0 y1 y2 => kend [BV.d (.pair (.int .i64) (.pair (.int .i64) (.pair (.int .i64) .unit))) y0, BV.d (.slc (.slc (.int .u8))) y1, BV.d (.int .i64) y2]) := by kernel_rfl
theorem J72  : Jaf prog 15 Kj4 := Jaz (B0 := bkY Kag) bkN bkG Jax bkT K14 (Jae (fa J7v (fa J71 (fa Jtq fz)))) (by kernel_rfl) (fun _ => rfl) (bkO _) (fun x h => (Knj x.1 h).elim fun F hF => ⟨F, fun kend => hF none _⟩)
end Go.AI
namespace Go.AI
open Go
open Go.Proofs.Tryz (prog)
set_option linter.unusedVariables false
@[reducible] def Jxl  : List PM := [.d (.slc (.pair (.int .i64) (.pair (.slc (.int .u8)) .unit)))]
def Kah  : Orc := Orc.of Jxl true 0 fun x => (Jr8 x.1, [.d (.int .i64) (Jl5 x.1)])
@[reducible] def Je1  : Tpl := { cur := ⟨[(2, .var (.int .i64)), (5, .var (.slc (.pair (.int .i64) (.pair (.slc (.int .u8)) .unit)))), (0, .var (.int .i64)), (0, .var (.int .i64))], 14⟩, stk := [⟨[], 0⟩], heap := [] }
def Kpj  : List (FuncId × Orc) := []
def J0m  : Book := { Γ := gam, orc := Jb2 Kpj, hint := Jbd [(92, { keep := some [2, 8, 9, 10], keeps := [(4, [2, 8, 9, 10])], own := [], dat := [], stk := [] })] }
def Kpk (F : Nat) (nx : Je1.T → ZO) (kq : ZK) (x : Je1.T) : ZO := Jwo F none (fun s2 s8 s9 s10 => nx ((s2, (s8, (s9, (s10, ())))), (((), ()), ()))) (fun y0 y1 y2 y3 => kq .ret (Je1.inst ((y0, (y1, (y2, (y3, ())))), (((), ()), ())))) (fun y0 y1 y2 y3 => kq (.exit 0) (Je1.inst ((y0, (y1, (y2, (y3, ())))), (((), ()), ())))) x.1.1 x.1.2.1 x.1.2.2.1 x.1.2.2.2.1
def Kpl (F m : Nat) (x : Je1.T) (kq : ZK) : ZO := Jkk F none (fun y0 y1 y2 y3 => kq .ret (Je1.inst ((y0, (y1, (y2, (y3, ())))), (((), ()), ())))) (fun y0 y1 y2 y3 => kq (.exit 0) (Je1.inst ((y0, (y1, (y2, (y3, ())))), (((), ()), ())))) m x.1.1 x.1.2.1 x.1.2.2.1 x.1.2.2.2.1
def Kj5 (F : Nat) : List (LoE Unit) := [⟨92, 4, LO.of Je1 (Kpl F F)⟩]
def Ju3 (F : Nat) : Jcg Unit := { toBook := J0m, lo := Jdn (Kj5 F), need := Jbe [(92, 1)] }
theorem J73 (F : Nat) : Jco prog (Ju3 F) F 92 0 4 Je1 (Kpk F) := fun d x KQ => by kernel_rfl
theorem Kpm (F : Nat) : Jjm prog (Ju3 F) F := Jbk (l := Kj5 F) rfl (fa (Jaw 0 (by kernel_rfl) (by kernel_rfl) (Jak (J73 F) (fun _ _ => rfl) (fun _ _ _ _ => rfl))) fz)
theorem Kvm (F : Nat) (x : Jbb Jxl) (kend : List BV → ZO) : Jav prog (Ju3 F) F 20 92 (Jag Jxl x) [.d (.int .i64)] kend = Kyj F x.1 none (fun y0 => kend [BV.d (.int .i64) y0]) := by kernel_rfl
theorem J57  : Jaf prog 92 Kah := Jaz (B0 := J0m) bkN bkG Jax bkT Kvm (Jae fz) (by kernel_rfl) (fun _ => rfl) Kpm (fun x h => (Khx x.1 h).elim fun F hF => ⟨F, fun kend => hF none _⟩)
def Kj6  : List (FuncId × Orc) := [(94, Jqz)]
def Jxm  : Book := { Γ := gam, orc := Jb2 Kj6, hint := Jbd [] }
def Kai (F : Nat) : List (LoE Unit) := []
def Jrd (F : Nat) : Jcg Unit := { toBook := Jxm, lo := Jdn (Kai F), need := Jbe [] }
theorem Kj7 (F : Nat) : Jjm prog (Jrd F) F := Jbk (l := Kai F) rfl fz
theorem Kpn (F : Nat) (b : ZB) (x_ : Int) (kend : List BV → ZO) : Jav prog (Jrd F) F 20 93 [.d (.slc (.int .u8)) b, .f 94, .d (.int .i64) x_] [.o 5 (.int .u8)] kend = Kmh F b x_ none (fun y0 => kend [BV.o 5 (.int .u8) y0]) := by kernel_rfl
theorem Jpt  : Jaf prog 93 (Orc.of [.d (.slc (.int .u8)), .f, .d (.int .i64)] true 1 fun x => ((Nat.beq x.2.1 94) && Jof x.1 x.2.1 x.2.2.1, [.o 5 (.int .u8) (Jjc x.1 x.2.1 x.2.2.1)])) := Jdy (B0 := Jxm) bkN bkG Jax bkT (Jae (fa Js4 fz)) (by kernel_rfl) (fun x h => by
 obtain ⟨x0, x1, x2, _⟩ := x
 simp only [Bool.and_eq_true] at h
 obtain ⟨e, h⟩ := h
 have e := Nat.eq_of_beq_eq_true e
 subst e
 obtain ⟨F, hF⟩ := Kda x0 x2 h
 exact ⟨F, 20, Jrd F, rfl, Kj7 F, fun kend => (Kpn F x0 x2 kend).trans (hF none (fun y0 => kend [BV.o 5 (.int .u8) y0]))⟩)
def Kj8  : Orc := Orc.of [.d (.slc (.int .u8)), .f, .d (.int .i64)] true 1 fun x => ((Nat.beq x.2.1 94) && Jof x.1 x.2.1 x.2.2.1, [.o 5 (.int .u8) (Jjc x.1 x.2.1 x.2.2.1)])
theorem J74  : Jaf prog 93 Kj8 := Jio Jpt.1 (fun x h => by
 obtain ⟨x0, x1, x2, _⟩ := x
 simp only [Bool.and_eq_true] at h
 obtain ⟨e, _⟩ := h
 rcases e with e
 ·have e := Nat.eq_of_beq_eq_true e
  subst e
  exact ⟨_, Jpt, rfl⟩)
def Kj9  : List (FuncId × Orc) := [(96, Jnh)]
def Jxn  : Book := { Γ := gam, orc := Jb2 Kj9, hint := Jbd [] }
def Kaj (F : Nat) : List (LoE Unit) := []
def Jre (F : Nat) : Jcg Unit := { toBook := Jxn, lo := Jdn (Kaj F), need := Jbe [] }
theorem Kka (F : Nat) : Jjm prog (Jre F) F := Jbk (l := Kaj F) rfl fz
theorem Kpo (F : Nat) (b x_ : ZB) (kend : List BV → ZO) : Jav prog (Jre F) F 20 95 [.d (.slc (.int .u8)) b, .f 96, .d (.slc (.int .u8)) x_] [.o 5 (.int .u8)] kend = Kmi F b x_ none (fun y0 => kend [BV.o 5 (.int .u8) y0]) := by kernel_rfl
theorem Jpu  : Jaf prog 95 (Orc.of [.d (.slc (.int .u8)), .f, .d (.slc (.int .u8))] true 1 fun x => ((Nat.beq x.2.1 96) && Jug x.1 x.2.1 x.2.2.1, [.o 5 (.int .u8) (Jqn x.1 x.2.1 x.2.2.1)])) := Jdy (B0 := Jxn) bkN bkG Jax bkT (Jae (fa Jp1 fz)) (by kernel_rfl) (fun x h => by
 obtain ⟨x0, x1, x2, _⟩ := x
 simp only [Bool.and_eq_true] at h
 obtain ⟨e, h⟩ := h
 have e := Nat.eq_of_beq_eq_true e
 subst e
 obtain ⟨F, hF⟩ := Kdb x0 x2 h
 exact ⟨F, 20, Jre F, rfl, Kka F, fun kend => (Kpo F x0 x2 kend).trans (hF none (fun y0 => kend [BV.o 5 (.int .u8) y0]))⟩)
def Kkb  : Orc := Orc.of [.d (.slc (.int .u8)), .f, .d (.slc (.int .u8))] true 1 fun x => ((Nat.beq x.2.1 96) && Jug x.1 x.2.1 x.2.2.1, [.o 5 (.int .u8) (Jqn x.1 x.2.1 x.2.2.1)])
theorem J75  : Jaf prog 95 Kkb := Jio Jpu.1 (fun x h => by
 obtain ⟨x0, x1, x2, _⟩ := x
 simp only [Bool.and_eq_true] at h
 obtain ⟨e, _⟩ := h
 rcases e with e
 ·have e := Nat.eq_of_beq_eq_true e
  subst e
  exact ⟨_, Jpu, rfl⟩)
@[reducible] def Jnm  : List PM := [.d (.slc (.pair (.int .i64) (.pair (.slc (.int .u8)) .unit)))]
def J58  : Orc := Orc.of Jnm true 1 fun x => (Jwd x.1, [.o 5 (.int .u8) (Jc1 x.1), .d (.int .i64) (Jkb x.1)])
@[reducible] def Jc5  : Tpl := { cur := ⟨[(5, .row 0), (10, .var (.slc (.pair (.int .i64) (.pair (.slc (.int .u8)) .unit)))), (0, .var (.int .i64)), (0, .var (.int .i64))], 15⟩, stk := [⟨[], 0⟩], heap := [.row 5 (.int .u8) false] }
def Kkc  : List (FuncId × Orc) := [(92, Kah), (93, Kj8), (95, Kkb)]
def Jxo  : Book := { Γ := gam, orc := Jb2 Kkc, hint := Jbd [(54, { keep := some [5, 16, 17, 18], keeps := [(6, [5, 16, 17, 18])], own := [], dat := [], stk := [] })] }
def Kkd (F : Nat) (nx : Jc5.T → ZO) (kq : ZK) (x : Jc5.T) : ZO := Jsj F none (fun s16 s17 s18 b => nx (((), (s16, (s17, (s18, ())))), (((), ()), (b, ())))) (fun y0 y1 y2 y3 => kq (.exit 0) (Jc5.inst (((), (y0, (y1, (y2, ())))), (((), ()), (y3, ()))))) x.1.2.1 x.1.2.2.1 x.1.2.2.2.1 x.2.2.1
def Kke (F m : Nat) (x : Jc5.T) (kq : ZK) : ZO := Jfl F none (fun y0 y1 y2 y3 => kq (.exit 0) (Jc5.inst (((), (y0, (y1, (y2, ())))), (((), ()), (y3, ()))))) m x.1.2.1 x.1.2.2.1 x.1.2.2.2.1 x.2.2.1
def Jza (F : Nat) : List (LoE Unit) := [⟨54, 6, LO.of Jc5 (Kke F F)⟩]
def Jrf (F : Nat) : Jcg Unit := { toBook := Jxo, lo := Jdn (Jza F), need := Jbe [] }
def Kkf (Jdi : (List ZR) → Bool) (Jc8 : (List ZR) → Int) (Jd6 : ZB → Nat → Int → Bool) (Jdu : ZB → Nat → Int → ZB) (Jed : ZB → Nat → ZB → Bool) (Jef : ZB → Nat → ZB → ZB) {X : Type} (F : Nat) (fail : X) (next ex0 : List ZR → Int → Int → ZB → X) (s16 : List ZR) (s17 s18 : Int) (b : ZB) : X :=
 bif (decide (s18 < s17)) then
  bif ((decide ((0 : Int) ≤ s18)) && (decide (s18 < ((s16.length : Nat) : Int)))) then
  bif (Jd6 b (94 : Nat) (List.getD s16 (s18).toNat ((0 : Int), (([] : ZB), ()))).1) then
  bif (Jed (Jdu b (94 : Nat) (List.getD s16 (s18).toNat ((0 : Int), (([] : ZB), ()))).1) (96 : Nat) (List.getD s16 (s18).toNat ((0 : Int), (([] : ZB), ()))).2.1) then
  next s16 s17 (Jar s18 (1 : Int)) (Jef (Jdu b (94 : Nat) (List.getD s16 (s18).toNat ((0 : Int), (([] : ZB), ()))).1) (96 : Nat) (List.getD s16 (s18).toNat ((0 : Int), (([] : ZB), ()))).2.1)
  else fail
  else fail
  else fail
 else
 ex0 s16 s17 s18 b
def K15 (Jdi : (List ZR) → Bool) (Jc8 : (List ZR) → Int) (Jd6 : ZB → Nat → Int → Bool) (Jdu : ZB → Nat → Int → ZB) (Jed : ZB → Nat → ZB → Bool) (Jef : ZB → Nat → ZB → ZB) {X : Type} (F : Nat) (l : List ZR) (fail : X) (ret : ZB → Int → X) : X :=
 bif (Jdi l) then
 bif ((Jc8 l) != (0 : Int)) then
  ret ([] : ZB) (Jc8 l)
 else
 bif (Jd6 ([] : ZB) (94 : Nat) ((l.length : Nat) : Int)) then
 Jfl F fail
  (fun (s16 : List ZR) (s17 : Int) (s18 : Int) (b : ZB) =>
   bif (decide (((b.length : Nat) : Int) > (65536 : Int))) then
    ret ([] : ZB) (5 : Int)
   else
   ret b (0 : Int))
  F l ((l.length : Nat) : Int) (0 : Int) (Jdu ([] : ZB) (94 : Nat) ((l.length : Nat) : Int))
 else fail
 else fail
def J76 (Jdi : (List ZR) → Bool) (Jc8 : (List ZR) → Int) (Jd6 : ZB → Nat → Int → Bool) (Jdu : ZB → Nat → Int → ZB) (Jed : ZB → Nat → ZB → Bool) (Jef : ZB → Nat → ZB → ZB) : List (FuncId × Orc) := [(92, Orc.of Jxl true 0 fun x => (Jdi x.1, [.d (.int .i64) (Jc8 x.1)])), (93, Orc.of [.d (.slc (.int .u8)), .f, .d (.int .i64)] true 1 fun x => ((Nat.beq x.2.1 94) && Jd6 x.1 x.2.1 x.2.2.1, [.o 5 (.int .u8) (Jdu x.1 x.2.1 x.2.2.1)])), (95, Orc.of [.d (.slc (.int .u8)), .f, .d (.slc (.int .u8))] true 1 fun x => ((Nat.beq x.2.1 96) && Jed x.1 x.2.1 x.2.2.1, [.o 5 (.int .u8) (Jef x.1 x.2.1 x.2.2.1)]))]
def J59 (Jdi : (List ZR) → Bool) (Jc8 : (List ZR) → Int) (Jd6 : ZB → Nat → Int → Bool) (Jdu : ZB → Nat → Int → ZB) (Jed : ZB → Nat → ZB → Bool) (Jef : ZB → Nat → ZB → ZB) : Book := { Γ := gam, orc := Jb2 (J76 Jdi Jc8 Jd6 Jdu Jed Jef), hint := Jbd [(54, { keep := some [5, 16, 17, 18], keeps := [(6, [5, 16, 17, 18])], own := [], dat := [], stk := [] })] }
def Jtt (Jdi : (List ZR) → Bool) (Jc8 : (List ZR) → Int) (Jd6 : ZB → Nat → Int → Bool) (Jdu : ZB → Nat → Int → ZB) (Jed : ZB → Nat → ZB → Bool) (Jef : ZB → Nat → ZB → ZB) (F : Nat) : Jcg Unit := { toBook := J59 Jdi Jc8 Jd6 Jdu Jed Jef, lo := Jdn (Jza F), need := Jbe [] }
def J77 (Jdi : (List ZR) → Bool) (Jc8 : (List ZR) → Int) (Jd6 : ZB → Nat → Int → Bool) (Jdu : ZB → Nat → Int → ZB) (Jed : ZB → Nat → ZB → Bool) (Jef : ZB → Nat → ZB → ZB) (F : Nat) (nx : Jc5.T → ZO) (kq : ZK) (x : Jc5.T) : ZO := Kkf Jdi Jc8 Jd6 Jdu Jed Jef F none (fun s16 s17 s18 b => nx (((), (s16, (s17, (s18, ())))), (((), ()), (b, ())))) (fun y0 y1 y2 y3 => kq (.exit 0) (Jc5.inst (((), (y0, (y1, (y2, ())))), (((), ()), (y3, ()))))) x.1.2.1 x.1.2.2.1 x.1.2.2.2.1 x.2.2.1
theorem Jzb (Jdi : (List ZR) → Bool) (Jc8 : (List ZR) → Int) (Jd6 : ZB → Nat → Int → Bool) (Jdu : ZB → Nat → Int → ZB) (Jed : ZB → Nat → ZB → Bool) (Jef : ZB → Nat → ZB → ZB) (F : Nat) : Jco prog (Jtt Jdi Jc8 Jd6 Jdu Jed Jef F) F 54 0 6 Jc5 (J77 Jdi Jc8 Jd6 Jdu Jed Jef F) := fun d x KQ => by kernel_rfl
theorem Ker (Jdi : (List ZR) → Bool) (Jc8 : (List ZR) → Int) (Jd6 : ZB → Nat → Int → Bool) (Jdu : ZB → Nat → Int → ZB) (Jed : ZB → Nat → ZB → Bool) (Jef : ZB → Nat → ZB → ZB) (F : Nat) (x : Jbb Jnm) (kend : List BV → ZO) : Jav prog (Jtt Jdi Jc8 Jd6 Jdu Jed Jef F) F 20 54 (Jag Jnm x) [.o 5 (.int .u8), .d (.int .i64)] kend = K15 Jdi Jc8 Jd6 Jdu Jed Jef F x.1 none (fun y0 y1 => kend [BV.o 5 (.int .u8) y0, BV.d (.int .i64) y1]) := by kernel_rfl
theorem J6a (F : Nat) : Jco prog (Jrf F) F 54 0 6 Jc5 (Kkd F) := Jzb Jr8 Jl5 Jof Jjc Jug Jqn F
theorem Kkg (F : Nat) : Jjm prog (Jrf F) F := Jbk (l := Jza F) rfl (fa (Jaw 0 (by kernel_rfl) (by kernel_rfl) (Jak (J6a F) (fun _ _ => rfl) (fun _ _ _ _ => rfl))) fz)
theorem Kpp (F : Nat) (x : Jbb Jnm) (kend : List BV → ZO) : Jav prog (Jrf F) F 20 54 (Jag Jnm x) [.o 5 (.int .u8), .d (.int .i64)] kend = Kmj F x.1 none (fun y0 y1 => kend [BV.o 5 (.int .u8) y0, BV.d (.int .i64) y1]) := Ker Jr8 Jl5 Jof Jjc Jug Jqn F x kend
theorem J1d  : Jaf prog 54 J58 := Jaz (B0 := Jxo) bkN bkG Jax bkT Kpp (Jae (fa J57 (fa J74 (fa J75 fz)))) (by kernel_rfl) (fun _ => rfl) Kkg (fun x h => (Kdc x.1 h).elim fun F hF => ⟨F, fun kend => hF none _⟩)
@[reducible] def Jkn  : List PM := [.d (.slc (.int .u8))]
def J6b  : Orc := Orc.of Jkn false 0 fun x => (Ji0 x.1, [.d (.slc (.pair (.int .i64) (.pair (.slc (.int .u8)) .unit))) (Jel x.1), .d (.int .i64) (Jem x.1)])
@[reducible] def Jb9  : Tpl := { cur := ⟨[(1, .ptr 0 []), (0, .nils), (0, .var (.int .i64)), (2, .row 1), (12, .var (.int .i64)), (0, .var (.int .i64))], 24⟩, stk := [⟨[], 0⟩], heap := [.box (.var (.slc (.int .u8))), .row 84 (.pair (.int .i64) (.pair (.slc (.int .u8)) .unit)) false] }
def Kkh  : List (FuncId × Orc) := [(77, Jq0), (80, Jtk)]
def Jxp  : Book := { Γ := gam, orc := Jb2 Kkh, hint := Jbd [(49, { keep := some [1, 2, 3, 6, 19, 20], keeps := [(11, [1, 2, 3, 6, 19, 20])], own := [(6, 67)], dat := [], stk := [] })] }
def Kki (F : Nat) (nx : Jb9.T → ZO) (kq : ZK) (x : Jb9.T) : ZO := Jsk F none (fun s3 s19 s20 b out => nx (((), ((), (s3, ((), (s19, (s20, ())))))), (((), ()), (b, (out, ()))))) (fun y0 y1 y2 y3 y4 => kq .ret (Jb9.inst (((), ((), (y0, ((), (y1, (y2, ())))))), (((), ()), (y3, (y4, ())))))) (fun y0 y1 y2 y3 y4 => kq (.exit 0) (Jb9.inst (((), ((), (y0, ((), (y1, (y2, ())))))), (((), ()), (y3, (y4, ())))))) x.1.2.2.1 x.1.2.2.2.2.1 x.1.2.2.2.2.2.1 x.2.2.1 x.2.2.2.1
def Kkj (F m : Nat) (x : Jb9.T) (kq : ZK) : ZO := Jev F none (fun y0 y1 y2 y3 y4 => kq .ret (Jb9.inst (((), ((), (y0, ((), (y1, (y2, ())))))), (((), ()), (y3, (y4, ())))))) (fun y0 y1 y2 y3 y4 => kq (.exit 0) (Jb9.inst (((), ((), (y0, ((), (y1, (y2, ())))))), (((), ()), (y3, (y4, ())))))) m x.1.2.2.1 x.1.2.2.2.2.1 x.1.2.2.2.2.2.1 x.2.2.1 x.2.2.2.1
def Jzc (F : Nat) : List (LoE Unit) := [⟨49, 11, LO.of Jb9 (Kkj F F)⟩]
def Jrg (F : Nat) : Jcg Unit := { toBook := Jxp, lo := Jdn (Jzc F), need := Jbe [(49, 1)] }
def Kkk (Jb3 : ZB → Bool) (Ja3 : ZB → Int) (Jaq : ZB → ZB) (Ja1 : ZB → Int) (Jbj : ZB → Bool) (Ja6 Ja7 : ZB → ZB) (Ja2 : ZB → Int) {X : Type} (F : Nat) (fail : X) (next ex0 ex1 : Int → Int → Int → ZB → List ZR → X) (s3 s19 s20 : Int) (b : ZB) (out : List ZR) : X :=
 bif (decide (s20 < s19)) then
  bif (Jb3 b) then
  bif ((Ja1 b) == (0 : Int)) then
   bif ((Ja1 b) != (0 : Int)) then
    ex0 (Ja1 b) s19 s20 (Jaq b) out
   else
   bif (decide ((Ja3 b) ≥ (1 : Int))) then
    bif (!(decide ((Ja3 b) ≤ (4 : Int)))) then
     ex0 (1 : Int) s19 s20 (Jaq b) out
    else
    bif (Jbj (Jaq b)) then
    bif ((Ja2 (Jaq b)) == (0 : Int)) then
     bif ((Ja2 (Jaq b)) != (0 : Int)) then
      ex0 (Ja2 (Jaq b)) s19 s20 (Ja7 (Jaq b)) out
     else
     bif (decide ((out ++ ([((Ja3 b), ((Ja6 (Jaq b)), ()))] : List ZR)).length ≤ big)) then
     next s3 s19 (Jar s20 (1 : Int)) (Ja7 (Jaq b)) (out ++ ([((Ja3 b), ((Ja6 (Jaq b)), ()))] : List ZR))
     else fail
    else
    bif ((Ja2 (Jaq b)) != (0 : Int)) then
     ex0 (Ja2 (Jaq b)) s19 s20 (Jaq b) out
    else
    bif (decide ((out ++ ([((Ja3 b), (([] : ZB), ()))] : List ZR)).length ≤ big)) then
    next s3 s19 (Jar s20 (1 : Int)) (Jaq b) (out ++ ([((Ja3 b), (([] : ZB), ()))] : List ZR))
    else fail
    else fail
   else
   ex0 (1 : Int) s19 s20 (Jaq b) out
  else
  bif ((Ja1 b) != (0 : Int)) then
   ex0 (Ja1 b) s19 s20 b out
  else
  ex0 (1 : Int) s19 s20 b out
  else fail
 else
 ex1 s3 s19 s20 b out
def K16 (Jb3 : ZB → Bool) (Ja3 : ZB → Int) (Jaq : ZB → ZB) (Ja1 : ZB → Int) (Jbj : ZB → Bool) (Ja6 Ja7 : ZB → ZB) (Ja2 : ZB → Int) {X : Type} (F : Nat) (b : ZB) (fail : X) (ret : List ZR → Int → X) : X :=
 bif (decide (((b.length : Nat) : Int) > (65536 : Int))) then
  ret ([] : List ZR) (5 : Int)
 else
 bif (Jb3 b) then
 bif ((Ja1 b) == (0 : Int)) then
  bif ((Ja1 b) != (0 : Int)) then
   ret ([] : List ZR) (Ja1 b)
  else
  bif (decide ((Ja3 b) > (1024 : Int))) then
   ret ([] : List ZR) (6 : Int)
  else
  Jev F fail
   (fun (s3 : Int) (s19 : Int) (s20 : Int) (b1 : ZB) (out : List ZR) =>
    ret ([] : List ZR) s3)
   (fun (s31 : Int) (s191 : Int) (s201 : Int) (b2 : ZB) (out1 : List ZR) =>
    bif (decide (((b2.length : Nat) : Int) > (0 : Int))) then
     ret ([] : List ZR) (3 : Int)
    else
    ret out1 (0 : Int))
   F (0 : Int) (Ja3 b) (0 : Int) (Jaq b) ([] : List ZR)
 else
 bif ((Ja1 b) != (0 : Int)) then
  ret ([] : List ZR) (Ja1 b)
 else
 Jev F fail
  (fun (s32 : Int) (s192 : Int) (s202 : Int) (b3 : ZB) (out2 : List ZR) =>
   ret ([] : List ZR) s32)
  (fun (s33 : Int) (s193 : Int) (s203 : Int) (b4 : ZB) (out3 : List ZR) =>
   bif (decide (((b4.length : Nat) : Int) > (0 : Int))) then
    ret ([] : List ZR) (3 : Int)
   else
   ret out3 (0 : Int))
  F (0 : Int) (0 : Int) (0 : Int) b ([] : List ZR)
 else fail
def J78 (Jb3 : ZB → Bool) (Ja3 : ZB → Int) (Jaq : ZB → ZB) (Ja1 : ZB → Int) (Jbj : ZB → Bool) (Ja6 Ja7 : ZB → ZB) (Ja2 : ZB → Int) : List (FuncId × Orc) := [(77, Orc.of Jo5 false 0 fun x => (Jb3 x.1, [.d (.int .i64) (Ja3 x.1), .d (.slc (.int .u8)) (Jaq x.1), .d (.int .i64) (Ja1 x.1)])), (80, Orc.of Jj5 false 0 fun x => (Jbj x.1, [.d (.slc (.int .u8)) (Ja6 x.1), .d (.slc (.int .u8)) (Ja7 x.1), .d (.int .i64) (Ja2 x.1)]))]
def J6c (Jb3 : ZB → Bool) (Ja3 : ZB → Int) (Jaq : ZB → ZB) (Ja1 : ZB → Int) (Jbj : ZB → Bool) (Ja6 Ja7 : ZB → ZB) (Ja2 : ZB → Int) : Book := { Γ := gam, orc := Jb2 (J78 Jb3 Ja3 Jaq Ja1 Jbj Ja6 Ja7 Ja2), hint := Jbd [(49, { keep := some [1, 2, 3, 6, 19, 20], keeps := [(11, [1, 2, 3, 6, 19, 20])], own := [(6, 67)], dat := [], stk := [] })] }
def Jtu (Jb3 : ZB → Bool) (Ja3 : ZB → Int) (Jaq : ZB → ZB) (Ja1 : ZB → Int) (Jbj : ZB → Bool) (Ja6 Ja7 : ZB → ZB) (Ja2 : ZB → Int) (F : Nat) : Jcg Unit := { toBook := J6c Jb3 Ja3 Jaq Ja1 Jbj Ja6 Ja7 Ja2, lo := Jdn (Jzc F), need := Jbe [(49, 1)] }
def J79 (Jb3 : ZB → Bool) (Ja3 : ZB → Int) (Jaq : ZB → ZB) (Ja1 : ZB → Int) (Jbj : ZB → Bool) (Ja6 Ja7 : ZB → ZB) (Ja2 : ZB → Int) (F : Nat) (nx : Jb9.T → ZO) (kq : ZK) (x : Jb9.T) : ZO := Kkk Jb3 Ja3 Jaq Ja1 Jbj Ja6 Ja7 Ja2 F none (fun s3 s19 s20 b out => nx (((), ((), (s3, ((), (s19, (s20, ())))))), (((), ()), (b, (out, ()))))) (fun y0 y1 y2 y3 y4 => kq .ret (Jb9.inst (((), ((), (y0, ((), (y1, (y2, ())))))), (((), ()), (y3, (y4, ())))))) (fun y0 y1 y2 y3 y4 => kq (.exit 0) (Jb9.inst (((), ((), (y0, ((), (y1, (y2, ())))))), (((), ()), (y3, (y4, ())))))) x.1.2.2.1 x.1.2.2.2.2.1 x.1.2.2.2.2.2.1 x.2.2.1 x.2.2.2.1
theorem Jzd (Jb3 : ZB → Bool) (Ja3 : ZB → Int) (Jaq : ZB → ZB) (Ja1 : ZB → Int) (Jbj : ZB → Bool) (Ja6 Ja7 : ZB → ZB) (Ja2 : ZB → Int) (F : Nat) : Jco prog (Jtu Jb3 Ja3 Jaq Ja1 Jbj Ja6 Ja7 Ja2 F) F 49 0 11 Jb9 (J79 Jb3 Ja3 Jaq Ja1 Jbj Ja6 Ja7 Ja2 F) := fun d x KQ => by kernel_rfl
theorem Kes (Jb3 : ZB → Bool) (Ja3 : ZB → Int) (Jaq : ZB → ZB) (Ja1 : ZB → Int) (Jbj : ZB → Bool) (Ja6 Ja7 : ZB → ZB) (Ja2 : ZB → Int) (F : Nat) (x : Jbb Jkn) (kend : List BV → ZO) : Jav prog (Jtu Jb3 Ja3 Jaq Ja1 Jbj Ja6 Ja7 Ja2 F) F 20 49 (Jag Jkn x) [.d (.slc (.pair (.int .i64) (.pair (.slc (.int .u8)) .unit))), .d (.int .i64)] kend = K16 Jb3 Ja3 Jaq Ja1 Jbj Ja6 Ja7 Ja2 F x.1 none (fun y0 y1 => kend [BV.d (.slc (.pair (.int .i64) (.pair (.slc (.int .u8)) .unit))) y0, BV.d (.int .i64) y1]) := by kernel_rfl
theorem J6d (F : Nat) : Jco prog (Jrg F) F 49 0 11 Jb9 (Kki F) := Jzd Jei Jap Jam Ja9 Jfj Jd3 Jd4 Jcj F
theorem Kkl (F : Nat) : Jjm prog (Jrg F) F := Jbk (l := Jzc F) rfl (fa (Jaw 0 (by kernel_rfl) (by kernel_rfl) (Jak (J6d F) (fun _ _ => rfl) (fun _ _ _ _ => rfl))) fz)
theorem Kpq (F : Nat) (x : Jbb Jkn) (kend : List BV → ZO) : Jav prog (Jrg F) F 20 49 (Jag Jkn x) [.d (.slc (.pair (.int .i64) (.pair (.slc (.int .u8)) .unit))), .d (.int .i64)] kend = Kmk F x.1 none (fun y0 y1 => kend [BV.d (.slc (.pair (.int .i64) (.pair (.slc (.int .u8)) .unit))) y0, BV.d (.int .i64) y1]) := Kes Jei Jap Jam Ja9 Jfj Jd3 Jd4 Jcj F x kend
theorem J1e  : Jaf prog 49 J6b := Jaz (B0 := Jxp) bkN bkG Jax bkT Kpq (Jae (fa Jng (fa Jus fz))) (by kernel_rfl) (fun _ => rfl) Kkl (fun x h => (Kde x.1 h).elim fun F hF => ⟨F, fun kend => hF none _⟩)
end Go.AI
namespace Go.AI
open Go
open Go.Proofs.Tryz (prog)
set_option linter.unusedVariables false
@[reducible] def Jze  : List PM := [.d (.pair (.int .i64) (.pair (.int .i64) (.pair (.int .i64) .unit))), .d (.slc (.int .u8)), .d (.slc (.pair (.int .i64) (.pair (.slc (.int .u8)) .unit)))]
def J6e  : Orc := Orc.of Jze false 0 fun x => (J31 x.1 x.2.1 x.2.2.1, [.d (.pair (.int .i64) (.pair (.int .i64) (.pair (.int .i64) .unit))) (Jkc x.1 x.2.1 x.2.2.1), .d (.slc (.pair (.int .i64) (.pair (.int .i64) (.pair (.slc (.arr 16 (.int .u8))) .unit)))) (Jac x.1 x.2.1 x.2.2.1), .d (.int .i64) (Jm0 x.1 x.2.1 x.2.2.1)])
def J0n  : List (FuncId × Orc) := [(11, J53), (33, Jy6), (54, J58), (55, Kjd)]
theorem Kpr (F : Nat) (x : Jbb Jze) (kend : List BV → ZO) : Jav prog (bkZ J0n) F 20 24 (Jag Jze x) [.d (.pair (.int .i64) (.pair (.int .i64) (.pair (.int .i64) .unit))), .d (.slc (.pair (.int .i64) (.pair (.int .i64) (.pair (.slc (.arr 16 (.int .u8))) .unit)))), .d (.int .i64)] kend = Kml F x.1 x.2.1 x.2.2.1 none (fun y0 y1 y2 => kend [BV.d (.pair (.int .i64) (.pair (.int .i64) (.pair (.int .i64) .unit))) y0, BV.d (.slc (.pair (.int .i64) (.pair (.int .i64) (.pair (.slc (.arr 16 (.int .u8))) .unit)))) y1, BV.d (.int .i64) y2]) := by kernel_rfl
theorem J1f  : Jaf prog 24 J6e := Jaz (B0 := bkY J0n) bkN bkG Jax bkT Kpr (Jae (fa J1c (fa Jq9 (fa J1d (fa J7r fz))))) (by kernel_rfl) (fun _ => rfl) (bkO _) (fun x h => (Kdi x.1 x.2.1 x.2.2.1 h).elim fun F hF => ⟨F, fun kend => hF none _⟩)
end Go.AI
namespace Go.AI
open Go
open Go.Proofs.Tryz (prog)
set_option linter.unusedVariables false
@[reducible] def Jnn  : List PM := [.d (.pair (.slc (.arr 16 (.int .u8))) (.pair (.slc (.pair (.int .i64) (.pair (.arr 16 (.int .u8)) .unit))) .unit)), .d (.slc (.int .u8))]
def Jpe  : Orc := Orc.of Jnn false 0 fun x => (Ji1 x.1 x.2.1, [.d (.pair (.int .i64) (.pair (.int .i64) (.pair (.int .i64) .unit))) (Jb5 x.1 x.2.1), .d (.slc (.slc (.pair (.int .i64) (.pair (.slc (.int .u8)) .unit)))) (Jbg x.1 x.2.1), .d (.int .i64) (Jg6 x.1 x.2.1)])
@[reducible] def Jc6  : Tpl := { cur := ⟨[(0, .hnd .yield 0), (1, .ptr 6 []), (4, .var (.slc (.slc (.int .u8)))), (0, .var (.int .i64)), (0, .var (.int .i64))], 21⟩, stk := [⟨[(0, .hnd .yield 0)], 0⟩, ⟨[(1, .var (.slc (.int .u8))), (2, .ptr 1 []), (0, .ptr 2 []), (0, .ptr 3 []), (0, .ptr 7 []), (2, .ptr 4 [])], 39⟩, ⟨[], 0⟩], heap := [.lp 20 8 ⟨[(4, .ptr 1 []), (0, .ptr 2 []), (0, .ptr 3 []), (3, .ptr 4 [])], 39⟩ .ready, .box (.var (.pair (.int .i64) (.pair (.int .i64) (.pair (.int .i64) .unit)))), .box (.nils), .box (.var (.int .i64)), .box (.row 5), .row 67 (.slc (.pair (.int .i64) (.pair (.slc (.int .u8)) .unit))) false, .box (.var (.slc (.int .u8))), .box (.var (.pair (.int .i64) (.pair (.int .i64) (.pair (.int .i64) .unit))))] }
@[reducible] def Jpf  : Tpl := { cur := ⟨[(0, .hnd .yield 0), (1, .ptr 6 []), (4, .var (.slc (.slc (.int .u8)))), (0, .var (.int .i64)), (0, .var (.int .i64))], 21⟩, stk := [⟨[(0, .hnd .yield 0)], 0⟩, ⟨[(1, .var (.slc (.int .u8))), (2, .ptr 1 []), (0, .ptr 2 []), (0, .ptr 3 []), (0, .ptr 7 []), (2, .ptr 4 [])], 39⟩, ⟨[], 0⟩], heap := [.lp 20 8 ⟨[(4, .ptr 1 []), (0, .ptr 2 []), (0, .ptr 3 []), (3, .ptr 4 [])], 39⟩ (.done .ret), .box (.var (.pair (.int .i64) (.pair (.int .i64) (.pair (.int .i64) .unit)))), .box (.nils), .box (.var (.int .i64)), .box (.row 5), .row 67 (.slc (.pair (.int .i64) (.pair (.slc (.int .u8)) .unit))) false, .box (.var (.slc (.int .u8))), .box (.var (.pair (.int .i64) (.pair (.int .i64) (.pair (.int .i64) .unit))))] }
def Kkm  : List (FuncId × Orc) := [(15, Kj4), (49, J6b), (75, Kje)]
def Jxq  : Book := { Γ := gam, orc := Jb2 Kkm, hint := Jbd [(20, { keep := some [], keeps := [], own := [], dat := [], stk := [], rgb := [(5007, [(10, 0, 49)])] }), (74, { keep := some [0, 2, 7, 8, 9], keeps := [(1, [0, 2, 7, 8, 9])], own := [], dat := [], stk := [[0], [1, 4, 5, 6, 7, 10, 11, 12, 13, 31, 32, 34, 41]] })] }
def Kkn (F : Nat) (nx : Jc6.T → ZO) (kq : ZK) (x : Jc6.T) : ZO := Jsm F none (fun s7 s8 s9 key s4 s6 out s2 l => nx (((), ((), (s7, (s8, (s9, ()))))), ((((), ()), ((key, ((), ((), ((), ((), ((), ())))))), ((), ()))), (((), ((), ((), ((), ())))), (s4, ((), (s6, ((), (out, (s2, (l, ()))))))))))) (fun y0 y1 y2 y3 y4 y5 y6 y7 y8 => kq .ret (Jpf.inst (((), ((), (y0, (y1, (y2, ()))))), ((((), ()), ((y3, ((), ((), ((), ((), ((), ())))))), ((), ()))), (((), ((), ((), ((), ())))), (y4, ((), (y5, ((), (y6, (y7, (y8, ())))))))))))) (fun y0 y1 y2 y3 y4 y5 y6 y7 y8 => kq (.exit 0) (Jc6.inst (((), ((), (y0, (y1, (y2, ()))))), ((((), ()), ((y3, ((), ((), ((), ((), ((), ())))))), ((), ()))), (((), ((), ((), ((), ())))), (y4, ((), (y5, ((), (y6, (y7, (y8, ())))))))))))) x.1.2.2.1 x.1.2.2.2.1 x.1.2.2.2.2.1 x.2.1.2.1.1 x.2.2.2.1 x.2.2.2.2.2.1 x.2.2.2.2.2.2.2.1 x.2.2.2.2.2.2.2.2.1 x.2.2.2.2.2.2.2.2.2.1
def Kko (F m : Nat) (x : Jc6.T) (kq : ZK) : ZO := Jgl F none (fun y0 y1 y2 y3 y4 y5 y6 y7 y8 => kq .ret (Jpf.inst (((), ((), (y0, (y1, (y2, ()))))), ((((), ()), ((y3, ((), ((), ((), ((), ((), ())))))), ((), ()))), (((), ((), ((), ((), ())))), (y4, ((), (y5, ((), (y6, (y7, (y8, ())))))))))))) (fun y0 y1 y2 y3 y4 y5 y6 y7 y8 => kq (.exit 0) (Jc6.inst (((), ((), (y0, (y1, (y2, ()))))), ((((), ()), ((y3, ((), ((), ((), ((), ((), ())))))), ((), ()))), (((), ((), ((), ((), ())))), (y4, ((), (y5, ((), (y6, (y7, (y8, ())))))))))))) m x.1.2.2.1 x.1.2.2.2.1 x.1.2.2.2.2.1 x.2.1.2.1.1 x.2.2.2.1 x.2.2.2.2.2.1 x.2.2.2.2.2.2.2.1 x.2.2.2.2.2.2.2.2.1 x.2.2.2.2.2.2.2.2.2.1
def Jzf (F : Nat) : List (LoE Unit) := [⟨74, 1, LO.of Jc6 (Kko F F)⟩]
def Jrh (F : Nat) : Jcg Unit := { toBook := Jxq, lo := Jdn (Jzf F), need := Jbe [(74, 1)] }
def Kkp (Jee : (ZD) → Bool) (Jdh : (ZD) → (ZL)) (Jc9 : (ZD) → (List ZB)) (Jc7 : (ZD) → Int) (Jce : ZB → Bool) (Jbr : ZB → (List ZR)) (Jbs : ZB → Int) (Jeg : ZB → Int → ZB → Bool) (Jcd : ZB → Int → ZB → ZB) (Jcy : ZB → Int → ZB → Int) {X : Type} (F : Nat) (fail : X) (next ex0 ex1 : List ZB → Int → Int → ZB → ZL → Int → List (List ZR) → ZB → ZL → X) (s7 : List ZB) (s8 s9 : Int) (key : ZB) (s4 : ZL) (s6 : Int) (out : List (List ZR)) (s2 : ZB) (l : ZL) : X :=
 bif (decide (s9 < s8)) then
  bif ((decide ((0 : Int) ≤ s9)) && (decide (s9 < ((s7.length : Nat) : Int)))) then
  bif (decide (((s2.length : Nat) : Int) > (0 : Int))) then
   bif (Jeg s2 (Jar s9 (1 : Int)) (List.getD s7 (s9).toNat ([] : ZB))) then
   bif ((Jcy s2 (Jar s9 (1 : Int)) (List.getD s7 (s9).toNat ([] : ZB))) == (0 : Int)) then
    bif (Jce (Jcd s2 (Jar s9 (1 : Int)) (List.getD s7 (s9).toNat ([] : ZB)))) then
    bif ((Jbs (Jcd s2 (Jar s9 (1 : Int)) (List.getD s7 (s9).toNat ([] : ZB)))) != (0 : Int)) then
     ex0 s7 s8 s9 key ((0 : Int), ((0 : Int), ((0 : Int), ()))) (Jbs (Jcd s2 (Jar s9 (1 : Int)) (List.getD s7 (s9).toNat ([] : ZB)))) out s2 l
    else
    bif (decide ((out ++ ([(Jbr (Jcd s2 (Jar s9 (1 : Int)) (List.getD s7 (s9).toNat ([] : ZB))))] : List (List ZR))).length ≤ big)) then
    next s7 s8 (Jar s9 (1 : Int)) key s4 s6 (out ++ ([(Jbr (Jcd s2 (Jar s9 (1 : Int)) (List.getD s7 (s9).toNat ([] : ZB))))] : List (List ZR))) s2 l
    else fail
    else fail
   else
   bif ((Jcy s2 (Jar s9 (1 : Int)) (List.getD s7 (s9).toNat ([] : ZB))) != (0 : Int)) then
    ex0 s7 s8 s9 key ((0 : Int), ((0 : Int), ((0 : Int), ()))) (Jcy s2 (Jar s9 (1 : Int)) (List.getD s7 (s9).toNat ([] : ZB))) out s2 l
   else
   bif (decide ((out ++ ([([] : List ZR)] : List (List ZR))).length ≤ big)) then
   next s7 s8 (Jar s9 (1 : Int)) key s4 s6 (out ++ ([([] : List ZR)] : List (List ZR))) s2 l
   else fail
   else fail
  else
  bif (Jce (List.getD s7 (s9).toNat ([] : ZB))) then
  bif ((Jbs (List.getD s7 (s9).toNat ([] : ZB))) != (0 : Int)) then
   ex0 s7 s8 s9 key ((0 : Int), ((0 : Int), ((0 : Int), ()))) (Jbs (List.getD s7 (s9).toNat ([] : ZB))) out s2 l
  else
  bif (decide ((out ++ ([(Jbr (List.getD s7 (s9).toNat ([] : ZB)))] : List (List ZR))).length ≤ big)) then
  next s7 s8 (Jar s9 (1 : Int)) key s4 s6 (out ++ ([(Jbr (List.getD s7 (s9).toNat ([] : ZB)))] : List (List ZR))) s2 l
  else fail
  else fail
  else fail
 else
 ex1 s7 s8 s9 key s4 s6 out s2 l
def K17 (Jee : (ZD) → Bool) (Jdh : (ZD) → (ZL)) (Jc9 : (ZD) → (List ZB)) (Jc7 : (ZD) → Int) (Jce : ZB → Bool) (Jbr : ZB → (List ZR)) (Jbs : ZB → Int) (Jeg : ZB → Int → ZB → Bool) (Jcd : ZB → Int → ZB → ZB) (Jcy : ZB → Int → ZB → Int) {X : Type} (F : Nat) (d_ : ZD) (key : ZB) (fail : X) (ret : ZL → List (List ZR) → Int → X) : X :=
 bif (Jee d_) then
 bif ((Jc7 d_) != (0 : Int)) then
  ret ((0 : Int), ((0 : Int), ((0 : Int), ()))) ([] : List (List ZR)) (Jc7 d_)
 else
 bif (decide (((key.length : Nat) : Int) > (64 : Int))) then
  ret ((0 : Int), ((0 : Int), ((0 : Int), ()))) ([] : List (List ZR)) (1 : Int)
 else
 Jgl F fail
  (fun (s7 : List ZB) (s8 : Int) (s9 : Int) (Jpz : ZB) (s4 : ZL) (s6 : Int) (out : List (List ZR)) (s2 : ZB) (l : ZL) =>
   ret s4 ([] : List (List ZR)) s6)
  (fun (s71 : List ZB) (s81 : Int) (s91 : Int) (key2 : ZB) (s41 : ZL) (s61 : Int) (out1 : List (List ZR)) (s21 : ZB) (l1 : ZL) =>
   ret l1 out1 (0 : Int))
  F (Jc9 d_) (((Jc9 d_).length : Nat) : Int) (0 : Int) key ((0 : Int), ((0 : Int), ((0 : Int), ()))) (0 : Int) ([] : List (List ZR)) key (Jdh d_)
 else fail
def J8a (Jee : (ZD) → Bool) (Jdh : (ZD) → (ZL)) (Jc9 : (ZD) → (List ZB)) (Jc7 : (ZD) → Int) (Jce : ZB → Bool) (Jbr : ZB → (List ZR)) (Jbs : ZB → Int) (Jeg : ZB → Int → ZB → Bool) (Jcd : ZB → Int → ZB → ZB) (Jcy : ZB → Int → ZB → Int) : List (FuncId × Orc) := [(15, Orc.of J2l false 0 fun x => (Jee x.1, [.d (.pair (.int .i64) (.pair (.int .i64) (.pair (.int .i64) .unit))) (Jdh x.1), .d (.slc (.slc (.int .u8))) (Jc9 x.1), .d (.int .i64) (Jc7 x.1)])), (49, Orc.of Jkn false 0 fun x => (Jce x.1, [.d (.slc (.pair (.int .i64) (.pair (.slc (.int .u8)) .unit))) (Jbr x.1), .d (.int .i64) (Jbs x.1)])), (75, Orc.of J2j true 1 fun x => (Jeg x.1 x.2.1 x.2.2.1, [.o 5 (.int .u8) (Jcd x.1 x.2.1 x.2.2.1), .d (.int .i64) (Jcy x.1 x.2.1 x.2.2.1)]))]
def J6f (Jee : (ZD) → Bool) (Jdh : (ZD) → (ZL)) (Jc9 : (ZD) → (List ZB)) (Jc7 : (ZD) → Int) (Jce : ZB → Bool) (Jbr : ZB → (List ZR)) (Jbs : ZB → Int) (Jeg : ZB → Int → ZB → Bool) (Jcd : ZB → Int → ZB → ZB) (Jcy : ZB → Int → ZB → Int) : Book := { Γ := gam, orc := Jb2 (J8a Jee Jdh Jc9 Jc7 Jce Jbr Jbs Jeg Jcd Jcy), hint := Jbd [(20, { keep := some [], keeps := [], own := [], dat := [], stk := [], rgb := [(5007, [(10, 0, 49)])] }), (74, { keep := some [0, 2, 7, 8, 9], keeps := [(1, [0, 2, 7, 8, 9])], own := [], dat := [], stk := [[0], [1, 4, 5, 6, 7, 10, 11, 12, 13, 31, 32, 34, 41]] })] }
def Jtv (Jee : (ZD) → Bool) (Jdh : (ZD) → (ZL)) (Jc9 : (ZD) → (List ZB)) (Jc7 : (ZD) → Int) (Jce : ZB → Bool) (Jbr : ZB → (List ZR)) (Jbs : ZB → Int) (Jeg : ZB → Int → ZB → Bool) (Jcd : ZB → Int → ZB → ZB) (Jcy : ZB → Int → ZB → Int) (F : Nat) : Jcg Unit := { toBook := J6f Jee Jdh Jc9 Jc7 Jce Jbr Jbs Jeg Jcd Jcy, lo := Jdn (Jzf F), need := Jbe [(74, 1)] }
def J8b (Jee : (ZD) → Bool) (Jdh : (ZD) → (ZL)) (Jc9 : (ZD) → (List ZB)) (Jc7 : (ZD) → Int) (Jce : ZB → Bool) (Jbr : ZB → (List ZR)) (Jbs : ZB → Int) (Jeg : ZB → Int → ZB → Bool) (Jcd : ZB → Int → ZB → ZB) (Jcy : ZB → Int → ZB → Int) (F : Nat) (nx : Jc6.T → ZO) (kq : ZK) (x : Jc6.T) : ZO := Kkp Jee Jdh Jc9 Jc7 Jce Jbr Jbs Jeg Jcd Jcy F none (fun s7 s8 s9 key s4 s6 out s2 l => nx (((), ((), (s7, (s8, (s9, ()))))), ((((), ()), ((key, ((), ((), ((), ((), ((), ())))))), ((), ()))), (((), ((), ((), ((), ())))), (s4, ((), (s6, ((), (out, (s2, (l, ()))))))))))) (fun y0 y1 y2 y3 y4 y5 y6 y7 y8 => kq .ret (Jpf.inst (((), ((), (y0, (y1, (y2, ()))))), ((((), ()), ((y3, ((), ((), ((), ((), ((), ())))))), ((), ()))), (((), ((), ((), ((), ())))), (y4, ((), (y5, ((), (y6, (y7, (y8, ())))))))))))) (fun y0 y1 y2 y3 y4 y5 y6 y7 y8 => kq (.exit 0) (Jc6.inst (((), ((), (y0, (y1, (y2, ()))))), ((((), ()), ((y3, ((), ((), ((), ((), ((), ())))))), ((), ()))), (((), ((), ((), ((), ())))), (y4, ((), (y5, ((), (y6, (y7, (y8, ())))))))))))) x.1.2.2.1 x.1.2.2.2.1 x.1.2.2.2.2.1 x.2.1.2.1.1 x.2.2.2.1 x.2.2.2.2.2.1 x.2.2.2.2.2.2.2.1 x.2.2.2.2.2.2.2.2.1 x.2.2.2.2.2.2.2.2.2.1
theorem Jzg (Jee : (ZD) → Bool) (Jdh : (ZD) → (ZL)) (Jc9 : (ZD) → (List ZB)) (Jc7 : (ZD) → Int) (Jce : ZB → Bool) (Jbr : ZB → (List ZR)) (Jbs : ZB → Int) (Jeg : ZB → Int → ZB → Bool) (Jcd : ZB → Int → ZB → ZB) (Jcy : ZB → Int → ZB → Int) (F : Nat) : Jco prog (Jtv Jee Jdh Jc9 Jc7 Jce Jbr Jbs Jeg Jcd Jcy F) F 74 0 1 Jc6 (J8b Jee Jdh Jc9 Jc7 Jce Jbr Jbs Jeg Jcd Jcy F) := fun d x KQ => by kernel_rfl
theorem Ket (Jee : (ZD) → Bool) (Jdh : (ZD) → (ZL)) (Jc9 : (ZD) → (List ZB)) (Jc7 : (ZD) → Int) (Jce : ZB → Bool) (Jbr : ZB → (List ZR)) (Jbs : ZB → Int) (Jeg : ZB → Int → ZB → Bool) (Jcd : ZB → Int → ZB → ZB) (Jcy : ZB → Int → ZB → Int) (F : Nat) (x : Jbb Jnn) (kend : List BV → ZO) : Jav prog (Jtv Jee Jdh Jc9 Jc7 Jce Jbr Jbs Jeg Jcd Jcy F) F 20 20 (Jag Jnn x) [.d (.pair (.int .i64) (.pair (.int .i64) (.pair (.int .i64) .unit))), .d (.slc (.slc (.pair (.int .i64) (.pair (.slc (.int .u8)) .unit)))), .d (.int .i64)] kend = K17 Jee Jdh Jc9 Jc7 Jce Jbr Jbs Jeg Jcd Jcy F x.1 x.2.1 none (fun y0 y1 y2 => kend [BV.d (.pair (.int .i64) (.pair (.int .i64) (.pair (.int .i64) .unit))) y0, BV.d (.slc (.slc (.pair (.int .i64) (.pair (.slc (.int .u8)) .unit)))) y1, BV.d (.int .i64) y2]) := by kernel_rfl
theorem J6g (F : Nat) : Jco prog (Jrh F) F 74 0 1 Jc6 (Kkn F) := Jzg Jeu Jod Jl3 Jl4 Ji0 Jel Jem Jyg Jhq Jjr F
theorem Kkq (F : Nat) : Jjm prog (Jrh F) F := Jbk (l := Jzf F) rfl (fa (Jaw 0 (by kernel_rfl) (by kernel_rfl) (Jak (J6g F) (fun _ _ => rfl) (fun _ _ _ _ => rfl))) fz)
theorem Kps (F : Nat) (x : Jbb Jnn) (kend : List BV → ZO) : Jav prog (Jrh F) F 20 20 (Jag Jnn x) [.d (.pair (.int .i64) (.pair (.int .i64) (.pair (.int .i64) .unit))), .d (.slc (.slc (.pair (.int .i64) (.pair (.slc (.int .u8)) .unit)))), .d (.int .i64)] kend = Kmm F x.1 x.2.1 none (fun y0 y1 y2 => kend [BV.d (.pair (.int .i64) (.pair (.int .i64) (.pair (.int .i64) .unit))) y0, BV.d (.slc (.slc (.pair (.int .i64) (.pair (.slc (.int .u8)) .unit)))) y1, BV.d (.int .i64) y2]) := Ket Jeu Jod Jl3 Jl4 Ji0 Jel Jem Jyg Jhq Jjr F x kend
theorem Jjf  : Jaf prog 20 Jpe := Jaz (B0 := Jxq) bkN bkG Jax bkT Kps (Jae (fa J72 (fa J1e (fa J7s fz)))) (by kernel_rfl) (fun _ => rfl) Kkq (fun x h => (Kdl x.1 x.2.1 h).elim fun F hF => ⟨F, fun kend => hF none _⟩)
end Go.AI
namespace Go.AI
open Go
open Go.Proofs.Tryz (prog)
set_option linter.unusedVariables false
@[reducible] def Kpt  : List PM := [.d (.slc (.pair (.int .i64) (.pair (.slc (.int .u8)) .unit)))]
def Ksv  : Orc := Orc.of Kpt true 0 fun x => (Kq9 x.1, [.d .bool (J3y x.1)])
@[reducible] def Jh0  : Tpl := { cur := ⟨[(0, .var (.slc (.pair (.int .i64) (.pair (.slc (.int .u8)) .unit)))), (1, .var .bool), (0, .var (.int .i64))], 20⟩, stk := [⟨[], 0⟩], heap := [] }
def K18  : List (FuncId × Orc) := []
def Kak  : Book := { Γ := gam, orc := Jb2 K18, hint := Jbd [(47, { keep := some [0, 2, 3], keeps := [(2, [0, 2, 3])], own := [], dat := [], stk := [] })] }
def K19 (F : Nat) (nx : Jh0.T → ZO) (kq : ZK) (x : Jh0.T) : ZO := Kcd F none (fun l s2 i => nx ((l, (s2, (i, ()))), (((), ()), ()))) (fun y0 y1 y2 => kq .ret (Jh0.inst ((y0, (y1, (y2, ()))), (((), ()), ())))) (fun y0 y1 y2 => kq (.exit 0) (Jh0.inst ((y0, (y1, (y2, ()))), (((), ()), ())))) x.1.1 x.1.2.1 x.1.2.2.1
def K2a (F m : Nat) (x : Jh0.T) (kq : ZK) : ZO := Jsl F none (fun y0 y1 y2 => kq .ret (Jh0.inst ((y0, (y1, (y2, ()))), (((), ()), ())))) (fun y0 y1 y2 => kq (.exit 0) (Jh0.inst ((y0, (y1, (y2, ()))), (((), ()), ())))) m x.1.1 x.1.2.1 x.1.2.2.1
def K2b (F : Nat) : List (LoE Unit) := [⟨47, 2, LO.of Jh0 (K2a F F)⟩]
def J6h (F : Nat) : Jcg Unit := { toBook := Kak, lo := Jdn (K2b F), need := Jbe [] }
theorem Kkr (F : Nat) : Jco prog (J6h F) F 47 0 2 Jh0 (K19 F) := fun d x KQ => by kernel_rfl
theorem K2c (F : Nat) : Jjm prog (J6h F) F := Jbk (l := K2b F) rfl (fa (Jaw 0 (by kernel_rfl) (by kernel_rfl) (Jak (Kkr F) (fun _ _ => rfl) (fun _ _ _ _ => rfl))) fz)
theorem K5a (F : Nat) (x : Jbb Kpt) (kend : List BV → ZO) : Jav prog (J6h F) F 20 47 (Jag Kpt x) [.d .bool] kend = uFew F x.1 none (fun y0 => kend [BV.d .bool y0]) := by kernel_rfl
theorem Keu  : Jaf prog 47 Ksv := Jaz (B0 := Kak) bkN bkG Jax bkT K5a (Jae fz) (by kernel_rfl) (fun _ => rfl) K2c (fun x h => (Kun x.1 h).elim fun F hF => ⟨F, fun kend => hF none _⟩)
@[reducible] def Kev  : List PM := [.d (.slc (.pair (.int .i64) (.pair (.slc (.int .u8)) .unit))), .d (.slc (.pair (.int .i64) (.pair (.slc (.int .u8)) .unit)))]
def Kks  : Orc := Orc.of Kev true 0 fun x => (Kbu x.1 x.2.1, [.d .bool (J3z x.1 x.2.1)])
@[reducible] def Jf4  : Tpl := { cur := ⟨[(0, .var (.slc (.pair (.int .i64) (.pair (.slc (.int .u8)) .unit)))), (0, .var (.slc (.pair (.int .i64) (.pair (.slc (.int .u8)) .unit)))), (2, .var .bool), (0, .var (.int .i64))], 37⟩, stk := [⟨[], 0⟩], heap := [] }
def Kvn  : List (FuncId × Orc) := []
def J6i  : Book := { Γ := gam, orc := Jb2 Kvn, hint := Jbd [(50, { keep := some [0, 1, 4, 5], keeps := [(4, [0, 1, 4, 5])], own := [], dat := [], stk := [] })] }
def Kvo (F : Nat) (nx : Jf4.T → ZO) (kq : ZK) (x : Jf4.T) : ZO := J2a F none (fun a b s4 i => nx ((a, (b, (s4, (i, ())))), (((), ()), ()))) (fun y0 y1 y2 y3 => kq .ret (Jf4.inst ((y0, (y1, (y2, (y3, ())))), (((), ()), ())))) (fun y0 y1 y2 y3 => kq (.exit 0) (Jf4.inst ((y0, (y1, (y2, (y3, ())))), (((), ()), ())))) x.1.1 x.1.2.1 x.1.2.2.1 x.1.2.2.2.1
def Kvp (F m : Nat) (x : Jf4.T) (kq : ZK) : ZO := Jnb F none (fun y0 y1 y2 y3 => kq .ret (Jf4.inst ((y0, (y1, (y2, (y3, ())))), (((), ()), ())))) (fun y0 y1 y2 y3 => kq (.exit 0) (Jf4.inst ((y0, (y1, (y2, (y3, ())))), (((), ()), ())))) m x.1.1 x.1.2.1 x.1.2.2.1 x.1.2.2.2.1
def Ksw (F : Nat) : List (LoE Unit) := [⟨50, 4, LO.of Jf4 (Kvp F F)⟩]
def Jzh (F : Nat) : Jcg Unit := { toBook := J6i, lo := Jdn (Ksw F), need := Jbe [] }
theorem Kew (F : Nat) : Jco prog (Jzh F) F 50 0 4 Jf4 (Kvo F) := fun d x KQ => by kernel_rfl
theorem Kvq (F : Nat) : Jjm prog (Jzh F) F := Jbk (l := Ksw F) rfl (fa (Jaw 0 (by kernel_rfl) (by kernel_rfl) (Jak (Kew F) (fun _ _ => rfl) (fun _ _ _ _ => rfl))) fz)
theorem K2d (F : Nat) (x : Jbb Kev) (kend : List BV → ZO) : Jav prog (Jzh F) F 20 50 (Jag Kev x) [.d .bool] kend = K7u F x.1 x.2.1 none (fun y0 => kend [BV.d .bool y0]) := by kernel_rfl
theorem J8c  : Jaf prog 50 Kks := Jaz (B0 := J6i) bkN bkG Jax bkT K2d (Jae fz) (by kernel_rfl) (fun _ => rfl) Kvq (fun x h => (Knm x.1 x.2.1 h).elim fun F hF => ⟨F, fun kend => hF none _⟩)
@[reducible] def Ju4  : List PM := [.d (.slc (.slc (.pair (.int .i64) (.pair (.slc (.int .u8)) .unit)))), .d (.slc (.slc (.pair (.int .i64) (.pair (.slc (.int .u8)) .unit))))]
def Jma  : Orc := Orc.of Ju4 true 0 fun x => (Je8 x.1 x.2.1, [.d .bool (Je9 x.1 x.2.1)])
@[reducible] def Jdl  : Tpl := { cur := ⟨[(0, .var (.slc (.slc (.pair (.int .i64) (.pair (.slc (.int .u8)) .unit))))), (0, .var (.slc (.slc (.pair (.int .i64) (.pair (.slc (.int .u8)) .unit))))), (2, .var .bool), (0, .var (.int .i64))], 21⟩, stk := [⟨[], 0⟩], heap := [] }
def Kex  : List (FuncId × Orc) := [(50, Kks)]
def Jtw  : Book := { Γ := gam, orc := Jb2 Kex, hint := Jbd [(21, { keep := some [0, 1, 4, 5], keeps := [(4, [0, 1, 4, 5])], own := [], dat := [], stk := [] })] }
def Key (F : Nat) (nx : Jdl.T → ZO) (kq : ZK) (x : Jdl.T) : ZO := Jos F none (fun a b s4 i => nx ((a, (b, (s4, (i, ())))), (((), ()), ()))) (fun y0 y1 y2 y3 => kq .ret (Jdl.inst ((y0, (y1, (y2, (y3, ())))), (((), ()), ())))) (fun y0 y1 y2 y3 => kq (.exit 0) (Jdl.inst ((y0, (y1, (y2, (y3, ())))), (((), ()), ())))) x.1.1 x.1.2.1 x.1.2.2.1 x.1.2.2.2.1
def Kez (F m : Nat) (x : Jdl.T) (kq : ZK) : ZO := Jhc F none (fun y0 y1 y2 y3 => kq .ret (Jdl.inst ((y0, (y1, (y2, (y3, ())))), (((), ()), ())))) (fun y0 y1 y2 y3 => kq (.exit 0) (Jdl.inst ((y0, (y1, (y2, (y3, ())))), (((), ()), ())))) m x.1.1 x.1.2.1 x.1.2.2.1 x.1.2.2.2.1
def J6j (F : Nat) : List (LoE Unit) := [⟨21, 4, LO.of Jdl (Kez F F)⟩]
def Jpg (F : Nat) : Jcg Unit := { toBook := Jtw, lo := Jdn (J6j F), need := Jbe [] }
theorem J1g (F : Nat) : Jco prog (Jpg F) F 21 0 4 Jdl (Key F) := fun d x KQ => by kernel_rfl
theorem Ke0 (F : Nat) : Jjm prog (Jpg F) F := Jbk (l := J6j F) rfl (fa (Jaw 0 (by kernel_rfl) (by kernel_rfl) (Jak (J1g F) (fun _ _ => rfl) (fun _ _ _ _ => rfl))) fz)
theorem Kkt (F : Nat) (x : Jbb Ju4) (kend : List BV → ZO) : Jav prog (Jpg F) F 20 21 (Jag Ju4 x) [.d .bool] kend = Kce F x.1 x.2.1 none (fun y0 => kend [BV.d .bool y0]) := by kernel_rfl
theorem Jik  : Jaf prog 21 Jma := Jaz (B0 := Jtw) bkN bkG Jax bkT Kkt (Jae (fa J8c fz)) (by kernel_rfl) (fun _ => rfl) Ke0 (fun x h => (J7a x.1 x.2.1 h).elim fun F hF => ⟨F, fun kend => hF none _⟩)
end Go.AI
namespace Go.AI
open Go
open Go.Proofs.Tryz (prog)
set_option linter.unusedVariables false
@[reducible] def Ke1  : List PM := [.d (.int .i64)]
def Kku  : Orc := Orc.of Ke1 true 0 fun x => (true, [.d (.int .i64) (Jqm x.1)])
def Kal  : List (FuncId × Orc) := []
theorem K2e (F : Nat) (x : Jbb Ke1) (kend : List BV → ZO) : Jav prog (bkZ Kal) F 20 90 (Jag Ke1 x) [.d (.int .i64)] kend = K7t F x.1 none (fun y0 => kend [BV.d (.int .i64) y0]) := by kernel_rfl
theorem J8d  : Jaf prog 90 Kku := Jaz (B0 := bkY Kal) bkN bkG Jax bkT K2e (Jae fz) (by kernel_rfl) (fun _ => rfl) (bkO _) (fun x _ => (Knl x.1).elim fun F hF => ⟨F, fun kend => hF none _⟩)
@[reducible] def J6k  : List PM := [.d (.slc (.pair (.int .i64) (.pair (.slc (.int .u8)) .unit)))]
def Kam  : Orc := Orc.of J6k true 0 fun x => (J14 x.1, [.d (.int .i64) (Joe x.1)])
@[reducible] def Je2  : Tpl := { cur := ⟨[(0, .var (.slc (.pair (.int .i64) (.pair (.slc (.int .u8)) .unit)))), (1, .var (.int .i64)), (0, .var (.int .i64))], 26⟩, stk := [⟨[], 0⟩], heap := [] }
def Kpu  : List (FuncId × Orc) := [(90, Kku)]
def J0o  : Book := { Γ := gam, orc := Jb2 Kpu, hint := Jbd [(57, { keep := some [0, 2, 3], keeps := [(4, [0, 2, 3])], own := [], dat := [], stk := [] })] }
def Kpv (F : Nat) (nx : Je2.T → ZO) (kq : ZK) (x : Je2.T) : ZO := Jwp F none (fun l s2 i => nx ((l, (s2, (i, ()))), (((), ()), ()))) (fun y0 y1 y2 => kq .ret (Je2.inst ((y0, (y1, (y2, ()))), (((), ()), ())))) (fun y0 y1 y2 => kq (.exit 0) (Je2.inst ((y0, (y1, (y2, ()))), (((), ()), ())))) x.1.1 x.1.2.1 x.1.2.2.1
def Kpw (F m : Nat) (x : Je2.T) (kq : ZK) : ZO := Jkl F none (fun y0 y1 y2 => kq .ret (Je2.inst ((y0, (y1, (y2, ()))), (((), ()), ())))) (fun y0 y1 y2 => kq (.exit 0) (Je2.inst ((y0, (y1, (y2, ()))), (((), ()), ())))) m x.1.1 x.1.2.1 x.1.2.2.1
def Kkv (F : Nat) : List (LoE Unit) := [⟨57, 4, LO.of Je2 (Kpw F F)⟩]
def Ju5 (F : Nat) : Jcg Unit := { toBook := J0o, lo := Jdn (Kkv F), need := Jbe [] }
theorem J8e (F : Nat) : Jco prog (Ju5 F) F 57 0 4 Je2 (Kpv F) := fun d x KQ => by kernel_rfl
theorem Kpx (F : Nat) : Jjm prog (Ju5 F) F := Jbk (l := Kkv F) rfl (fa (Jaw 0 (by kernel_rfl) (by kernel_rfl) (Jak (J8e F) (fun _ _ => rfl) (fun _ _ _ _ => rfl))) fz)
theorem Kvr (F : Nat) (x : Jbb J6k) (kend : List BV → ZO) : Jav prog (Ju5 F) F 20 57 (Jag J6k x) [.d (.int .i64)] kend = Kyk F x.1 none (fun y0 => kend [BV.d (.int .i64) y0]) := by kernel_rfl
theorem J6l  : Jaf prog 57 Kam := Jaz (B0 := J0o) bkN bkG Jax bkT Kvr (Jae (fa J8d fz)) (by kernel_rfl) (fun _ => rfl) Kpx (fun x h => (Khz x.1 h).elim fun F hF => ⟨F, fun kend => hF none _⟩)
end Go.AI
namespace Go.AI
open Go
open Go.Proofs.Tryz (prog)
set_option linter.unusedVariables false
@[reducible] def Jzi  : List PM := []
def Jph  : Orc := Orc.of Jzi false 0 fun x => (Jqo, [.d (.pair (.pair (.slc (.arr 16 (.int .u8))) (.pair (.slc (.pair (.int .i64) (.pair (.arr 16 (.int .u8)) .unit))) .unit)) (.pair (.pair (.int .i64) (.pair (.int .i64) (.pair (.int .i64) .unit))) (.pair (.slc (.slc (.pair (.int .i64) (.pair (.slc (.int .u8)) .unit)))) .unit))) (Jen), .d .bool (Jm1)])
def J0p  : List (FuncId × Orc) := [(12, J2k), (31, Ksq), (32, J52)]
theorem Kpy (F : Nat) (x : Jbb Jzi) (kend : List BV → ZO) : Jav prog (bkZ J0p) F 20 28 (Jag Jzi x) [.d (.pair (.pair (.slc (.arr 16 (.int .u8))) (.pair (.slc (.pair (.int .i64) (.pair (.arr 16 (.int .u8)) .unit))) .unit)) (.pair (.pair (.int .i64) (.pair (.int .i64) (.pair (.int .i64) .unit))) (.pair (.slc (.slc (.pair (.int .i64) (.pair (.slc (.int .u8)) .unit)))) .unit))), .d .bool] kend = Kmn F  none (fun y0 y1 => kend [BV.d (.pair (.pair (.slc (.arr 16 (.int .u8))) (.pair (.slc (.pair (.int .i64) (.pair (.arr 16 (.int .u8)) .unit))) .unit)) (.pair (.pair (.int .i64) (.pair (.int .i64) (.pair (.int .i64) .unit))) (.pair (.slc (.slc (.pair (.int .i64) (.pair (.slc (.int .u8)) .unit)))) .unit))) y0, BV.d .bool y1]) := by kernel_rfl
theorem Jjg  : Jaf prog 28 Jph := Jaz (B0 := bkY J0p) bkN bkG Jax bkT Kpy (Jae (fa Jpb (fa Kec (fa J1b fz)))) (by kernel_rfl) (fun _ => rfl) (bkO _) (fun x h => (Kdp  h).elim fun F hF => ⟨F, fun kend => hF none _⟩)
@[reducible] def J6m  : List PM := [.d (.pair (.pair (.slc (.arr 16 (.int .u8))) (.pair (.slc (.pair (.int .i64) (.pair (.arr 16 (.int .u8)) .unit))) .unit)) (.pair (.pair (.int .i64) (.pair (.int .i64) (.pair (.int .i64) .unit))) (.pair (.slc (.slc (.pair (.int .i64) (.pair (.slc (.int .u8)) .unit)))) .unit))), .d (.slc (.int .u8))]
def Jzj  : Orc := Orc.of J6m true 0 fun x => (Jog x.1 x.2.1, [.d .bool (Joh x.1 x.2.1)])
def J6n  : List (FuncId × Orc) := [(20, Jpe), (21, Jma)]
theorem Kvs (F : Nat) (x : Jbb J6m) (kend : List BV → ZO) : Jav prog (bkZ J6n) F 20 30 (Jag J6m x) [.d .bool] kend = Kyl F x.1 x.2.1 none (fun y0 => kend [BV.d .bool y0]) := by kernel_rfl
theorem Jri  : Jaf prog 30 Jzj := Jaz (B0 := bkY J6n) bkN bkG Jax bkT Kvs (Jae (fa Jjf (fa Jik fz))) (by kernel_rfl) (fun _ => rfl) (bkO _) (fun x h => (Kh7 x.1 x.2.1 h).elim fun F hF => ⟨F, fun kend => hF none _⟩)
@[reducible] def J6o  : List PM := [.d (.slc (.pair (.slc (.pair (.int .i64) (.pair (.slc (.int .u8)) .unit))) (.pair .bool (.pair (.int .u8) .unit)))), .d (.slc (.int .u8)), .d (.slc (.int .i64))]
def Jzk  : Orc := Orc.of J6o true 0 fun x => (J15 x.1 x.2.1 x.2.2.1, [.d .bool (Jjz x.1 x.2.1 x.2.2.1)])
@[reducible] def Je3  : Tpl := { cur := ⟨[(0, .var (.slc (.pair (.slc (.pair (.int .i64) (.pair (.slc (.int .u8)) .unit))) (.pair .bool (.pair (.int .u8) .unit))))), (0, .var (.slc (.int .u8))), (0, .var (.slc (.int .i64))), (3, .var .bool), (0, .var (.int .i64))], 39⟩, stk := [⟨[], 0⟩], heap := [] }
def Kpz  : List (FuncId × Orc) := [(47, Ksv), (57, Kam)]
def J0q  : Book := { Γ := gam, orc := Jb2 Kpz, hint := Jbd [(26, { keep := some [0, 1, 2, 6, 7], keeps := [(2, [0, 1, 2, 6, 7])], own := [], dat := [], stk := [] })] }
def Kp0 (F : Nat) (nx : Je3.T → ZO) (kq : ZK) (x : Je3.T) : ZO := Jwq F none (fun l key choices s6 i => nx ((l, (key, (choices, (s6, (i, ()))))), (((), ()), ()))) (fun y0 y1 y2 y3 y4 => kq .ret (Je3.inst ((y0, (y1, (y2, (y3, (y4, ()))))), (((), ()), ())))) (fun y0 y1 y2 y3 y4 => kq (.exit 0) (Je3.inst ((y0, (y1, (y2, (y3, (y4, ()))))), (((), ()), ())))) x.1.1 x.1.2.1 x.1.2.2.1 x.1.2.2.2.1 x.1.2.2.2.2.1
def Kp1 (F m : Nat) (x : Je3.T) (kq : ZK) : ZO := Jkm F none (fun y0 y1 y2 y3 y4 => kq .ret (Je3.inst ((y0, (y1, (y2, (y3, (y4, ()))))), (((), ()), ())))) (fun y0 y1 y2 y3 y4 => kq (.exit 0) (Je3.inst ((y0, (y1, (y2, (y3, (y4, ()))))), (((), ()), ())))) m x.1.1 x.1.2.1 x.1.2.2.1 x.1.2.2.2.1 x.1.2.2.2.2.1
def Kkw (F : Nat) : List (LoE Unit) := [⟨26, 2, LO.of Je3 (Kp1 F F)⟩]
def Ju6 (F : Nat) : Jcg Unit := { toBook := J0q, lo := Jdn (Kkw F), need := Jbe [] }
theorem J8f (F : Nat) : Jco prog (Ju6 F) F 26 0 2 Je3 (Kp0 F) := fun d x KQ => by kernel_rfl
theorem Kp2 (F : Nat) : Jjm prog (Ju6 F) F := Jbk (l := Kkw F) rfl (fa (Jaw 0 (by kernel_rfl) (by kernel_rfl) (Jak (J8f F) (fun _ _ => rfl) (fun _ _ _ _ => rfl))) fz)
theorem Kvt (F : Nat) (x : Jbb J6o) (kend : List BV → ZO) : Jav prog (Ju6 F) F 20 26 (Jag J6o x) [.d .bool] kend = Kym F x.1 x.2.1 x.2.2.1 none (fun y0 => kend [BV.d .bool y0]) := by kernel_rfl
theorem Jrj  : Jaf prog 26 Jzk := Jaz (B0 := J0q) bkN bkG Jax bkT Kvt (Jae (fa Keu (fa J6l fz))) (by kernel_rfl) (fun _ => rfl) Kp2 (fun x h => (Kh8 x.1 x.2.1 x.2.2.1 h).elim fun F hF => ⟨F, fun kend => hF none _⟩)
@[reducible] def Jzl  : List PM := [.d (.pair (.pair (.slc (.arr 16 (.int .u8))) (.pair (.slc (.pair (.int .i64) (.pair (.arr 16 (.int .u8)) .unit))) .unit)) (.pair (.pair (.int .i64) (.pair (.int .i64) (.pair (.int .i64) .unit))) (.pair (.slc (.slc (.pair (.int .i64) (.pair (.slc (.int .u8)) .unit)))) .unit))), .d (.slc (.int .u8)), .d (.pair (.slc (.pair (.int .i64) (.pair (.slc (.int .u8)) .unit))) (.pair .bool (.pair (.int .u8) .unit))), .d (.slc (.int .i64))]
def Jpi  : Orc := Orc.of Jzl false 0 fun x => (Je4 x.1 x.2.1 x.2.2.1 x.2.2.2.1, [.d (.pair (.pair (.slc (.arr 16 (.int .u8))) (.pair (.slc (.pair (.int .i64) (.pair (.arr 16 (.int .u8)) .unit))) .unit)) (.pair (.pair (.int .i64) (.pair (.int .i64) (.pair (.int .i64) .unit))) (.pair (.slc (.slc (.pair (.int .i64) (.pair (.slc (.int .u8)) .unit)))) .unit))) (Jan x.1 x.2.1 x.2.2.1 x.2.2.2.1), .d (.slc (.int .i64)) (Jcn x.1 x.2.1 x.2.2.1 x.2.2.2.1), .d .bool (Jb6 x.1 x.2.1 x.2.2.1 x.2.2.2.1)])
def J0r  : List (FuncId × Orc) := [(12, J2k), (20, Jpe), (21, Jma), (24, J6e), (25, Jtp)]
theorem Kp3 (F : Nat) (x : Jbb Jzl) (kend : List BV → ZO) : Jav prog (bkZ J0r) F 20 29 (Jag Jzl x) [.d (.pair (.pair (.slc (.arr 16 (.int .u8))) (.pair (.slc (.pair (.int .i64) (.pair (.arr 16 (.int .u8)) .unit))) .unit)) (.pair (.pair (.int .i64) (.pair (.int .i64) (.pair (.int .i64) .unit))) (.pair (.slc (.slc (.pair (.int .i64) (.pair (.slc (.int .u8)) .unit)))) .unit))), .d (.slc (.int .i64)), .d .bool] kend = Kmo F x.1 x.2.1 x.2.2.1 x.2.2.2.1 none (fun y0 y1 y2 => kend [BV.d (.pair (.pair (.slc (.arr 16 (.int .u8))) (.pair (.slc (.pair (.int .i64) (.pair (.arr 16 (.int .u8)) .unit))) .unit)) (.pair (.pair (.int .i64) (.pair (.int .i64) (.pair (.int .i64) .unit))) (.pair (.slc (.slc (.pair (.int .i64) (.pair (.slc (.int .u8)) .unit)))) .unit))) y0, BV.d (.slc (.int .i64)) y1, BV.d .bool y2]) := by kernel_rfl
theorem Jjh  : Jaf prog 29 Jpi := Jaz (B0 := bkY J0r) bkN bkG Jax bkT Kp3 (Jae (fa Jpb (fa Jjf (fa Jik (fa J1f (fa Ju0 fz)))))) (by kernel_rfl) (fun _ => rfl) (bkO _) (fun x h => (Kdq x.1 x.2.1 x.2.2.1 x.2.2.2.1 h).elim fun F hF => ⟨F, fun kend => hF none _⟩)
end Go.AI
namespace Go.AI
open Go
open Go.Proofs.Tryz (prog)
set_option linter.unusedVariables false
@[reducible] def Jzm  : List PM := []
def Ju7  : Orc := Orc.of Jzm true 0 fun x => (Jm2, [.d .bool (Jm3)])
def J0s  : List (FuncId × Orc) := [(28, Jph), (29, Jpi), (30, Jzj)]
theorem Kp4 (F : Nat) (x : Jbb Jzm) (kend : List BV → ZO) : Jav prog (bkZ J0s) F 20 27 (Jag Jzm x) [.d .bool] kend = Kyn F  none (fun y0 => kend [BV.d .bool y0]) := by kernel_rfl
theorem Jpv  : Jaf prog 27 Ju7 := Jaz (B0 := bkY J0s) bkN bkG Jax bkT Kp4 (Jae (fa Jjg (fa Jjh (fa Jri fz)))) (by kernel_rfl) (fun _ => rfl) (bkO _) (fun x h => (Kdr  h).elim fun F hF => ⟨F, fun kend => hF none _⟩)
end Go.AI
namespace Go.AI
open Go
open Go.Proofs.Tryz (prog)
set_option linter.unusedVariables false
@[reducible] def Jlq  : List PM := [.d (.slc (.pair (.slc (.pair (.int .i64) (.pair (.slc (.int .u8)) .unit))) (.pair .bool (.pair (.int .u8) .unit)))), .d (.slc (.int .u8)), .d (.slc (.int .i64))]
def J1h  : Orc := Orc.of Jlq true 0 fun x => (TopLogPrefix_P x.1 x.2.1 x.2.2.1, [.d .bool (TopLogPrefix_r x.1 x.2.1 x.2.2.1)])
@[reducible] def Jc3  : Tpl := { cur := ⟨[(0, .var (.slc (.pair (.slc (.pair (.int .i64) (.pair (.slc (.int .u8)) .unit))) (.pair .bool (.pair (.int .u8) .unit))))), (0, .var (.slc (.int .u8))), (0, .var (.slc (.int .i64))), (4, .ptr 0 []), (0, .var .bool), (0, .var (.int .i64))], 41⟩, stk := [⟨[], 0⟩], heap := [.box (.var (.pair (.pair (.slc (.arr 16 (.int .u8))) (.pair (.slc (.pair (.int .i64) (.pair (.arr 16 (.int .u8)) .unit))) .unit)) (.pair (.pair (.int .i64) (.pair (.int .i64) (.pair (.int .i64) .unit))) (.pair (.slc (.slc (.pair (.int .i64) (.pair (.slc (.int .u8)) .unit)))) .unit))))] }
def Jzn  : List (FuncId × Orc) := [(26, Jzk), (27, Ju7), (28, Jph), (29, Jpi), (30, Jzj)]
def Jmb  : Book := { Γ := gam, orc := Jb2 Jzn, hint := Jbd [(7, { keep := some [0, 1, 2, 7, 8, 9], keeps := [(5, [0, 1, 2, 7, 8, 9])], own := [], dat := [], stk := [] })] }
def Jzo (F : Nat) (nx : Jc3.T → ZO) (kq : ZK) (x : Jc3.T) : ZO := Jht F none (fun l key choices ok i s => nx ((l, (key, (choices, ((), (ok, (i, ())))))), (((), ()), (s, ())))) (fun y0 y1 y2 y3 y4 y5 => kq (.exit 0) (Jc3.inst ((y0, (y1, (y2, ((), (y3, (y4, ())))))), (((), ()), (y5, ()))))) x.1.1 x.1.2.1 x.1.2.2.1 x.1.2.2.2.2.1 x.1.2.2.2.2.2.1 x.2.2.1
def Jzp (F m : Nat) (x : Jc3.T) (kq : ZK) : ZO := Jdd F none (fun y0 y1 y2 y3 y4 y5 => kq (.exit 0) (Jc3.inst ((y0, (y1, (y2, ((), (y3, (y4, ())))))), (((), ()), (y5, ()))))) m x.1.1 x.1.2.1 x.1.2.2.1 x.1.2.2.2.2.1 x.1.2.2.2.2.2.1 x.2.2.1
def Jrk (F : Nat) : List (LoE Unit) := [⟨7, 5, LO.of Jc3 (Jzp F F)⟩]
def Jil (F : Nat) : Jcg Unit := { toBook := Jmb, lo := Jdn (Jrk F), need := Jbe [] }
theorem Js5 (F : Nat) : Jco prog (Jil F) F 7 0 5 Jc3 (Jzo F) := fun d x KQ => by kernel_rfl
theorem Jzq (F : Nat) : Jjm prog (Jil F) F := Jbk (l := Jrk F) rfl (fa (Jaw 0 (by kernel_rfl) (by kernel_rfl) (Jak (Js5 F) (fun _ _ => rfl) (fun _ _ _ _ => rfl))) fz)
theorem J1i (F : Nat) (x : Jbb Jlq) (kend : List BV → ZO) : Jav prog (Jil F) F 20 7 (Jag Jlq x) [.d .bool] kend = TopLogPrefix F x.1 x.2.1 x.2.2.1 none (fun y0 => kend [BV.d .bool y0]) := by kernel_rfl
theorem TopLogPrefix_contract  : Jaf prog 7 J1h := Jaz (B0 := Jmb) bkN bkG Jax bkT J1i (Jae (fa Jrj (fa Jpv (fa Jjg (fa Jjh (fa Jri fz)))))) (by kernel_rfl) (fun _ => rfl) Jzq (fun x h => (Jw1 x.1 x.2.1 x.2.2.1 h).elim fun F hF => ⟨F, fun kend => hF none _⟩)
@[reducible] def Jji  : List PM := [.d (.slc (.pair (.slc (.pair (.int .i64) (.pair (.slc (.int .u8)) .unit))) (.pair .bool (.pair (.int .u8) .unit)))), .d (.slc (.int .u8)), .d (.slc (.int .i64))]
def Jzr  : Orc := Orc.of Jji true 0 fun x => (TopLogDurable_P x.1 x.2.1 x.2.2.1, [.d .bool (TopLogDurable_r x.1 x.2.1 x.2.2.1)])
@[reducible] def Jb0  : Tpl := { cur := ⟨[(0, .var (.slc (.pair (.slc (.pair (.int .i64) (.pair (.slc (.int .u8)) .unit))) (.pair .bool (.pair (.int .u8) .unit))))), (0, .var (.slc (.int .u8))), (0, .var (.slc (.int .i64))), (3, .var .bool), (0, .ptr 0 []), (0, .var .bool), (0, .var (.slc (.slc (.pair (.int .i64) (.pair (.slc (.int .u8)) .unit))))), (0, .var (.int .i64))], 69⟩, stk := [⟨[], 0⟩], heap := [.box (.var (.pair (.pair (.slc (.arr 16 (.int .u8))) (.pair (.slc (.pair (.int .i64) (.pair (.arr 16 (.int .u8)) .unit))) .unit)) (.pair (.pair (.int .i64) (.pair (.int .i64) (.pair (.int .i64) .unit))) (.pair (.slc (.slc (.pair (.int .i64) (.pair (.slc (.int .u8)) .unit)))) .unit))))] }
def Jxr  : List (FuncId × Orc) := [(20, Jpe), (21, Jma), (26, Jzk), (27, Ju7), (28, Jph), (29, Jpi)]
def Jlr  : Book := { Γ := gam, orc := Jb2 Jxr, hint := Jbd [(8, { keep := some [0, 1, 2, 6, 7, 8, 9, 10], keeps := [(6, [0, 1, 2, 6, 7, 8, 9, 10])], own := [], dat := [(9, 49)], stk := [] })] }
def Jxs (F : Nat) (nx : Jb0.T → ZO) (kq : ZK) (x : Jb0.T) : ZO := Jgd F none (fun l key choices s6 ok before i s => nx ((l, (key, (choices, (s6, ((), (ok, (before, (i, ())))))))), (((), ()), (s, ())))) (fun y0 y1 y2 y3 y4 y5 y6 y7 => kq .ret (Jb0.inst ((y0, (y1, (y2, (y3, ((), (y4, (y5, (y6, ())))))))), (((), ()), (y7, ()))))) (fun y0 y1 y2 y3 y4 y5 y6 y7 => kq (.exit 0) (Jb0.inst ((y0, (y1, (y2, (y3, ((), (y4, (y5, (y6, ())))))))), (((), ()), (y7, ()))))) x.1.1 x.1.2.1 x.1.2.2.1 x.1.2.2.2.1 x.1.2.2.2.2.2.1 x.1.2.2.2.2.2.2.1 x.1.2.2.2.2.2.2.2.1 x.2.2.1
def Jxt (F m : Nat) (x : Jb0.T) (kq : ZK) : ZO := Jc2 F none (fun y0 y1 y2 y3 y4 y5 y6 y7 => kq .ret (Jb0.inst ((y0, (y1, (y2, (y3, ((), (y4, (y5, (y6, ())))))))), (((), ()), (y7, ()))))) (fun y0 y1 y2 y3 y4 y5 y6 y7 => kq (.exit 0) (Jb0.inst ((y0, (y1, (y2, (y3, ((), (y4, (y5, (y6, ())))))))), (((), ()), (y7, ()))))) m x.1.1 x.1.2.1 x.1.2.2.1 x.1.2.2.2.1 x.1.2.2.2.2.2.1 x.1.2.2.2.2.2.2.1 x.1.2.2.2.2.2.2.2.1 x.2.2.1
def Jpw (F : Nat) : List (LoE Unit) := [⟨8, 6, LO.of Jb0 (Jxt F F)⟩]
def Jh1 (F : Nat) : Jcg Unit := { toBook := Jlr, lo := Jdn (Jpw F), need := Jbe [] }
theorem Jrl (F : Nat) : Jco prog (Jh1 F) F 8 0 6 Jb0 (Jxs F) := fun d x KQ => by kernel_rfl
theorem Jxu (F : Nat) : Jjm prog (Jh1 F) F := Jbk (l := Jpw F) rfl (fa (Jaw 0 (by kernel_rfl) (by kernel_rfl) (Jak (Jrl F) (fun _ _ => rfl) (fun _ _ _ _ => rfl))) fz)
theorem Jzs (F : Nat) (x : Jbb Jji) (kend : List BV → ZO) : Jav prog (Jh1 F) F 20 8 (Jag Jji x) [.d .bool] kend = TopLogDurable F x.1 x.2.1 x.2.2.1 none (fun y0 => kend [BV.d .bool y0]) := by kernel_rfl
theorem TopLogDurable_contract  : Jaf prog 8 Jzr := Jaz (B0 := Jlr) bkN bkG Jax bkT Jzs (Jae (fa Jjf (fa Jik (fa Jrj (fa Jpv (fa Jjg (fa Jjh fz))))))) (by kernel_rfl) (fun _ => rfl) Jxu (fun x h => (Juo x.1 x.2.1 x.2.2.1 h).elim fun F hF => ⟨F, fun kend => hF none _⟩)
end Go.AI
namespace Go.AI
open Go
abbrev tcS : Sch := .slc (.pair (.slc (.pair (.int .i64) (.pair (.slc (.int .u8)) .unit))) (.pair .bool (.pair (.int .u8) .unit)))
theorem TopLogPrefix_wf (x : LawT [tcS, .slc (.int .u8), .slc (.int .i64)]) (_ : WfArgs [tcS, .slc (.int .u8), .slc (.int .i64)] x) : TopLogPrefix_P x.1 x.2.1 x.2.2.1 = true := rfl
theorem TopLogDurable_wf (x : LawT [tcS, .slc (.int .u8), .slc (.int .i64)]) (_ : WfArgs [tcS, .slc (.int .u8), .slc (.int .i64)] x) : TopLogDurable_P x.1 x.2.1 x.2.2.1 = true := rfl
end Go.AI
