/- Texts of the proof, joined: Types WireM WireM2 DigestM DigestM2 CipherM CipherM2 DiskM LogR LogM TransM TransM4 TransM6 TransM2 TopM TopL5 TopW5. Names of our own are shortened by program; the long ones stand in wip/. -/
import Derived.Test.YtnmidfcefljafaaGreatProg
import Derived.Test.YtnmidfcefljafaaGreatQsA5
import Derived.KernelRfl
import Derived.Test.YtnmidfcefljafaaGreatQsWireP
import Derived.Test.YtnmidfcefljafaaGreatQsWireP2
import Derived.Test.YtnmidfcefljafaaGreatQsDigestP3
import Derived.Test.YtnmidfcefljafaaGreatQsDigestP4
import Derived.Test.YtnmidfcefljafaaGreatQsCipherP4
import Derived.Test.YtnmidfcefljafaaGreatQsDiskP3
import Derived.RecoverIn
import Derived.Tactics
import Derived.Tactics2
import Derived.TacticsInMore
import Derived.RegionIn
import Derived.Laws.Pointers
import Derived.Test.YtnmidfcefljafaaGreatQsLogP7
import Derived.Test.YtnmidfcefljafaaGreatQsTransP
import Derived.Test.YtnmidfcefljafaaGreatQsTransP2
import Derived.Test.YtnmidfcefljafaaGreatQsTransP5
import Derived.Test.YtnmidfcefljafaaGreatQsTopP
import Derived.Test.YtnmidfcefljafaaGreatQsTopP5
set_option maxRecDepth 100000
namespace Go.AI
abbrev ZO := Option Unit
abbrev ZK := Jfu → ASt → ZO
end Go.AI
namespace Go.AI
open Go
def gam  : Gam := [
 none,
 some ⟨.func, 1, none, false⟩,
 some ⟨.other, 1, some (.int .i64), false⟩,
 some ⟨.other, 1, some (.int .i64), false⟩,
 some ⟨.other, 1, some .bool, false⟩,
 some ⟨.other, 1, some (.int .u8), false⟩,
 some ⟨.other, 1, some (.int .u8), false⟩,
 some ⟨(.struct [(0, 2), (1, 3), (2, 4), (3, 6)]), 4, some (.pair (.int .i64) (.pair (.int .i64) (.pair .bool (.pair (.int .u8) .unit)))), false⟩,
 some ⟨(.struct [(0, 2), (1, 3), (2, 4), (3, 6)]), 4, some (.pair (.int .i64) (.pair (.int .i64) (.pair .bool (.pair (.int .u8) .unit)))), false⟩,
 some ⟨.other, 1, some .str, false⟩,
 some ⟨.other, 1, some .str, false⟩,
 some ⟨.other, 1, some .str, false⟩,
 some ⟨.other, 1, some (.int .u64), false⟩,
 some ⟨(.struct [(0, 9), (1, 12)]), 2, some (.pair .str (.pair (.int .u64) .unit)), false⟩,
 some ⟨(.struct [(0, 9), (1, 12)]), 2, some (.pair .str (.pair (.int .u64) .unit)), false⟩,
 some ⟨(.ptr 258), 1, none, false⟩,
 some ⟨(.ptr 261), 1, none, false⟩,
 some ⟨(.ptr 270), 1, none, false⟩,
 some ⟨(.struct [(0, 17)]), 1, none, false⟩,
 some ⟨(.struct [(0, 17)]), 1, none, false⟩,
 some ⟨.other, 1, none, false⟩,
 some ⟨.other, 1, some (.int .i32), false⟩,
 some ⟨(.slice 32), 1, some (.slc (.slc (.int .u8))), false⟩,
 some ⟨(.slice 62), 1, some (.slc (.arr 16 (.int .u8))), false⟩,
 some ⟨.func, 1, none, false⟩,
 some ⟨(.slice 137), 1, some (.slc (.pair (.int .i64) (.pair (.arr 16 (.int .u8)) .unit))), false⟩,
 some ⟨(.struct [(0, 23), (1, 25)]), 2, some (.pair (.slc (.arr 16 (.int .u8))) (.pair (.slc (.pair (.int .i64) (.pair (.arr 16 (.int .u8)) .unit))) .unit)), false⟩,
 some ⟨(.struct [(0, 23), (1, 25)]), 2, some (.pair (.slc (.arr 16 (.int .u8))) (.pair (.slc (.pair (.int .i64) (.pair (.arr 16 (.int .u8)) .unit))) .unit)), false⟩,
 some ⟨(.struct [(0, 3), (1, 3), (2, 3)]), 3, some (.pair (.int .i64) (.pair (.int .i64) (.pair (.int .i64) .unit))), true⟩,
 some ⟨(.struct [(0, 3), (1, 3), (2, 3)]), 3, some (.pair (.int .i64) (.pair (.int .i64) (.pair (.int .i64) .unit))), true⟩,
 none,
 some ⟨.func, 1, none, false⟩,
 some ⟨(.slice 5), 1, some (.slc (.int .u8)), false⟩,
 some ⟨(.slice 40), 1, some (.slc (.pair (.int .i64) (.pair (.int .i64) (.pair (.slc (.arr 16 (.int .u8))) .unit)))), false⟩,
 some ⟨.other, 1, some (.int .i64), false⟩,
 none,
 some ⟨.func, 1, none, false⟩,
 none,
 some ⟨.func, 1, none, false⟩,
 some ⟨(.struct [(0, 3), (1, 3), (2, 23)]), 3, some (.pair (.int .i64) (.pair (.int .i64) (.pair (.slc (.arr 16 (.int .u8))) .unit))), false⟩,
 some ⟨(.struct [(0, 3), (1, 3), (2, 23)]), 3, some (.pair (.int .i64) (.pair (.int .i64) (.pair (.slc (.arr 16 (.int .u8))) .unit))), false⟩,
 none,
 some ⟨.func, 1, none, false⟩,
 none,
 some ⟨.func, 1, none, false⟩,
 none,
 some ⟨.func, 1, none, false⟩,
 some ⟨.func, 1, none, false⟩,
 some ⟨.func, 1, none, false⟩,
 some ⟨(.slice 67), 1, some (.slc (.slc (.pair (.int .i64) (.pair (.slc (.int .u8)) .unit)))), false⟩,
 some ⟨.func, 1, none, false⟩,
 none,
 some ⟨.func, 1, none, false⟩,
 some ⟨.func, 1, none, false⟩,
 none,
 some ⟨.func, 1, none, false⟩,
 some ⟨.func, 1, none, false⟩,
 none,
 some ⟨.func, 1, none, false⟩,
 some ⟨.func, 1, none, false⟩,
 some ⟨(.array 3 5), 3, some (.arr 3 (.int .u8)), true⟩,
 some ⟨(.array 16 5), 16, some (.arr 16 (.int .u8)), true⟩,
 some ⟨(.array 16 5), 16, some (.arr 16 (.int .u8)), true⟩,
 some ⟨.func, 1, none, false⟩,
 some ⟨(.slice 3), 1, some (.slc (.int .i64)), false⟩,
 some ⟨(.struct [(0, 32), (1, 64)]), 2, some (.pair (.slc (.int .u8)) (.pair (.slc (.int .i64)) .unit)), false⟩,
 some ⟨(.struct [(0, 32), (1, 64)]), 2, some (.pair (.slc (.int .u8)) (.pair (.slc (.int .i64)) .unit)), false⟩,
 some ⟨(.slice 84), 1, some (.slc (.pair (.int .i64) (.pair (.slc (.int .u8)) .unit))), false⟩,
 some ⟨.func, 1, none, false⟩,
 none,
 some ⟨.func, 1, none, false⟩,
 some ⟨.func, 1, none, false⟩,
 some ⟨(.slice 81), 1, some (.slc (.pair (.slc (.pair (.int .i64) (.pair (.slc (.int .u8)) .unit))) (.pair .bool (.pair (.int .u8) .unit)))), false⟩,
 some ⟨.func, 1, none, false⟩,
 some ⟨(.struct [(0, 27), (2, 29), (5, 49)]), 6, some (.pair (.pair (.slc (.arr 16 (.int .u8))) (.pair (.slc (.pair (.int .i64) (.pair (.arr 16 (.int .u8)) .unit))) .unit)) (.pair (.pair (.int .i64) (.pair (.int .i64) (.pair (.int .i64) .unit))) (.pair (.slc (.slc (.pair (.int .i64) (.pair (.slc (.int .u8)) .unit)))) .unit))), false⟩,
 some ⟨(.struct [(0, 27), (2, 29), (5, 49)]), 6, some (.pair (.pair (.slc (.arr 16 (.int .u8))) (.pair (.slc (.pair (.int .i64) (.pair (.arr 16 (.int .u8)) .unit))) .unit)) (.pair (.pair (.int .i64) (.pair (.int .i64) (.pair (.int .i64) .unit))) (.pair (.slc (.slc (.pair (.int .i64) (.pair (.slc (.int .u8)) .unit)))) .unit))), false⟩,
 none,
 some ⟨.func, 1, none, false⟩,
 none,
 some ⟨.func, 1, none, false⟩,
 some ⟨(.struct [(0, 67), (1, 4), (2, 5)]), 3, some (.pair (.slc (.pair (.int .i64) (.pair (.slc (.int .u8)) .unit))) (.pair .bool (.pair (.int .u8) .unit))), false⟩,
 some ⟨(.struct [(0, 67), (1, 4), (2, 5)]), 3, some (.pair (.slc (.pair (.int .i64) (.pair (.slc (.int .u8)) .unit))) (.pair .bool (.pair (.int .u8) .unit))), false⟩,
 some ⟨.func, 1, none, false⟩,
 some ⟨(.struct [(0, 3), (1, 32)]), 2, some (.pair (.int .i64) (.pair (.slc (.int .u8)) .unit)), false⟩,
 some ⟨(.struct [(0, 3), (1, 32)]), 2, some (.pair (.int .i64) (.pair (.slc (.int .u8)) .unit)), false⟩,
 none,
 some ⟨.func, 1, none, false⟩,
 some ⟨.func, 1, none, false⟩,
 some ⟨.func, 1, none, false⟩,
 some ⟨.func, 1, none, false⟩,
 some ⟨.func, 1, none, false⟩,
 some ⟨.func, 1, none, false⟩,
 some ⟨.func, 1, none, false⟩,
 some ⟨.func, 1, none, false⟩,
 some ⟨.func, 1, none, false⟩,
 some ⟨.func, 1, none, false⟩,
 some ⟨.func, 1, none, false⟩,
 some ⟨.func, 1, none, false⟩,
 some ⟨.func, 1, none, false⟩,
 some ⟨(.array 2 98), 2, none, false⟩,
 some ⟨.func, 1, none, false⟩,
 some ⟨(.ptr 27), 1, none, false⟩,
 some ⟨.func, 1, none, false⟩,
 some ⟨.func, 1, none, false⟩,
 some ⟨.func, 1, none, false⟩,
 some ⟨(.ptr 107), 1, none, false⟩,
 some ⟨(.struct [(0, 23)]), 1, some (.pair (.slc (.arr 16 (.int .u8))) .unit), false⟩,
 some ⟨(.struct [(0, 23)]), 1, some (.pair (.slc (.arr 16 (.int .u8))) .unit), false⟩,
 none,
 some ⟨.func, 1, none, false⟩,
 some ⟨.func, 1, none, false⟩,
 some ⟨.func, 1, none, false⟩,
 some ⟨.func, 1, none, false⟩,
 some ⟨.func, 1, none, false⟩,
 some ⟨.func, 1, none, false⟩,
 none,
 some ⟨.func, 1, none, false⟩,
 some ⟨.func, 1, none, false⟩,
 none,
 some ⟨.func, 1, none, false⟩,
 none,
 some ⟨.func, 1, none, false⟩,
 none,
 some ⟨.func, 1, none, false⟩,
 none,
 some ⟨.func, 1, none, false⟩,
 some ⟨.func, 1, none, false⟩,
 some ⟨.func, 1, none, false⟩,
 some ⟨.func, 1, none, false⟩,
 some ⟨.func, 1, none, false⟩,
 some ⟨.func, 1, none, false⟩,
 some ⟨.func, 1, none, false⟩,
 some ⟨.func, 1, none, false⟩,
 some ⟨.func, 1, none, false⟩,
 some ⟨.other, 1, some (.int .u32), false⟩,
 some ⟨.func, 1, none, false⟩,
 some ⟨(.struct [(0, 3), (1, 62)]), 17, some (.pair (.int .i64) (.pair (.arr 16 (.int .u8)) .unit)), true⟩,
 some ⟨(.struct [(0, 3), (1, 62)]), 17, some (.pair (.int .i64) (.pair (.arr 16 (.int .u8)) .unit)), true⟩,
 some ⟨.func, 1, none, false⟩,
 some ⟨.func, 1, none, false⟩,
 some ⟨.func, 1, none, false⟩,
 some ⟨(.struct []), 0, none, false⟩,
 some ⟨(.struct []), 0, none, false⟩,
 none,
 some ⟨.func, 1, none, false⟩,
 some ⟨.func, 1, none, false⟩,
 some ⟨.func, 1, none, false⟩,
 some ⟨.func, 1, none, false⟩,
 some ⟨.func, 1, none, false⟩,
 some ⟨.func, 1, none, false⟩,
 some ⟨(.ptr 32), 1, none, false⟩,
 some ⟨.func, 1, none, false⟩,
 some ⟨(.ptr 3), 1, none, false⟩,
 some ⟨.func, 1, none, false⟩,
 some ⟨.func, 1, none, false⟩,
 some ⟨.func, 1, none, false⟩,
 some ⟨.func, 1, none, false⟩,
 none,
 some ⟨.func, 1, none, false⟩,
 some ⟨(.array 32 5), 32, some (.arr 32 (.int .u8)), true⟩,
 some ⟨(.array 32 5), 32, some (.arr 32 (.int .u8)), true⟩,
 none,
 some ⟨.func, 1, none, false⟩,
 some ⟨.func, 1, none, false⟩,
 some ⟨.func, 1, none, false⟩,
 none,
 some ⟨.func, 1, none, false⟩,
 none,
 some ⟨.func, 1, none, false⟩,
 some ⟨.func, 1, none, false⟩,
 some ⟨.func, 1, none, false⟩,
 some ⟨.func, 1, none, false⟩,
 some ⟨.func, 1, none, false⟩,
 some ⟨.func, 1, none, false⟩,
 some ⟨.func, 1, none, false⟩,
 some ⟨.func, 1, none, false⟩,
 some ⟨(.map 3 23), 1, none, true⟩,
 none,
 some ⟨.func, 1, none, false⟩,
 some ⟨.func, 1, none, false⟩,
 some ⟨.func, 1, none, false⟩,
 some ⟨.func, 1, none, false⟩,
 some ⟨.other, 1, some (.int .u64), false⟩,
 some ⟨.func, 1, none, false⟩,
 some ⟨.func, 1, none, false⟩,
 none,
 some ⟨.func, 1, none, false⟩,
 some ⟨.func, 1, none, false⟩,
 none,
 some ⟨.func, 1, none, false⟩,
 some ⟨.func, 1, none, false⟩,
 none,
 some ⟨.func, 1, none, false⟩,
 some ⟨.func, 1, none, false⟩,
 some ⟨.func, 1, none, false⟩,
 some ⟨.func, 1, none, false⟩,
 some ⟨.func, 1, none, false⟩,
 some ⟨(.struct [(0, 196)]), 1, none, false⟩,
 some ⟨(.struct [(0, 196)]), 1, none, false⟩,
 some ⟨.func, 1, none, false⟩,
 some ⟨.func, 1, none, false⟩,
 some ⟨.func, 1, none, false⟩,
 some ⟨.func, 1, none, false⟩,
 some ⟨.func, 1, none, false⟩,
 some ⟨.func, 1, none, false⟩,
 some ⟨.func, 1, none, false⟩,
 some ⟨.func, 1, none, false⟩,
 some ⟨.func, 1, none, false⟩,
 some ⟨(.array 64 5), 64, some (.arr 64 (.int .u8)), true⟩,
 some ⟨.func, 1, none, false⟩,
 some ⟨(.slice 134), 1, some (.slc (.int .u32)), false⟩,
 some ⟨.func, 1, none, false⟩,
 some ⟨.func, 1, none, false⟩,
 some ⟨.func, 1, none, false⟩,
 some ⟨(.array 8 134), 8, some (.arr 8 (.int .u32)), true⟩,
 some ⟨(.struct [(0, 214), (8, 32), (9, 3)]), 10, some (.pair (.arr 8 (.int .u32)) (.pair (.slc (.int .u8)) (.pair (.int .i64) .unit))), false⟩,
 some ⟨(.struct [(0, 214), (8, 32), (9, 3)]), 10, some (.pair (.arr 8 (.int .u32)) (.pair (.slc (.int .u8)) (.pair (.int .i64) .unit))), false⟩,
 some ⟨.func, 1, none, false⟩,
 some ⟨.func, 1, none, false⟩,
 some ⟨(.array 16 134), 16, some (.arr 16 (.int .u32)), true⟩,
 some ⟨(.array 16 134), 16, some (.arr 16 (.int .u32)), true⟩,
 some ⟨.func, 1, none, false⟩,
 some ⟨(.array 256 134), 256, some (.arr 256 (.int .u32)), true⟩,
 some ⟨.func, 1, none, false⟩,
 some ⟨.func, 1, none, false⟩,
 some ⟨.func, 1, none, false⟩,
 some ⟨.other, 1, some (.int .u64), false⟩,
 some ⟨.func, 1, none, false⟩,
 none,
 some ⟨.func, 1, none, false⟩,
 some ⟨.func, 1, none, false⟩,
 some ⟨.other, 1, some (.int .u32), false⟩,
 some ⟨(.array 8 231), 8, some (.arr 8 (.int .u32)), true⟩,
 some ⟨(.array 8 231), 8, some (.arr 8 (.int .u32)), true⟩,
 some ⟨.func, 1, none, false⟩,
 some ⟨(.ptr 220), 1, none, false⟩,
 some ⟨.func, 1, none, false⟩,
 some ⟨.func, 1, none, false⟩,
 some ⟨.func, 1, none, false⟩,
 some ⟨.func, 1, none, false⟩,
 some ⟨.func, 1, none, false⟩,
 some ⟨.func, 1, none, false⟩,
 some ⟨.func, 1, none, false⟩,
 some ⟨.func, 1, none, false⟩,
 some ⟨.func, 1, none, false⟩,
 some ⟨.func, 1, none, false⟩,
 some ⟨(.struct [(0, 3), (1, 3), (2, 3), (3, 3)]), 4, some (.pair (.int .i64) (.pair (.int .i64) (.pair (.int .i64) (.pair (.int .i64) .unit)))), true⟩,
 some ⟨(.array 4 246), 16, some (.arr 4 (.pair (.int .i64) (.pair (.int .i64) (.pair (.int .i64) (.pair (.int .i64) .unit))))), true⟩,
 some ⟨.func, 1, none, false⟩,
 some ⟨(.array 64 134), 64, some (.arr 64 (.int .u32)), true⟩,
 some ⟨.func, 1, none, false⟩,
 some ⟨.func, 1, none, false⟩,
 some ⟨.func, 1, none, false⟩,
 some ⟨(.array 16 231), 16, some (.arr 16 (.int .u32)), true⟩,
 some ⟨(.array 64 231), 64, some (.arr 64 (.int .u32)), true⟩,
 some ⟨.func, 1, none, false⟩,
 some ⟨.func, 1, none, false⟩,
 some ⟨(.struct [(0, 17), (1, 17), (2, 17), (3, 9)]), 4, none, false⟩,
 some ⟨(.struct [(0, 17), (1, 17), (2, 17), (3, 9)]), 4, none, false⟩,
 some ⟨(.array 0 16), 0, none, false⟩,
 some ⟨(.struct [(0, 259)]), 0, none, false⟩,
 some ⟨(.struct [(0, 259)]), 0, none, false⟩,
 some ⟨.func, 1, none, false⟩,
 some ⟨.other, 1, some (.int .u8), false⟩,
 some ⟨.other, 1, some (.int .u8), false⟩,
 some ⟨.func, 1, none, false⟩,
 some ⟨(.ptr 5), 1, none, false⟩,
 some ⟨.other, 1, some (.int .i32), false⟩,
 some ⟨.other, 1, some (.int .i32), false⟩,
 some ⟨(.struct [(0, 12), (1, 12), (2, 134), (3, 263), (4, 5), (5, 5), (6, 264), (7, 265), (8, 266), (9, 267), (10, 268)]), 11, none, false⟩,
 some ⟨(.struct [(0, 12), (1, 12), (2, 134), (3, 263), (4, 5), (5, 5), (6, 264), (7, 265), (8, 266), (9, 267), (10, 268)]), 11, none, false⟩,
 some ⟨.other, 1, none, false⟩]
theorem K87  : gamB Go.Proofs.Tryz.prog gam = true := by kernel_rfl
theorem K88  : K3l Go.Proofs.Tryz.prog = true := by kernel_rfl
theorem K89  : Kvy Go.Proofs.Tryz.prog = true := by kernel_rfl
theorem Jax  : Go.Proofs.Tryz.prog.follows .mixedOrders = true := by kernel_rfl
theorem bkN  : Krl Go.Proofs.Tryz.prog := Kvx K88
theorem bkG  : Jlo Go.Proofs.Tryz.prog := Krs K89
theorem bkT  : Jb8 Go.Proofs.Tryz.prog gam := K5a K87
def bkY (l : List (FuncId × Orc)) : Book := { Γ := gam, orc := Jb3 l, hint := Jbe [] }
def bkZ (l : List (FuncId × Orc)) : Jck Unit := { toBook := bkY l, lo := Jdq [], need := Jbf [] }
theorem bkO (l : List (FuncId × Orc)) (F : Nat) : Jkg Go.Proofs.Tryz.prog (bkZ l) F := Jbp (l := []) rfl fz
end Go.AI
namespace Go.AI
open Go
open Go.Proofs.Tryz (prog)
set_option linter.unusedVariables false
@[reducible] def Jom  : List PM := [.d (.int .u64)]
def Jsz  : Orc := Orc.of Jom true 0 fun x => (Jlt x.1, [.d (.int .i64) (Jp6 x.1)])
def Jqf  : List (FuncId × Orc) := []
theorem J57 (F : Nat) (x : Jbd Jom) (kend : List BV → ZO) : Jau prog (bkZ Jqf) F 20 152 (Jag Jom x) [.d (.int .i64)] kend = Jx7 F x.1 none (fun y0 => kend [BV.d (.int .i64) y0]) := by kernel_rfl
theorem Jt9  : Jaf prog 152 Jsz := Ja1 (B0 := bkY Jqf) bkN bkG Jax bkT J57 (Jae fz) (by kernel_rfl) (fun _ => rfl) (bkO _) (fun x h => (Jz9 x.1 h).elim fun F hF => ⟨F, fun kend => hF none _⟩)
@[reducible] def Jqg  : List PM := [.d (.int .u8)]
def Jwp  : Orc := Orc.of Jqg true 0 fun x => (true, [.d (.int .i64) (Jnt x.1)])
def Js0  : List (FuncId × Orc) := []
theorem Kci (F : Nat) (x : Jbd Jqg) (kend : List BV → ZO) : Jau prog (bkZ Js0) F 20 131 (Jag Jqg x) [.d (.int .i64)] kend = J21 F x.1 none (fun y0 => kend [BV.d (.int .i64) y0]) := by kernel_rfl
theorem Jwq  : Jaf prog 131 Jwp := Ja1 (B0 := bkY Js0) bkN bkG Jax bkT Kci (Jae fz) (by kernel_rfl) (fun _ => rfl) (bkO _) (fun x _ => (J25 x.1).elim fun F hF => ⟨F, fun kend => hF none _⟩)
@[reducible] def Jua  : List PM := [.d (.int .u64)]
def Jzn  : Orc := Orc.of Jua true 0 fun x => (Jrq x.1, [.d (.int .i64) (Jrr x.1)])
def Jwr  : List (FuncId × Orc) := [(152, Jsz)]
theorem Kg0 (F : Nat) (x : Jbd Jua) (kend : List BV → ZO) : Jau prog (bkZ Jwr) F 20 132 (Jag Jua x) [.d (.int .i64)] kend = Kao F x.1 none (fun y0 => kend [BV.d (.int .i64) y0]) := by kernel_rfl
theorem Jyj  : Jaf prog 132 Jzn := Ja1 (B0 := bkY Jwr) bkN bkG Jax bkT Kg0 (Jae (fa Jt9 fz)) (by kernel_rfl) (fun _ => rfl) (bkO _) (fun x h => (J51 x.1 h).elim fun F hF => ⟨F, fun kend => hF none _⟩)
@[reducible] def Jfm  : List PM := [.d (.int .u8)]
def Jh3  : Orc := Orc.of Jfm true 0 fun x => (true, [.d (.int .i64) (Jaw x.1)])
def Jht  : List (FuncId × Orc) := [(131, Jwp)]
theorem Jpj (F : Nat) (x : Jbd Jfm) (kend : List BV → ZO) : Jau prog (bkZ Jht) F 20 109 (Jag Jfm x) [.d (.int .i64)] kend = Jhr F x.1 none (fun y0 => kend [BV.d (.int .i64) y0]) := by kernel_rfl
theorem Jkz  : Jaf prog 109 Jh3 := Ja1 (B0 := bkY Jht) bkN bkG Jax bkT Jpj (Jae (fa Jwq fz)) (by kernel_rfl) (fun _ => rfl) (bkO _) (fun x _ => (Jmz x.1).elim fun F hF => ⟨F, fun kend => hF none _⟩)
@[reducible] def Jma  : List PM := [.d (.int .i64)]
def Jqh  : Orc := Orc.of Jma true 0 fun x => (true, [.d (.int .i64) (Jbz x.1)])
def Jo4  : List (FuncId × Orc) := []
theorem J3e (F : Nat) (x : Jbd Jma) (kend : List BV → ZO) : Jau prog (bkZ Jo4) F 20 142 (Jag Jma x) [.d (.int .i64)] kend = J22 F x.1 none (fun y0 => kend [BV.d (.int .i64) y0]) := by kernel_rfl
theorem Jso  : Jaf prog 142 Jqh := Ja1 (B0 := bkY Jo4) bkN bkG Jax bkT J3e (Jae fz) (by kernel_rfl) (fun _ => rfl) (bkO _) (fun x _ => (Jyd x.1).elim fun F hF => ⟨F, fun kend => hF none _⟩)
@[reducible] def Jk0  : List PM := [.d (.int .i64)]
def Ji9  : Orc := Orc.of Jk0 true 0 fun x => (Jdi x.1, [.d (.int .i64) (Jbg x.1)])
def Jm1  : List (FuncId × Orc) := [(132, Jzn)]
theorem J0e (F : Nat) (x : Jbd Jk0) (kend : List BV → ZO) : Jau prog (bkZ Jm1) F 20 110 (Jag Jk0 x) [.d (.int .i64)] kend = Jqa F x.1 none (fun y0 => kend [BV.d (.int .i64) y0]) := by kernel_rfl
theorem Jiz  : Jaf prog 110 Ji9 := Ja1 (B0 := bkY Jm1) bkN bkG Jax bkT J0e (Jae (fa Jyj fz)) (by kernel_rfl) (fun _ => rfl) (bkO _) (fun x h => (Jwf x.1 h).elim fun F hF => ⟨F, fun kend => hF none _⟩)
@[reducible] def Jon  : List PM := [.d (.slc (.int .u8))]
def Je6  : Orc := Orc.of Jon true 1 fun x => (Jbh x.1, [.o 5 (.int .u8) (Jb4 x.1)])
def Jqi  : List (FuncId × Orc) := []
theorem J58 (F : Nat) (x : Jbd Jon) (kend : List BV → ZO) : Jau prog (bkZ Jqi) F 20 111 (Jag Jon x) [.o 5 (.int .u8)] kend = J72 F x.1 none Jmd (fun y0 => kend [BV.o 5 (.int .u8) y0]) := by kernel_rfl
theorem Jdm  : Jaf prog 111 Je6 := Ja1 (B0 := bkY Jqi) bkN bkG Jax bkT J58 (Jae fz) (by kernel_rfl) (fun _ => rfl) (bkO _) (fun x h => (J0a x.1 h).elim fun F hF => ⟨F, fun kend => hF none Jmd Jvp _⟩)
@[reducible] def Jub  : List PM := [.o 5 (.int .u8), .d (.int .i64)]
def Jqj  : Orc := Orc.of Jub true 1 fun x => (Jj1 x.1 x.2.1, [.o 5 (.int .u8) (Jml x.1 x.2.1)])
@[reducible] def Jew  : Tpl := { cur := ⟨[(0, .row 0), (0, .var (.int .i64)), (5, .var (.int .i64))], 32⟩, stk := [⟨[], 0⟩], heap := [.row 5 (.int .u8) false] }
def Kcj  : List (FuncId × Orc) := [(110, Ji9), (142, Jqh)]
def Js1  : Book := { Γ := gam, orc := Jb3 Kcj, hint := Jbe [(124, { keep := some [0, 1, 7], keeps := [(6, [0, 1, 7])], own := [], dat := [], stk := [] })] }
def Kck (F : Nat) (nx : Jew.T → ZO) (kq : ZK) (x : Jew.T) : ZO := Jn4 F none (fun n i dst => nx (((), (n, (i, ()))), (((), ()), (dst, ())))) (fun y0 y1 y2 => kq (.exit 0) (Jew.inst (((), (y0, (y1, ()))), (((), ()), (y2, ()))))) x.1.2.1 x.1.2.2.1 x.2.2.1
def Kcl (F m : Nat) (x : Jew.T) (kq : ZK) : ZO := Jg6 F none (fun y0 y1 y2 => kq (.exit 0) (Jew.inst (((), (y0, (y1, ()))), (((), ()), (y2, ()))))) m x.1.2.1 x.1.2.2.1 x.2.2.1
def J3f (F : Nat) : List (LoE Unit) := [⟨124, 6, LO.of Jew (Kcl F F)⟩]
def Joo (F : Nat) : Jck Unit := { toBook := Js1, lo := Jdq (J3f F), need := Jbf [] }
theorem J0f (F : Nat) : Jcr prog (Joo F) F 124 0 6 Jew (Kck F) := fun d x KQ => by kernel_rfl
theorem Kcm (F : Nat) : Jkg prog (Joo F) F := Jbp (l := J3f F) rfl (fa (Jav 0 (by kernel_rfl) (by kernel_rfl) (Jal (J0f F) (fun _ _ => rfl) (fun _ _ _ _ => rfl))) fz)
theorem Kg1 (F : Nat) (x : Jbd Jub) (kend : List BV → ZO) : Jau prog (Joo F) F 20 124 (Jag Jub x) [.o 5 (.int .u8)] kend = Kap F x.1 x.2.1 none (fun y0 => kend [BV.o 5 (.int .u8) y0]) := by kernel_rfl
theorem Jm2  : Jaf prog 124 Jqj := Ja1 (B0 := Js1) bkN bkG Jax bkT Kg1 (Jae (fa Jiz (fa Jso fz))) (by kernel_rfl) (fun _ => rfl) Kcm (fun x h => (J52 x.1 x.2.1 h).elim fun F hF => ⟨F, fun kend => hF none _⟩)
@[reducible] def Jmb  : List PM := [.d (.slc (.int .u8)), .d (.int .i64)]
def Jqk  : Orc := Orc.of Jmb true 1 fun x => (Jfy x.1 x.2.1, [.o 5 (.int .u8) (Jjh x.1 x.2.1)])
def Jo5  : List (FuncId × Orc) := [(111, Je6), (124, Jqj)]
theorem J3g (F : Nat) (x : Jbd Jmb) (kend : List BV → ZO) : Jau prog (bkZ Jo5) F 20 94 (Jag Jmb x) [.o 5 (.int .u8)] kend = Jt3 F x.1 x.2.1 none (fun y0 => kend [BV.o 5 (.int .u8) y0]) := by kernel_rfl
theorem Jsp  : Jaf prog 94 Jqk := Ja1 (B0 := bkY Jo5) bkN bkG Jax bkT J3g (Jae (fa Jdm (fa Jm2 fz))) (by kernel_rfl) (fun _ => rfl) (bkO _) (fun x h => (Jye x.1 x.2.1 h).elim fun F hF => ⟨F, fun kend => hF none _⟩)
@[reducible] def Jop  : List PM := [.d (.slc (.int .u8))]
def Jql  : Orc := Orc.of Jop false 0 fun x => (Jef x.1, [.d (.int .i64) (Jan x.1), .d (.slc (.int .u8)) (Jam x.1), .d (.int .i64) (Ja9 x.1)])
@[reducible] def Jex  : Tpl := { cur := ⟨[(0, .var (.slc (.int .u8))), (4, .var (.int .i64)), (0, .var (.int .i64)), (26, .var (.slc (.int .u8))), (0, .var (.int .i64)), (0, .var (.int .i64))], 23⟩, stk := [⟨[], 0⟩], heap := [] }
def Kcn  : List (FuncId × Orc) := [(109, Jh3), (110, Ji9), (111, Je6)]
def Js2  : Book := { Γ := gam, orc := Jb3 Kcn, hint := Jbe [(77, { keep := some [0, 5, 6, 33, 34, 35], keeps := [(10, [0, 5, 6, 33, 34, 35])], own := [], dat := [], stk := [] })] }
def Kco (F : Nat) (nx : Jex.T → ZO) (kq : ZK) (x : Jex.T) : ZO := Jn5 F none (fun src k n s33 s34 s35 => nx ((src, (k, (n, (s33, (s34, (s35, ())))))), (((), ()), ()))) (fun y0 y1 y2 y3 y4 y5 => kq (.exit 0) (Jex.inst ((y0, (y1, (y2, (y3, (y4, (y5, ())))))), (((), ()), ())))) x.1.1 x.1.2.1 x.1.2.2.1 x.1.2.2.2.1 x.1.2.2.2.2.1 x.1.2.2.2.2.2.1
def Kcp (F m : Nat) (x : Jex.T) (kq : ZK) : ZO := Jg7 F none (fun y0 y1 y2 y3 y4 y5 => kq (.exit 0) (Jex.inst ((y0, (y1, (y2, (y3, (y4, (y5, ())))))), (((), ()), ())))) m x.1.1 x.1.2.1 x.1.2.2.1 x.1.2.2.2.1 x.1.2.2.2.2.1 x.1.2.2.2.2.2.1
def J3h (F : Nat) : List (LoE Unit) := [⟨77, 10, LO.of Jex (Kcp F F)⟩]
def Joq (F : Nat) : Jck Unit := { toBook := Js2, lo := Jdq (J3h F), need := Jbf [] }
theorem J0g (F : Nat) : Jcr prog (Joq F) F 77 0 10 Jex (Kco F) := fun d x KQ => by kernel_rfl
theorem Kcq (F : Nat) : Jkg prog (Joq F) F := Jbp (l := J3h F) rfl (fa (Jav 0 (by kernel_rfl) (by kernel_rfl) (Jal (J0g F) (fun _ _ => rfl) (fun _ _ _ _ => rfl))) fz)
theorem Kg2 (F : Nat) (x : Jbd Jop) (kend : List BV → ZO) : Jau prog (Joq F) F 20 77 (Jag Jop x) [.d (.int .i64), .d (.slc (.int .u8)), .d (.int .i64)] kend = Kaq F x.1 none (fun y0 y1 y2 => kend [BV.d (.int .i64) y0, BV.d (.slc (.int .u8)) y1, BV.d (.int .i64) y2]) := by kernel_rfl
theorem Jm3  : Jaf prog 77 Jql := Ja1 (B0 := Js2) bkN bkG Jax bkT Kg2 (Jae (fa Jkz (fa Jiz (fa Jdm fz)))) (by kernel_rfl) (fun _ => rfl) Kcq (fun x h => (J53 x.1 h).elim fun F hF => ⟨F, fun kend => hF none _⟩)
end Go.AI
namespace Go.AI
open Go
open Go.Proofs.Tryz (prog)
set_option linter.unusedVariables false
@[reducible] def Jja  : List PM := [.d (.slc (.int .u8)), .d (.slc (.int .u8))]
def Jm4  : Orc := Orc.of Jja true 1 fun x => (Jeg x.1 x.2.1, [.o 5 (.int .u8) (Jhp x.1 x.2.1)])
@[reducible] def Jci  : Tpl := { cur := ⟨[(1, .row 0), (1, .ptr 1 []), (10, .var (.slc (.int .u8))), (0, .var (.int .i64)), (0, .var (.int .i64))], 10⟩, stk := [⟨[], 9⟩, ⟨[], 0⟩], heap := [.row 5 (.int .u8) false, .box (.pr (.fn 125 (.un)) (.var .unit))] }
def Jws  : List (FuncId × Orc) := [(111, Je6), (124, Jqj)]
def Jk1  : Book := { Γ := gam, orc := Jb3 Jws, hint := Jbe [(126, { keep := some [1, 3, 14, 15, 16], keeps := [(3, [1, 3, 14, 15, 16])], own := [], dat := [], stk := [[]] })] }
def Jwt (F : Nat) (nx : Jci.T → ZO) (kq : ZK) (x : Jci.T) : ZO := Jgc F none (fun s14 s15 s16 dst => nx (((), ((), (s14, (s15, (s16, ()))))), (((), ((), ())), (dst, (((), ()), ()))))) (fun y0 y1 y2 y3 => kq (.exit 0) (Jci.inst (((), ((), (y0, (y1, (y2, ()))))), (((), ((), ())), (y3, (((), ()), ())))))) x.1.2.2.1 x.1.2.2.2.1 x.1.2.2.2.2.1 x.2.2.1
def Jwu (F m : Nat) (x : Jci.T) (kq : ZK) : ZO := Jdk F none (fun y0 y1 y2 y3 => kq (.exit 0) (Jci.inst (((), ((), (y0, (y1, (y2, ()))))), (((), ((), ())), (y3, (((), ()), ())))))) m x.1.2.2.1 x.1.2.2.2.1 x.1.2.2.2.2.1 x.2.2.1
def Jo6 (F : Nat) : List (LoE Unit) := [⟨126, 3, LO.of Jci (Jwu F F)⟩]
def Jhu (F : Nat) : Jck Unit := { toBook := Jk1, lo := Jdq (Jo6 F), need := Jbf [(126, 1)] }
theorem Jqm (F : Nat) : Jcr prog (Jhu F) F 126 0 3 Jci (Jwt F) := fun d x KQ => by kernel_rfl
theorem Jwv (F : Nat) : Jkg prog (Jhu F) F := Jbp (l := Jo6 F) rfl (fa (Jav 0 (by kernel_rfl) (by kernel_rfl) (Jal (Jqm F) (fun _ _ => rfl) (fun _ _ _ _ => rfl))) fz)
theorem Jyk (F : Nat) (x : Jbd Jja) (kend : List BV → ZO) : Jau prog (Jhu F) F 20 96 (Jag Jja x) [.o 5 (.int .u8)] kend = Jn6 F x.1 x.2.1 none (fun y0 => kend [BV.o 5 (.int .u8) y0]) := by kernel_rfl
theorem Jpk  : Jaf prog 96 Jm4 := Ja1 (B0 := Jk1) bkN bkG Jax bkT Jyk (Jae (fa Jdm (fa Jm2 fz))) (by kernel_rfl) (fun _ => rfl) Jwv (fun x h => (Jt8 x.1 x.2.1 h).elim fun F hF => ⟨F, fun kend => hF none _⟩)
@[reducible] def Jjv  : List PM := [.d (.slc (.int .u8))]
def Js3  : Orc := Orc.of Jjv false 0 fun x => (Jff x.1, [.d (.slc (.int .u8)) (Jdz x.1), .d (.slc (.int .u8)) (Jd0 x.1), .d (.int .i64) (Jch x.1)])
def Jqn  : List (FuncId × Orc) := [(77, Jql), (111, Je6)]
theorem J59 (F : Nat) (x : Jbd Jjv) (kend : List BV → ZO) : Jau prog (bkZ Jqn) F 20 80 (Jag Jjv x) [.d (.slc (.int .u8)), .d (.slc (.int .u8)), .d (.int .i64)] kend = Jx8 F x.1 none (fun y0 y1 y2 => kend [BV.d (.slc (.int .u8)) y0, BV.d (.slc (.int .u8)) y1, BV.d (.int .i64) y2]) := by kernel_rfl
theorem Juc  : Jaf prog 80 Js3 := Ja1 (B0 := bkY Jqn) bkN bkG Jax bkT J59 (Jae (fa Jm3 (fa Jdm fz))) (by kernel_rfl) (fun _ => rfl) (bkO _) (fun x h => (J0b x.1 h).elim fun F hF => ⟨F, fun kend => hF none _⟩)
end Go.AI
namespace Go.AI
open Go
open Go.Proofs.Tryz (prog)
set_option linter.unusedVariables false
@[reducible] def Kme  : List PM := [.d (.int .u32), .d (.int .i64)]
def Kcr  : Orc := Orc.of Kme true 0 fun x => (Jsw x.1 x.2.1, [.d (.int .u32) (J2v x.1 x.2.1)])
def Kg3  : List (FuncId × Orc) := []
theorem K20 (F : Nat) (x : Jbd Kme) (kend : List BV → ZO) : Jau prog (bkZ Kg3) F 20 169 (Jag Kme x) [.d (.int .u32)] kend = rotr F x.1 x.2.1 none (fun y0 => kend [BV.d (.int .u32) y0]) := by kernel_rfl
theorem Jww  : Jaf prog 169 Kcr := Ja1 (B0 := bkY Kg3) bkN bkG Jax bkT K20 (Jae fz) (by kernel_rfl) (fun _ => rfl) (bkO _) (fun x h => (Kr6 x.1 x.2.1 h).elim fun F hF => ⟨F, fun kend => hF none _⟩)
@[reducible] def Kyj  : List PM := [.d (.int .u32), .d (.int .i64)]
def Kyk  : Orc := Orc.of Kyj true 0 fun x => (K1p x.1 x.2.1, [.d (.int .u32) (K5j x.1 x.2.1)])
def Kqr  : List (FuncId × Orc) := []
theorem K64 (F : Nat) (x : Jbd Kyj) (kend : List BV → ZO) : Jau prog (bkZ Kqr) F 20 177 (Jag Kyj x) [.d (.int .u32)] kend = shr F x.1 x.2.1 none (fun y0 => kend [BV.d (.int .u32) y0]) := by kernel_rfl
theorem Kg4  : Jaf prog 177 Kyk := Ja1 (B0 := bkY Kqr) bkN bkG Jax bkT K64 (Jae fz) (by kernel_rfl) (fun _ => rfl) (bkO _) (fun x h => (Kw4 x.1 x.2.1 h).elim fun F hF => ⟨F, fun kend => hF none _⟩)
def Kg5  : List (FuncId × Orc) := [(169, Kcr)]
def Jwx  : Book := { Γ := gam, orc := Jb3 Kg5, hint := Jbe [] }
def J8f (F : Nat) : List (LoE Unit) := []
def Jqo (F : Nat) : Jck Unit := { toBook := Jwx, lo := Jdq (J8f F), need := Jbf [] }
theorem Kg6 (F : Nat) : Jkg prog (Jqo F) F := Jbp (l := J8f F) rfl fz
theorem Kmf (F : Nat) (x_ : UInt32) (a b c : Int) (kend : List BV → ZO) : Jau prog (Jqo F) F 20 168 [.d (.int .u32) x_, .d (.int .i64) a, .d (.int .i64) b, .d (.int .i64) c, .f 169] [.d (.int .u32)] kend = Kkz F x_ a b c none (fun y0 => kend [BV.d (.int .u32) y0]) := by kernel_rfl
theorem Jo7  : Jaf prog 168 (Orc.of [.d (.int .u32), .d (.int .i64), .d (.int .i64), .d (.int .i64), .f] true 0 fun x => ((Nat.beq x.2.2.2.2.1 169) && Jfe x.1 x.2.1 x.2.2.1 x.2.2.2.1 x.2.2.2.2.1, [.d (.int .u32) (Jd6 x.1 x.2.1 x.2.2.1 x.2.2.2.1 x.2.2.2.2.1)])) := Jdu (B0 := Jwx) bkN bkG Jax bkT (Jae (fa Jww fz)) (by kernel_rfl) (fun x h => by
 obtain ⟨x0, x1, x2, x3, x4, _⟩ := x
 simp only [Bool.and_eq_true] at h
 obtain ⟨e, h⟩ := h
 have e := Nat.eq_of_beq_eq_true e
 subst e
 obtain ⟨F, hF⟩ := Kbc x0 x1 x2 x3 h
 exact ⟨F, 20, Jqo F, rfl, Kg6 F, fun kend => (Kmf F x0 x1 x2 x3 kend).trans (hF none (fun y0 => kend [BV.d (.int .u32) y0]))⟩)
def Kg7  : List (FuncId × Orc) := [(169, Kcr), (177, Kyk)]
def Jwy  : Book := { Γ := gam, orc := Jb3 Kg7, hint := Jbe [] }
def J8g (F : Nat) : List (LoE Unit) := []
def Jqp (F : Nat) : Jck Unit := { toBook := Jwy, lo := Jdq (J8g F), need := Jbf [] }
theorem Kg8 (F : Nat) : Jkg prog (Jqp F) F := Jbp (l := J8g F) rfl fz
theorem Kmg (F : Nat) (x_ : UInt32) (a b c : Int) (kend : List BV → ZO) : Jau prog (Jqp F) F 20 168 [.d (.int .u32) x_, .d (.int .i64) a, .d (.int .i64) b, .d (.int .i64) c, .f 177] [.d (.int .u32)] kend = Kk0 F x_ a b c none (fun y0 => kend [BV.d (.int .u32) y0]) := by kernel_rfl
theorem J0h  : Jaf prog 168 (Orc.of [.d (.int .u32), .d (.int .i64), .d (.int .i64), .d (.int .i64), .f] true 0 fun x => ((Nat.beq x.2.2.2.2.1 177) && Jfe x.1 x.2.1 x.2.2.1 x.2.2.2.1 x.2.2.2.2.1, [.d (.int .u32) (Jd6 x.1 x.2.1 x.2.2.1 x.2.2.2.1 x.2.2.2.2.1)])) := Jdu (B0 := Jwy) bkN bkG Jax bkT (Jae (fa Jww (fa Kg4 fz))) (by kernel_rfl) (fun x h => by
 obtain ⟨x0, x1, x2, x3, x4, _⟩ := x
 simp only [Bool.and_eq_true] at h
 obtain ⟨e, h⟩ := h
 have e := Nat.eq_of_beq_eq_true e
 subst e
 obtain ⟨F, hF⟩ := Kbd x0 x1 x2 x3 h
 exact ⟨F, 20, Jqp F, rfl, Kg8 F, fun kend => (Kmg F x0 x1 x2 x3 kend).trans (hF none (fun y0 => kend [BV.d (.int .u32) y0]))⟩)
def Kg9  : Orc := Orc.of [.d (.int .u32), .d (.int .i64), .d (.int .i64), .d (.int .i64), .f] true 0 fun x => ((Nat.beq x.2.2.2.2.1 169 || Nat.beq x.2.2.2.2.1 177) && Jfe x.1 x.2.1 x.2.2.1 x.2.2.2.1 x.2.2.2.2.1, [.d (.int .u32) (Jd6 x.1 x.2.1 x.2.2.1 x.2.2.2.1 x.2.2.2.2.1)])
theorem J6a  : Jaf prog 168 Kg9 := Jik Jo7.1 (fun x h => by
 obtain ⟨x0, x1, x2, x3, x4, _⟩ := x
 simp only [Bool.and_eq_true, Bool.or_eq_true] at h
 obtain ⟨e, _⟩ := h
 rcases e with e | e
 ·have e := Nat.eq_of_beq_eq_true e
  subst e
  exact ⟨_, Jo7, rfl⟩
 ·have e := Nat.eq_of_beq_eq_true e
  subst e
  exact ⟨_, J0h, rfl⟩)
@[reducible] def J3i  : List PM := []
def J8h  : Orc := Orc.of J3i true 0 fun x => (J07, [.d (.arr 64 (.int .u32)) (Kag)])
def J3j  : List (FuncId × Orc) := []
theorem Ksx (F : Nat) (x : Jbd J3i) (kend : List BV → ZO) : Jau prog (bkZ J3j) F 20 176 (Jag J3i x) [.d (.arr 64 (.int .u32))] kend = K3w F  none (fun y0 => kend [BV.d (.arr 64 (.int .u32)) y0]) := by kernel_rfl
theorem J3k  : Jaf prog 176 J8h := Ja1 (B0 := bkY J3j) bkN bkG Jax bkT Ksx (Jae fz) (by kernel_rfl) (fun _ => rfl) (bkO _) (fun x h => (Kfy  h).elim fun F hF => ⟨F, fun kend => hF none _⟩)
@[reducible] def J3l  : List PM := [.d (.arr 8 (.int .u32)), .d (.slc (.int .u8))]
def J8i  : Orc := Orc.of J3l true 0 fun x => (Jvt x.1 x.2.1, [.d (.arr 8 (.int .u32)) (Kah x.1 x.2.1)])
@[reducible] def Jgl  : Tpl := { cur := ⟨[(0, .hnd .yield 0), (0, .ptr 2 []), (1, .ptr 3 []), (0, .var (.int .i64)), (0, .var (.int .u32)), (4, .var (.arr 64 (.int .u32))), (0, .var (.int .i64)), (11, .var (.slc (.int .u8))), (0, .var (.int .i64)), (0, .var (.int .i64))], 50⟩, stk := [⟨[(0, .hnd .yield 0)], 0⟩, ⟨[(2, .ptr 4 []), (1, .ptr 5 []), (0, .ptr 1 [])], 78⟩, ⟨[], 0⟩], heap := [.lp 160 3 ⟨[(5, .ptr 1 [])], 78⟩ .ready, .box (.var (.arr 8 (.int .u32))), .box (.var (.slc (.int .u8))), .box (.var (.arr 16 (.int .u32))), .box (.var (.arr 8 (.int .u32))), .box (.var (.arr 8 (.int .u32)))] }
@[reducible] def Jgm  : Tpl := { cur := ⟨[(0, .hnd .yield 0), (0, .ptr 2 []), (1, .ptr 3 []), (6, .var (.arr 64 (.int .u32))), (0, .var (.int .i64))], 64⟩, stk := [⟨[(0, .hnd .yield 0)], 0⟩, ⟨[(2, .ptr 4 []), (1, .ptr 5 []), (0, .ptr 1 [])], 78⟩, ⟨[], 0⟩], heap := [.lp 160 3 ⟨[(5, .ptr 1 [])], 78⟩ .ready, .box (.var (.arr 8 (.int .u32))), .box (.var (.slc (.int .u8))), .box (.var (.arr 16 (.int .u32))), .box (.var (.arr 8 (.int .u32))), .box (.var (.arr 8 (.int .u32)))] }
@[reducible] def Jgn  : Tpl := { cur := ⟨[(2, .ptr 0 []), (1, .ptr 1 []), (0, .ptr 2 []), (65, .var (.int .i64))], 12⟩, stk := [⟨[], 0⟩], heap := [.box (.var (.arr 8 (.int .u32))), .box (.var (.arr 8 (.int .u32))), .box (.var (.arr 8 (.int .u32)))] }
def Kmh  : List (FuncId × Orc) := [(168, Kg9), (176, J8h)]
def Jzo  : Book := { Γ := gam, orc := Jb3 Kmh, hint := Jbe [(160, { keep := some [2, 4, 5, 71], keeps := [(9, [2, 4, 5, 71])], own := [], dat := [], stk := [] }), (175, { keep := some [0, 1, 3, 4, 5, 10, 11, 23, 24, 25], keeps := [(2, [0, 1, 3, 10, 11]), (6, [0, 1, 3, 4, 5, 10, 11, 23, 24, 25])], own := [], dat := [], stk := [[0], [2, 4, 5, 6, 7, 8, 9, 10, 15, 21]] })] }
def Kmi (F : Nat) (nx : Jgl.T → ZO) (kq : ZK) (x : Jgl.T) : ZO := Jv4 F none (fun i k s10 s11 s23 s24 s25 x_ s1 w s s4 => nx (((), ((), ((), (i, (k, (s10, (s11, (s23, (s24, (s25, ())))))))))), ((((), ()), (((), ((), ((), ()))), ((), ()))), (((), ()), (x_, (s1, (w, (s, (s4, ()))))))))) (fun y0 y1 y2 y3 y4 y5 y6 y7 y8 y9 y10 y11 => kq (.exit 2) (Jgl.inst (((), ((), ((), (y0, (y1, (y2, (y3, (y4, (y5, (y6, ())))))))))), ((((), ()), (((), ((), ((), ()))), ((), ()))), (((), ()), (y7, (y8, (y9, (y10, (y11, ())))))))))) x.1.2.2.2.1 x.1.2.2.2.2.1 x.1.2.2.2.2.2.1 x.1.2.2.2.2.2.2.1 x.1.2.2.2.2.2.2.2.1 x.1.2.2.2.2.2.2.2.2.1 x.1.2.2.2.2.2.2.2.2.2.1 x.2.2.2.1 x.2.2.2.2.1 x.2.2.2.2.2.1 x.2.2.2.2.2.2.1 x.2.2.2.2.2.2.2.1
def Kmj (F m : Nat) (x : Jgl.T) (kq : ZK) : ZO := Jg5 F none (fun y0 y1 y2 y3 y4 y5 y6 y7 y8 y9 y10 y11 => kq (.exit 2) (Jgl.inst (((), ((), ((), (y0, (y1, (y2, (y3, (y4, (y5, (y6, ())))))))))), ((((), ()), (((), ((), ((), ()))), ((), ()))), (((), ()), (y7, (y8, (y9, (y10, (y11, ())))))))))) m x.1.2.2.2.1 x.1.2.2.2.2.1 x.1.2.2.2.2.2.1 x.1.2.2.2.2.2.2.1 x.1.2.2.2.2.2.2.2.1 x.1.2.2.2.2.2.2.2.2.1 x.1.2.2.2.2.2.2.2.2.2.1 x.2.2.2.1 x.2.2.2.2.1 x.2.2.2.2.2.1 x.2.2.2.2.2.2.1 x.2.2.2.2.2.2.2.1
def Kmk (F : Nat) (nx : Jgm.T → ZO) (kq : ZK) (x : Jgm.T) : ZO := Jv5 F none (fun s10 s11 x_ s1 w s s4 => nx (((), ((), ((), (s10, (s11, ()))))), ((((), ()), (((), ((), ((), ()))), ((), ()))), (((), ()), (x_, (s1, (w, (s, (s4, ()))))))))) (fun y0 y1 y2 y3 y4 y5 y6 => kq (.exit 0) (Jgm.inst (((), ((), ((), (y0, (y1, ()))))), ((((), ()), (((), ((), ((), ()))), ((), ()))), (((), ()), (y2, (y3, (y4, (y5, (y6, ())))))))))) x.1.2.2.2.1 x.1.2.2.2.2.1 x.2.2.2.1 x.2.2.2.2.1 x.2.2.2.2.2.1 x.2.2.2.2.2.2.1 x.2.2.2.2.2.2.2.1
def Kml (F m : Nat) (x : Jgm.T) (kq : ZK) : ZO := Jj7 F none (fun y0 y1 y2 y3 y4 y5 y6 => kq (.exit 0) (Jgm.inst (((), ((), ((), (y0, (y1, ()))))), ((((), ()), (((), ((), ((), ()))), ((), ()))), (((), ()), (y2, (y3, (y4, (y5, (y6, ())))))))))) m x.1.2.2.2.1 x.1.2.2.2.2.1 x.2.2.2.1 x.2.2.2.2.1 x.2.2.2.2.2.1 x.2.2.2.2.2.2.1 x.2.2.2.2.2.2.2.1
def Kmm (F : Nat) (nx : Jgn.T → ZO) (kq : ZK) (x : Jgn.T) : ZO := Kfm F none (fun s71 s s4 x_ => nx (((), ((), ((), (s71, ())))), (((), ()), (s, (s4, (x_, ())))))) (fun y0 y1 y2 y3 => kq (.exit 2) (Jgn.inst (((), ((), ((), (y0, ())))), (((), ()), (y1, (y2, (y3, ()))))))) x.1.2.2.2.1 x.2.2.1 x.2.2.2.1 x.2.2.2.2.1
def Kmn (F m : Nat) (x : Jgn.T) (kq : ZK) : ZO := Jmr F none (fun y0 y1 y2 y3 => kq (.exit 2) (Jgn.inst (((), ((), ((), (y0, ())))), (((), ()), (y1, (y2, (y3, ()))))))) m x.1.2.2.2.1 x.2.2.1 x.2.2.2.1 x.2.2.2.2.1
def Kha (F : Nat) : List (LoE Unit) := [⟨175, 6, LO.of Jgl (Kmj F F)⟩,
 ⟨175, 2, LO.of Jgm (Kml F F)⟩,
 ⟨160, 9, LO.of Jgn (Kmn F F)⟩]
def Jk2 (F : Nat) : Jck Unit := { toBook := Jzo, lo := Jdq (Kha F), need := Jbf [(175, 1)] }
theorem J6b (F : Nat) : Jcr prog (Jk2 F) F 175 1 6 Jgl (Kmi F) := fun d x KQ => by kernel_rfl
theorem J6c (F : Nat) : Jcr prog (Jk2 F) F 175 0 2 Jgm (Kmk F) := fun d x KQ => by kernel_rfl
theorem J6d (F : Nat) : Jcr prog (Jk2 F) F 160 0 9 Jgn (Kmm F) := fun d x KQ => by kernel_rfl
theorem Kmo (F : Nat) : Jkg prog (Jk2 F) F := Jbp (l := Kha F) rfl (fa (Jav 1 (by kernel_rfl) (by kernel_rfl) (Jal (J6b F) (fun _ _ => rfl) (fun _ _ _ _ => rfl))) (fa (Jav 0 (by kernel_rfl) (by kernel_rfl) (Jal (J6c F) (fun _ _ => rfl) (fun _ _ _ _ => rfl))) (fa (Jav 0 (by kernel_rfl) (by kernel_rfl) (Jal (J6d F) (fun _ _ => rfl) (fun _ _ _ _ => rfl))) fz)))
theorem Ksy (F : Nat) (x : Jbd J3l) (kend : List BV → ZO) : Jau prog (Jk2 F) F 20 160 (Jag J3l x) [.d (.arr 8 (.int .u32))] kend = Kwd F x.1 x.2.1 none (fun y0 => kend [BV.d (.arr 8 (.int .u32)) y0]) := by kernel_rfl
theorem J3m  : Jaf prog 160 J8i := Ja1 (B0 := Jzo) bkN bkG Jax bkT Ksy (Jae (fa J6a (fa J3k fz))) (by kernel_rfl) (fun _ => rfl) Kmo (fun x h => (Kf2 x.1 x.2.1 h).elim fun F hF => ⟨F, fun kend => hF none _⟩)
@[reducible] def Kmp  : List PM := []
def Kcs  : Orc := Orc.of Kmp false 0 fun x => (Jzf, [.d (.pair (.arr 8 (.int .u32)) (.pair (.slc (.int .u8)) (.pair (.int .i64) .unit))) (Jf4)])
def Khb  : List (FuncId × Orc) := []
theorem K21 (F : Nat) (x : Jbd Kmp) (kend : List BV → ZO) : Jau prog (bkZ Khb) F 20 145 (Jag Kmp x) [.d (.pair (.arr 8 (.int .u32)) (.pair (.slc (.int .u8)) (.pair (.int .i64) .unit)))] kend = hNew F  none (fun y0 => kend [BV.d (.pair (.arr 8 (.int .u32)) (.pair (.slc (.int .u8)) (.pair (.int .i64) .unit))) y0]) := by kernel_rfl
theorem Jwz  : Jaf prog 145 Kcs := Ja1 (B0 := bkY Khb) bkN bkG Jax bkT K21 (Jae fz) (by kernel_rfl) (fun _ => rfl) (bkO _) (fun x h => (Kr7  h).elim fun F hF => ⟨F, fun kend => hF none _⟩)
@[reducible] def J3n  : List PM := [.d (.pair (.arr 8 (.int .u32)) (.pair (.slc (.int .u8)) (.pair (.int .i64) .unit))), .d (.slc (.int .u8))]
def Jsh  : Orc := Orc.of J3n false 0 fun x => (Jdy x.1 x.2.1, [.d (.pair (.arr 8 (.int .u32)) (.pair (.slc (.int .u8)) (.pair (.int .i64) .unit))) (Jco x.1 x.2.1)])
@[reducible] def Jgo  : Tpl := { cur := ⟨[(1, .var (.slc (.int .u8))), (0, .ptr 0 []), (1, .ptr 1 []), (0, .ptr 2 []), (7, .var (.arr 8 (.int .u32))), (0, .var (.int .i64))], 45⟩, stk := [⟨[], 0⟩], heap := [.box (.var (.pair (.arr 8 (.int .u32)) (.pair (.slc (.int .u8)) (.pair (.int .i64) .unit)))), .box (.var (.pair (.arr 8 (.int .u32)) (.pair (.slc (.int .u8)) (.pair (.int .i64) .unit)))), .box (.var (.arr 8 (.int .u32)))] }
@[reducible] def Jgp  : Tpl := { cur := ⟨[(1, .var (.slc (.int .u8))), (0, .ptr 0 []), (1, .ptr 1 []), (0, .ptr 2 []), (2, .var (.slc (.int .u8)))], 51⟩, stk := [⟨[], 0⟩], heap := [.box (.var (.pair (.arr 8 (.int .u32)) (.pair (.slc (.int .u8)) (.pair (.int .i64) .unit)))), .box (.var (.pair (.arr 8 (.int .u32)) (.pair (.slc (.int .u8)) (.pair (.int .i64) .unit)))), .box (.var (.arr 8 (.int .u32)))] }
@[reducible] def Jgq  : Tpl := { cur := ⟨[(4, .ptr 0 []), (4, .ptr 1 []), (39, .var (.arr 8 (.int .u32))), (0, .var (.int .i64))], 9⟩, stk := [⟨[], 0⟩], heap := [.box (.var (.pair (.arr 8 (.int .u32)) (.pair (.slc (.int .u8)) (.pair (.int .i64) .unit)))), .box (.pr (.var (.arr 8 (.int .u32))) (.pr (.row 2) (.var (.pair (.int .i64) .unit)))), .row 5 (.int .u8) false] }
def Kmq  : List (FuncId × Orc) := [(160, J8i)]
def Jzp  : Book := { Γ := gam, orc := Jb3 Kmq, hint := Jbe [(144, { keep := some [1, 2, 4, 5, 8, 9, 13, 14, 49, 50], keeps := [(3, [1, 2, 4, 5, 13, 14]), (8, [1, 2, 4, 5, 8]), (13, [4, 9, 49, 50])], own := [], dat := [], stk := [] })] }
def Kmr (F : Nat) (nx : Jgo.T → ZO) (kq : ZK) (x : Jgo.T) : ZO := Kfn F none (fun b s13 s14 h s4 s => nx ((b, ((), ((), ((), (s13, (s14, ())))))), (((), ()), (h, (s4, (s, ())))))) (fun y0 y1 y2 y3 y4 y5 => kq (.exit 0) (Jgo.inst ((y0, ((), ((), ((), (y1, (y2, ())))))), (((), ()), (y3, (y4, (y5, ()))))))) x.1.1 x.1.2.2.2.2.1 x.1.2.2.2.2.2.1 x.2.2.1 x.2.2.2.1 x.2.2.2.2.1
def Kms (F m : Nat) (x : Jgo.T) (kq : ZK) : ZO := Jrw F none (fun y0 y1 y2 y3 y4 y5 => kq (.exit 0) (Jgo.inst ((y0, ((), ((), ((), (y1, (y2, ())))))), (((), ()), (y3, (y4, (y5, ()))))))) m x.1.1 x.1.2.2.2.2.1 x.1.2.2.2.2.2.1 x.2.2.1 x.2.2.2.1 x.2.2.2.2.1
def Kmt (F : Nat) (nx : Jgp.T → ZO) (kq : ZK) (x : Jgp.T) : ZO := Jv6 F none (fun b all h s4 s => nx ((b, ((), ((), ((), (all, ()))))), (((), ()), (h, (s4, (s, ())))))) (fun y0 y1 y2 y3 y4 => kq (.exit 2) (Jgp.inst ((y0, ((), ((), ((), (y1, ()))))), (((), ()), (y2, (y3, (y4, ()))))))) x.1.1 x.1.2.2.2.2.1 x.2.2.1 x.2.2.2.1 x.2.2.2.2.1
def Kmu (F m : Nat) (x : Jgp.T) (kq : ZK) : ZO := Jj8 F none (fun y0 y1 y2 y3 y4 => kq (.exit 2) (Jgp.inst ((y0, ((), ((), ((), (y1, ()))))), (((), ()), (y2, (y3, (y4, ()))))))) m x.1.1 x.1.2.2.2.2.1 x.2.2.1 x.2.2.2.1 x.2.2.2.2.1
def Kmv (F : Nat) (nx : Jgq.T → ZO) (kq : ZK) (x : Jgq.T) : ZO := Kfo F none (fun s49 s50 s4 out out1 h2 => nx (((), ((), (s49, (s50, ())))), (((), ()), (s4, ((out, ((), out1)), (h2, ())))))) (fun y0 y1 y2 y3 y4 y5 => kq (.exit 4) (Jgq.inst (((), ((), (y0, (y1, ())))), (((), ()), (y2, ((y3, ((), y4)), (y5, ()))))))) x.1.2.2.1 x.1.2.2.2.1 x.2.2.1 x.2.2.2.1.1 x.2.2.2.1.2.2 x.2.2.2.2.1
def Kmw (F m : Nat) (x : Jgq.T) (kq : ZK) : ZO := Jrx F none (fun y0 y1 y2 y3 y4 y5 => kq (.exit 4) (Jgq.inst (((), ((), (y0, (y1, ())))), (((), ()), (y2, ((y3, ((), y4)), (y5, ()))))))) m x.1.2.2.1 x.1.2.2.2.1 x.2.2.1 x.2.2.2.1.1 x.2.2.2.1.2.2 x.2.2.2.2.1
def Khc (F : Nat) : List (LoE Unit) := [⟨144, 3, LO.of Jgo (Kms F F)⟩,
 ⟨144, 8, LO.of Jgp (Kmu F F)⟩,
 ⟨144, 13, LO.of Jgq (Kmw F F)⟩]
def Jk3 (F : Nat) : Jck Unit := { toBook := Jzp, lo := Jdq (Khc F), need := Jbf [] }
theorem J6e (F : Nat) : Jcr prog (Jk3 F) F 144 0 3 Jgo (Kmr F) := fun d x KQ => by kernel_rfl
theorem J6f (F : Nat) : Jcr prog (Jk3 F) F 144 1 8 Jgp (Kmt F) := fun d x KQ => by kernel_rfl
theorem J6g (F : Nat) : Jcr prog (Jk3 F) F 144 2 13 Jgq (Kmv F) := fun d x KQ => by kernel_rfl
theorem Kmx (F : Nat) : Jkg prog (Jk3 F) F := Jbp (l := Khc F) rfl (fa (Jav 0 (by kernel_rfl) (by kernel_rfl) (Jal (J6e F) (fun _ _ => rfl) (fun _ _ _ _ => rfl))) (fa (Jav 1 (by kernel_rfl) (by kernel_rfl) (Jal (J6f F) (fun _ _ => rfl) (fun _ _ _ _ => rfl))) (fa (Jav 2 (by kernel_rfl) (by kernel_rfl) (Jal (J6g F) (fun _ _ => rfl) (fun _ _ _ _ => rfl))) fz)))
theorem Ksz (F : Nat) (x : Jbd J3n) (kend : List BV → ZO) : Jau prog (Jk3 F) F 20 144 (Jag J3n x) [.d (.pair (.arr 8 (.int .u32)) (.pair (.slc (.int .u8)) (.pair (.int .i64) .unit)))] kend = Kwe F x.1 x.2.1 none (fun y0 => kend [BV.d (.pair (.arr 8 (.int .u32)) (.pair (.slc (.int .u8)) (.pair (.int .i64) .unit))) y0]) := by kernel_rfl
theorem Jk4  : Jaf prog 144 Jsh := Ja1 (B0 := Jzp) bkN bkG Jax bkT Ksz (Jae (fa J3m fz)) (by kernel_rfl) (fun _ => rfl) Kmx (fun x h => (Kf3 x.1 x.2.1 h).elim fun F hF => ⟨F, fun kend => hF none _⟩)
@[reducible] def Jyl  : List PM := [.d (.pair (.arr 8 (.int .u32)) (.pair (.slc (.int .u8)) (.pair (.int .i64) .unit)))]
def Jud  : Orc := Orc.of Jyl true 0 fun x => (Jf9 x.1, [.d (.arr 32 (.int .u8)) (Jiu x.1)])
@[reducible] def Jfn  : Tpl := { cur := ⟨[(1, .ptr 0 []), (0, .ptr 1 []), (0, .row 2), (0, .var (.int .i64))], 52⟩, stk := [⟨[], 0⟩], heap := [.box (.var (.pair (.arr 8 (.int .u32)) (.pair (.slc (.int .u8)) (.pair (.int .i64) .unit)))), .box (.var (.arr 32 (.int .u8))), .row 5 (.int .u8) false] }
@[reducible] def Jfo  : Tpl := { cur := ⟨[(2, .ptr 0 []), (2, .ptr 1 []), (0, .var (.int .i64)), (0, .var (.int .u32)), (27, .var (.arr 8 (.int .u32))), (0, .var (.int .i64)), (3, .var (.int .i64))], 16⟩, stk := [⟨[], 0⟩], heap := [.box (.var (.arr 32 (.int .u8))), .box (.var (.arr 32 (.int .u8)))] }
@[reducible] def Jfp  : Tpl := { cur := ⟨[(2, .ptr 0 []), (2, .ptr 1 []), (29, .var (.arr 8 (.int .u32))), (0, .var (.int .i64))], 20⟩, stk := [⟨[], 0⟩], heap := [.box (.var (.arr 32 (.int .u8))), .box (.var (.arr 32 (.int .u8)))] }
def Khd  : List (FuncId × Orc) := [(144, Jsh)]
def Jw0  : Book := { Γ := gam, orc := Jb3 Khd, hint := Jbe [(143, { keep := some [1, 2, 3, 4, 5, 6, 7, 35, 36, 40], keeps := [(4, [1, 2, 3, 4]), (9, [2, 5, 35, 36]), (12, [2, 5, 6, 7, 35, 36, 40])], own := [], dat := [], stk := [] })] }
def Khe (F : Nat) (nx : Jfn.T → ZO) (kq : ZK) (x : Jfn.T) : ZO := Jry F none (fun shift h s2 pad => nx (((), ((), ((), (shift, ())))), (((), ()), (h, (s2, (pad, ())))))) (fun y0 y1 y2 y3 => kq (.exit 0) (Jfn.inst (((), ((), ((), (y0, ())))), (((), ()), (y1, (y2, (y3, ()))))))) x.1.2.2.2.1 x.2.2.1 x.2.2.2.1 x.2.2.2.2.1
def Khf (F m : Nat) (x : Jfn.T) (kq : ZK) : ZO := Jfj F none (fun y0 y1 y2 y3 => kq (.exit 0) (Jfn.inst (((), ((), ((), (y0, ())))), (((), ()), (y1, (y2, (y3, ()))))))) m x.1.2.2.2.1 x.2.2.1 x.2.2.2.1 x.2.2.2.2.1
def Khg (F : Nat) (nx : Jfo.T → ZO) (kq : ZK) (x : Jfo.T) : ZO := J70 F none (fun i x_ s35 s36 s40 s2 out => nx (((), ((), (i, (x_, (s35, (s36, (s40, ()))))))), (((), ()), (s2, (out, ()))))) (fun y0 y1 y2 y3 y4 y5 y6 => kq (.exit 4) (Jfo.inst (((), ((), (y0, (y1, (y2, (y3, (y4, ()))))))), (((), ()), (y5, (y6, ())))))) x.1.2.2.1 x.1.2.2.2.1 x.1.2.2.2.2.1 x.1.2.2.2.2.2.1 x.1.2.2.2.2.2.2.1 x.2.2.1 x.2.2.2.1
def Khh (F m : Nat) (x : Jfo.T) (kq : ZK) : ZO := Jt2 F none (fun y0 y1 y2 y3 y4 y5 y6 => kq (.exit 4) (Jfo.inst (((), ((), (y0, (y1, (y2, (y3, (y4, ()))))))), (((), ()), (y5, (y6, ())))))) m x.1.2.2.1 x.1.2.2.2.1 x.1.2.2.2.2.1 x.1.2.2.2.2.2.1 x.1.2.2.2.2.2.2.1 x.2.2.1 x.2.2.2.1
def Khi (F : Nat) (nx : Jfp.T → ZO) (kq : ZK) (x : Jfp.T) : ZO := J71 F none (fun s35 s36 s2 out => nx (((), ((), (s35, (s36, ())))), (((), ()), (s2, (out, ()))))) (fun y0 y1 y2 y3 => kq (.exit 2) (Jfp.inst (((), ((), (y0, (y1, ())))), (((), ()), (y2, (y3, ())))))) x.1.2.2.1 x.1.2.2.2.1 x.2.2.1 x.2.2.2.1
def Khj (F m : Nat) (x : Jfp.T) (kq : ZK) : ZO := Jn3 F none (fun y0 y1 y2 y3 => kq (.exit 2) (Jfp.inst (((), ((), (y0, (y1, ())))), (((), ()), (y2, (y3, ())))))) m x.1.2.2.1 x.1.2.2.2.1 x.2.2.1 x.2.2.2.1
def J8j (F : Nat) : List (LoE Unit) := [⟨143, 4, LO.of Jfn (Khf F F)⟩,
 ⟨143, 12, LO.of Jfo (Khh F F)⟩,
 ⟨143, 9, LO.of Jfp (Khj F F)⟩]
def Ji0 (F : Nat) : Jck Unit := { toBook := Jw0, lo := Jdq (J8j F), need := Jbf [] }
theorem J3o (F : Nat) : Jcr prog (Ji0 F) F 143 0 4 Jfn (Khe F) := fun d x KQ => by kernel_rfl
theorem J3p (F : Nat) : Jcr prog (Ji0 F) F 143 2 12 Jfo (Khg F) := fun d x KQ => by kernel_rfl
theorem J3q (F : Nat) : Jcr prog (Ji0 F) F 143 1 9 Jfp (Khi F) := fun d x KQ => by kernel_rfl
theorem Khk (F : Nat) : Jkg prog (Ji0 F) F := Jbp (l := J8j F) rfl (fa (Jav 0 (by kernel_rfl) (by kernel_rfl) (Jal (J3o F) (fun _ _ => rfl) (fun _ _ _ _ => rfl))) (fa (Jav 2 (by kernel_rfl) (by kernel_rfl) (Jal (J3p F) (fun _ _ => rfl) (fun _ _ _ _ => rfl))) (fa (Jav 1 (by kernel_rfl) (by kernel_rfl) (Jal (J3q F) (fun _ _ => rfl) (fun _ _ _ _ => rfl))) fz)))
theorem Kmy (F : Nat) (x : Jbd Jyl) (kend : List BV → ZO) : Jau prog (Ji0 F) F 20 143 (Jag Jyl x) [.d (.arr 32 (.int .u8))] kend = Kk1 F x.1 none (fun y0 => kend [BV.d (.arr 32 (.int .u8)) y0]) := by kernel_rfl
theorem Jo8  : Jaf prog 143 Jud := Ja1 (B0 := Jw0) bkN bkG Jax bkT Kmy (Jae (fa Jk4 fz)) (by kernel_rfl) (fun _ => rfl) Khk (fun x h => (Kbg x.1 h).elim fun F hF => ⟨F, fun kend => hF none _⟩)
@[reducible] def Kmz  : List PM := [.d (.slc (.int .u8))]
def Kqs  : Orc := Orc.of Kmz true 0 fun x => (Kff x.1, [.d (.arr 32 (.int .u8)) (Jsx x.1)])
def Khl  : List (FuncId × Orc) := [(143, Jud), (144, Jsh), (145, Kcs)]
theorem K22 (F : Nat) (x : Jbd Kmz) (kend : List BV → ZO) : Jau prog (bkZ Khl) F 20 161 (Jag Kmz x) [.d (.arr 32 (.int .u8))] kend = dSum F x.1 none (fun y0 => kend [BV.d (.arr 32 (.int .u8)) y0]) := by kernel_rfl
theorem Kct  : Jaf prog 161 Kqs := Ja1 (B0 := bkY Khl) bkN bkG Jax bkT K22 (Jae (fa Jo8 (fa Jk4 (fa Jwz fz)))) (by kernel_rfl) (fun _ => rfl) (bkO _) (fun x h => (Kr8 x.1 h).elim fun F hF => ⟨F, fun kend => hF none _⟩)
end Go.AI
namespace Go.AI
open Go
open Go.Proofs.Tryz (prog)
set_option linter.unusedVariables false
@[reducible] def J3r  : List PM := [.d (.slc (.int .u8)), .d (.int .u8)]
def J8k  : Orc := Orc.of J3r true 1 fun x => (Jrp x.1 x.2.1, [.o 5 (.int .u8) (Jd7 x.1 x.2.1)])
@[reducible] def Jgr  : Tpl := { cur := ⟨[(1, .var (.int .u8)), (4, .row 0), (12, .var (.int .i64)), (0, .var (.int .i64))], 11⟩, stk := [⟨[], 0⟩], heap := [.row 5 (.int .u8) false] }
def Km0  : List (FuncId × Orc) := [(161, Kqs)]
def Jzq  : Book := { Γ := gam, orc := Jb3 Km0, hint := Jbe [(146, { keep := some [1, 6, 19, 20], keeps := [(7, [1, 6, 19, 20])], own := [], dat := [], stk := [] })] }
def Km1 (F : Nat) (nx : Jgr.T → ZO) (kq : ZK) (x : Jgr.T) : ZO := Jv7 F none (fun by_ s19 s20 out => nx ((by_, ((), (s19, (s20, ())))), (((), ()), (out, ())))) (fun y0 y1 y2 y3 => kq (.exit 0) (Jgr.inst ((y0, ((), (y1, (y2, ())))), (((), ()), (y3, ()))))) x.1.1 x.1.2.2.1 x.1.2.2.2.1 x.2.2.1
def Km2 (F m : Nat) (x : Jgr.T) (kq : ZK) : ZO := Jid F none (fun y0 y1 y2 y3 => kq (.exit 0) (Jgr.inst ((y0, ((), (y1, (y2, ())))), (((), ()), (y3, ()))))) m x.1.1 x.1.2.2.1 x.1.2.2.2.1 x.2.2.1
def Khm (F : Nat) : List (LoE Unit) := [⟨146, 7, LO.of Jgr (Km2 F F)⟩]
def Jue (F : Nat) : Jck Unit := { toBook := Jzq, lo := Jdq (Khm F), need := Jbf [] }
theorem J6h (F : Nat) : Jcr prog (Jue F) F 146 0 7 Jgr (Km1 F) := fun d x KQ => by kernel_rfl
theorem Km3 (F : Nat) : Jkg prog (Jue F) F := Jbp (l := Khm F) rfl (fa (Jav 0 (by kernel_rfl) (by kernel_rfl) (Jal (J6h F) (fun _ _ => rfl) (fun _ _ _ _ => rfl))) fz)
theorem Ks0 (F : Nat) (x : Jbd J3r) (kend : List BV → ZO) : Jau prog (Jue F) F 20 146 (Jag J3r x) [.o 5 (.int .u8)] kend = Kwf F x.1 x.2.1 none (fun y0 => kend [BV.o 5 (.int .u8) y0]) := by kernel_rfl
theorem J3s  : Jaf prog 146 J8k := Ja1 (B0 := Jzq) bkN bkG Jax bkT Ks0 (Jae (fa Kct fz)) (by kernel_rfl) (fun _ => rfl) Km3 (fun x h => (Kga x.1 x.2.1 h).elim fun F hF => ⟨F, fun kend => hF none _⟩)
@[reducible] def Km4  : List PM := [.d (.slc (.int .u8)), .d (.slc (.int .u8))]
def J1n  : Orc := Orc.of Km4 true 0 fun x => (Jp5 x.1 x.2.1, [.d (.arr 32 (.int .u8)) (Jzg x.1 x.2.1)])
def Khn  : List (FuncId × Orc) := [(143, Jud), (144, Jsh), (145, Kcs), (146, J8k)]
theorem K23 (F : Nat) (x : Jbd Km4) (kend : List BV → ZO) : Jau prog (bkZ Khn) F 20 127 (Jag Km4 x) [.d (.arr 32 (.int .u8))] kend = dMac F x.1 x.2.1 none (fun y0 => kend [BV.d (.arr 32 (.int .u8)) y0]) := by kernel_rfl
theorem Jor  : Jaf prog 127 J1n := Ja1 (B0 := bkY Khn) bkN bkG Jax bkT K23 (Jae (fa Jo8 (fa Jk4 (fa Jwz (fa J3s fz))))) (by kernel_rfl) (fun _ => rfl) (bkO _) (fun x h => (Ksb x.1 x.2.1 h).elim fun F hF => ⟨F, fun kend => hF none _⟩)
end Go.AI
namespace Go.AI
open Go
open Go.Proofs.Tryz (prog)
set_option linter.unusedVariables false
@[reducible] def Kcu  : List PM := [.d (.int .u32), .d (.int .i64)]
def Kho  : Orc := Orc.of Kcu true 0 fun x => (Jxz x.1 x.2.1, [.d (.int .u32) (J2w x.1 x.2.1)])
def J8l  : List (FuncId × Orc) := []
theorem Kyl (F : Nat) (x : Jbd Kcu) (kend : List BV → ZO) : Jau prog (bkZ J8l) F 20 170 (Jag Kcu x) [.d (.int .u32)] kend = K5r F x.1 x.2.1 none (fun y0 => kend [BV.d (.int .u32) y0]) := by kernel_rfl
theorem J6i  : Jaf prog 170 Kho := Ja1 (B0 := bkY J8l) bkN bkG Jax bkT Kyl (Jae fz) (by kernel_rfl) (fun _ => rfl) (bkO _) (fun x h => (Klq x.1 x.2.1 h).elim fun F hF => ⟨F, fun kend => hF none _⟩)
@[reducible] def J3t  : List PM := [.d (.arr 32 (.int .u8)), .d (.int .i64), .d (.int .i64)]
def J8m  : Orc := Orc.of J3t true 0 fun x => (J08 x.1 x.2.1 x.2.2.1, [.d (.arr 16 (.int .u32)) (J09 x.1 x.2.1 x.2.2.1)])
@[reducible] def Jgs  : Tpl := { cur := ⟨[(1, .var (.int .i64)), (0, .var (.int .i64)), (0, .ptr 0 []), (2, .ptr 1 []), (0, .ptr 2 []), (0, .var (.int .i64)), (2, .var (.int .i64)), (2, .var (.int .i64))], 31⟩, stk := [⟨[], 0⟩], heap := [.box (.var (.arr 32 (.int .u8))), .box (.var (.arr 16 (.int .u32))), .box (.var (.arr 16 (.int .u32)))] }
@[reducible] def Jgt  : Tpl := { cur := ⟨[(1, .var (.int .i64)), (0, .var (.int .i64)), (0, .ptr 0 []), (2, .ptr 1 []), (0, .ptr 2 []), (3, .var (.int .i64))], 34⟩, stk := [⟨[], 0⟩], heap := [.box (.var (.arr 32 (.int .u8))), .box (.var (.arr 16 (.int .u32))), .box (.var (.arr 16 (.int .u32)))] }
def Km5  : List (FuncId × Orc) := []
def Jzr  : Book := { Γ := gam, orc := Jb3 Km5, hint := Jbe [(147, { keep := some [1, 2, 3, 6, 7, 8, 11, 14], keeps := [(3, [1, 2, 3, 6, 7, 11]), (6, [1, 2, 3, 6, 7, 8, 11, 14])], own := [], dat := [], stk := [] })] }
def Km6 (F : Nat) (nx : Jgs.T → ZO) (kq : ZK) (x : Jgs.T) : ZO := Jv8 F none (fun nonce counter i s11 s14 key s6 w => nx ((nonce, (counter, ((), ((), ((), (i, (s11, (s14, ())))))))), (((), ()), (key, (s6, (w, ())))))) (fun y0 y1 y2 y3 y4 y5 y6 y7 => kq (.exit 2) (Jgs.inst ((y0, (y1, ((), ((), ((), (y2, (y3, (y4, ())))))))), (((), ()), (y5, (y6, (y7, ()))))))) x.1.1 x.1.2.1 x.1.2.2.2.2.2.1 x.1.2.2.2.2.2.2.1 x.1.2.2.2.2.2.2.2.1 x.2.2.1 x.2.2.2.1 x.2.2.2.2.1
def Km7 (F m : Nat) (x : Jgs.T) (kq : ZK) : ZO := Jg8 F none (fun y0 y1 y2 y3 y4 y5 y6 y7 => kq (.exit 2) (Jgs.inst ((y0, (y1, ((), ((), ((), (y2, (y3, (y4, ())))))))), (((), ()), (y5, (y6, (y7, ()))))))) m x.1.1 x.1.2.1 x.1.2.2.2.2.2.1 x.1.2.2.2.2.2.2.1 x.1.2.2.2.2.2.2.2.1 x.2.2.1 x.2.2.2.1 x.2.2.2.2.1
def Km8 (F : Nat) (nx : Jgt.T → ZO) (kq : ZK) (x : Jgt.T) : ZO := Jv9 F none (fun nonce counter s11 key s6 w => nx ((nonce, (counter, ((), ((), ((), (s11, ())))))), (((), ()), (key, (s6, (w, ())))))) (fun y0 y1 y2 y3 y4 y5 => kq (.exit 0) (Jgt.inst ((y0, (y1, ((), ((), ((), (y2, ())))))), (((), ()), (y3, (y4, (y5, ()))))))) x.1.1 x.1.2.1 x.1.2.2.2.2.2.1 x.2.2.1 x.2.2.2.1 x.2.2.2.2.1
def Km9 (F m : Nat) (x : Jgt.T) (kq : ZK) : ZO := Jj9 F none (fun y0 y1 y2 y3 y4 y5 => kq (.exit 0) (Jgt.inst ((y0, (y1, ((), ((), ((), (y2, ())))))), (((), ()), (y3, (y4, (y5, ()))))))) m x.1.1 x.1.2.1 x.1.2.2.2.2.2.1 x.2.2.1 x.2.2.2.1 x.2.2.2.2.1
def Khp (F : Nat) : List (LoE Unit) := [⟨147, 6, LO.of Jgs (Km7 F F)⟩,
 ⟨147, 3, LO.of Jgt (Km9 F F)⟩]
def Jos (F : Nat) : Jck Unit := { toBook := Jzr, lo := Jdq (Khp F), need := Jbf [] }
theorem J6j (F : Nat) : Jcr prog (Jos F) F 147 1 6 Jgs (Km6 F) := fun d x KQ => by kernel_rfl
theorem J6k (F : Nat) : Jcr prog (Jos F) F 147 0 3 Jgt (Km8 F) := fun d x KQ => by kernel_rfl
theorem Kna (F : Nat) : Jkg prog (Jos F) F := Jbp (l := Khp F) rfl (fa (Jav 1 (by kernel_rfl) (by kernel_rfl) (Jal (J6j F) (fun _ _ => rfl) (fun _ _ _ _ => rfl))) (fa (Jav 0 (by kernel_rfl) (by kernel_rfl) (Jal (J6k F) (fun _ _ => rfl) (fun _ _ _ _ => rfl))) fz))
theorem Ks1 (F : Nat) (x : Jbd J3t) (kend : List BV → ZO) : Jau prog (Jos F) F 20 147 (Jag J3t x) [.d (.arr 16 (.int .u32))] kend = Kwg F x.1 x.2.1 x.2.2.1 none (fun y0 => kend [BV.d (.arr 16 (.int .u32)) y0]) := by kernel_rfl
theorem J3u  : Jaf prog 147 J8m := Ja1 (B0 := Jzr) bkN bkG Jax bkT Ks1 (Jae fz) (by kernel_rfl) (fun _ => rfl) Kna (fun x h => (Kgb x.1 x.2.1 x.2.2.1 h).elim fun F hF => ⟨F, fun kend => hF none _⟩)
@[reducible] def Knb  : List PM := [.d (.arr 32 (.int .u8)), .d (.int .i64), .d (.int .i64)]
def Kqt  : Orc := Orc.of Knb true 1 fun x => (Kph x.1 x.2.1 x.2.2.1, [.o 5 (.int .u8) (Kpi x.1 x.2.1 x.2.2.1)])
@[reducible] def Jk5  : Tpl := { cur := ⟨[(0, .ptr 0 []), (29, .var (.arr 4 (.pair (.int .i64) (.pair (.int .i64) (.pair (.int .i64) (.pair (.int .i64) .unit)))))), (0, .var (.int .i64))], 39⟩, stk := [⟨[(2, .mv 162 (.pr (.ptr 0 []) (.un))), (4, .var (.int .i64)), (1, .var (.int .i64))], 32⟩, ⟨[(7, .ptr 1 []), (0, .ptr 0 [])], 35⟩, ⟨[], 0⟩], heap := [.box (.var (.arr 16 (.int .u32))), .box (.var (.arr 16 (.int .u32)))] }
@[reducible] def Jk6  : Tpl := { cur := ⟨[(2, .mv 162 (.pr (.ptr 0 []) (.un))), (4, .var (.int .i64)), (1, .var (.int .i64))], 32⟩, stk := [⟨[(7, .ptr 1 []), (0, .ptr 0 [])], 35⟩, ⟨[], 0⟩], heap := [.box (.var (.arr 16 (.int .u32))), .box (.var (.arr 16 (.int .u32)))] }
@[reducible] def Jk7  : Tpl := { cur := ⟨[(0, .ptr 0 []), (29, .var (.arr 4 (.pair (.int .i64) (.pair (.int .i64) (.pair (.int .i64) (.pair (.int .i64) .unit)))))), (0, .var (.int .i64))], 39⟩, stk := [⟨[(2, .mv 162 (.pr (.ptr 0 []) (.un))), (4, .var (.int .i64)), (14, .var (.int .i64))], 19⟩, ⟨[(7, .ptr 1 []), (0, .ptr 0 [])], 35⟩, ⟨[], 0⟩], heap := [.box (.var (.arr 16 (.int .u32))), .box (.var (.arr 16 (.int .u32)))] }
@[reducible] def Jk8  : Tpl := { cur := ⟨[(2, .mv 162 (.pr (.ptr 0 []) (.un))), (4, .var (.int .i64)), (14, .var (.int .i64))], 19⟩, stk := [⟨[(7, .ptr 1 []), (0, .ptr 0 [])], 35⟩, ⟨[], 0⟩], heap := [.box (.var (.arr 16 (.int .u32))), .box (.var (.arr 16 (.int .u32)))] }
@[reducible] def Jk9  : Tpl := { cur := ⟨[(2, .mv 162 (.pr (.ptr 0 []) (.un))), (4, .var (.int .i64))], 34⟩, stk := [⟨[(7, .ptr 1 []), (0, .ptr 0 [])], 35⟩, ⟨[], 0⟩], heap := [.box (.var (.arr 16 (.int .u32))), .box (.var (.arr 16 (.int .u32)))] }
@[reducible] def Jla  : Tpl := { cur := ⟨[(7, .ptr 0 []), (1, .row 1), (8, .var (.arr 16 (.int .u32))), (0, .var (.int .i64))], 24⟩, stk := [⟨[], 0⟩], heap := [.box (.var (.arr 16 (.int .u32))), .row 5 (.int .u8) false] }
def Kym  : List (FuncId × Orc) := [(147, J8m), (170, Kho)]
def J8n  : Book := { Γ := gam, orc := Jb3 Kym, hint := Jbe [(128, { keep := some [7, 9, 18, 19], keeps := [(6, [7, 9, 18, 19])], own := [(9, 32)], dat := [], stk := [] }), (148, { keep := some [2, 7, 9, 22], keeps := [(2, [2, 7]), (4, [2, 7, 9]), (9, [2, 7, 22])], own := [], dat := [], stk := [[7, 8]] }), (162, { keep := some [0, 30, 31], keeps := [(2, [0, 30, 31])], own := [], dat := [], stk := [[2, 7, 9, 22], [7, 8]] })] }
def Kyn (F : Nat) (nx : Jk5.T → ZO) (kq : ZK) (x : Jk5.T) : ZO := Kas F none (fun s30 s31 s7 s9 w w1 => nx (((), (s30, (s31, ()))), (((((), ()), (s7, (s9, ()))), (((), ((), ())), ((), ()))), (w, (w1, ()))))) (fun y0 y1 y2 y3 y4 y5 => kq (.exit 0) (Jk5.inst (((), (y0, (y1, ()))), (((((), ()), (y2, (y3, ()))), (((), ((), ())), ((), ()))), (y4, (y5, ())))))) x.1.2.1 x.1.2.2.1 x.2.1.1.2.1 x.2.1.1.2.2.1 x.2.2.1 x.2.2.2.1
def Kyo (F m : Nat) (x : Jk5.T) (kq : ZK) : ZO := Jjr F none (fun y0 y1 y2 y3 y4 y5 => kq (.exit 0) (Jk5.inst (((), (y0, (y1, ()))), (((((), ()), (y2, (y3, ()))), (((), ((), ())), ((), ()))), (y4, (y5, ())))))) m x.1.2.1 x.1.2.2.1 x.2.1.1.2.1 x.2.1.1.2.2.1 x.2.2.1 x.2.2.2.1
def Kyp (F : Nat) (nx : Jk6.T → ZO) (kq : ZK) (x : Jk6.T) : ZO := Kat F none (fun s7 s9 change w => nx ((((), ()), (s7, (s9, ()))), ((((), ((), ())), ((), ())), (change, (w, ()))))) (fun y0 y1 y2 y3 => kq (.exit 2) (Jk6.inst ((((), ()), (y0, (y1, ()))), ((((), ((), ())), ((), ())), (y2, (y3, ())))))) x.1.2.1 x.1.2.2.1 x.2.2.1 x.2.2.2.1
def Kyq (F m : Nat) (x : Jk6.T) (kq : ZK) : ZO := Jn7 F none (fun y0 y1 y2 y3 => kq (.exit 2) (Jk6.inst ((((), ()), (y0, (y1, ()))), ((((), ((), ())), ((), ())), (y2, (y3, ())))))) m x.1.2.1 x.1.2.2.1 x.2.2.1 x.2.2.2.1
def Kyr (F : Nat) (nx : Jk7.T → ZO) (kq : ZK) (x : Jk7.T) : ZO := Kau F none (fun s30 s31 s7 s22 w w1 => nx (((), (s30, (s31, ()))), (((((), ()), (s7, (s22, ()))), (((), ((), ())), ((), ()))), (w, (w1, ()))))) (fun y0 y1 y2 y3 y4 y5 => kq (.exit 0) (Jk7.inst (((), (y0, (y1, ()))), (((((), ()), (y2, (y3, ()))), (((), ((), ())), ((), ()))), (y4, (y5, ())))))) x.1.2.1 x.1.2.2.1 x.2.1.1.2.1 x.2.1.1.2.2.1 x.2.2.1 x.2.2.2.1
def Kys (F m : Nat) (x : Jk7.T) (kq : ZK) : ZO := Jjs F none (fun y0 y1 y2 y3 y4 y5 => kq (.exit 0) (Jk7.inst (((), (y0, (y1, ()))), (((((), ()), (y2, (y3, ()))), (((), ((), ())), ((), ()))), (y4, (y5, ())))))) m x.1.2.1 x.1.2.2.1 x.2.1.1.2.1 x.2.1.1.2.2.1 x.2.2.1 x.2.2.2.1
def Kyt (F : Nat) (nx : Jk8.T → ZO) (kq : ZK) (x : Jk8.T) : ZO := Kav F none (fun s7 s22 change w => nx ((((), ()), (s7, (s22, ()))), ((((), ((), ())), ((), ())), (change, (w, ()))))) (fun y0 y1 y2 y3 => kq (.exit 4) (Jk8.inst ((((), ()), (y0, (y1, ()))), ((((), ((), ())), ((), ())), (y2, (y3, ())))))) x.1.2.1 x.1.2.2.1 x.2.2.1 x.2.2.2.1
def Kyu (F m : Nat) (x : Jk8.T) (kq : ZK) : ZO := Jn8 F none (fun y0 y1 y2 y3 => kq (.exit 4) (Jk8.inst ((((), ()), (y0, (y1, ()))), ((((), ((), ())), ((), ())), (y2, (y3, ())))))) m x.1.2.1 x.1.2.2.1 x.2.2.1 x.2.2.2.1
def Kyv (F : Nat) (nx : Jk9.T → ZO) (kq : ZK) (x : Jk9.T) : ZO := Kaw F none (fun s7 change w => nx ((((), ()), (s7, ())), ((((), ((), ())), ((), ())), (change, (w, ()))))) (fun y0 y1 y2 => kq (.exit 0) (Jk9.inst ((((), ()), (y0, ())), ((((), ((), ())), ((), ())), (y1, (y2, ())))))) x.1.2.1 x.2.2.1 x.2.2.2.1
def Kyw (F m : Nat) (x : Jk9.T) (kq : ZK) : ZO := Jr0 F none (fun y0 y1 y2 => kq (.exit 0) (Jk9.inst ((((), ()), (y0, ())), ((((), ((), ())), ((), ())), (y1, (y2, ())))))) m x.1.2.1 x.2.2.1 x.2.2.2.1
def Kyx (F : Nat) (nx : Jla.T → ZO) (kq : ZK) (x : Jla.T) : ZO := Kax F none (fun s18 s19 w out => nx (((), ((), (s18, (s19, ())))), (((), ()), (w, (out, ()))))) (fun y0 y1 y2 y3 => kq (.exit 0) (Jla.inst (((), ((), (y0, (y1, ())))), (((), ()), (y2, (y3, ())))))) x.1.2.2.1 x.1.2.2.2.1 x.2.2.1 x.2.2.2.1
def Kyy (F m : Nat) (x : Jla.T) (kq : ZK) : ZO := Jr1 F none (fun y0 y1 y2 y3 => kq (.exit 0) (Jla.inst (((), ((), (y0, (y1, ())))), (((), ()), (y2, (y3, ())))))) m x.1.2.2.1 x.1.2.2.2.1 x.2.2.1 x.2.2.2.1
def Kyz (F : Nat) : List (LoE Unit) := [⟨162, 2, LO.orT Jk5 (Kyo F F) (LO.of Jk7 (Kys F F))⟩,
 ⟨148, 4, LO.of Jk6 (Kyq F F)⟩,
 ⟨148, 9, LO.of Jk8 (Kyu F F)⟩,
 ⟨148, 2, LO.of Jk9 (Kyw F F)⟩,
 ⟨128, 6, LO.of Jla (Kyy F F)⟩]
def Ji1 (F : Nat) : Jck Unit := { toBook := J8n, lo := Jdq (Kyz F), need := Jbf [(148, 1)] }
theorem Khq (F : Nat) : Jcr prog (Ji1 F) F 162 0 2 Jk5 (Kyn F) := fun d x KQ => by kernel_rfl
theorem Khr (F : Nat) : Jcr prog (Ji1 F) F 148 1 4 Jk6 (Kyp F) := fun d x KQ => by kernel_rfl
theorem Khs (F : Nat) : Jcr prog (Ji1 F) F 162 0 2 Jk7 (Kyr F) := fun d x KQ => by kernel_rfl
theorem Kht (F : Nat) : Jcr prog (Ji1 F) F 148 2 9 Jk8 (Kyt F) := fun d x KQ => by kernel_rfl
theorem Khu (F : Nat) : Jcr prog (Ji1 F) F 148 0 2 Jk9 (Kyv F) := fun d x KQ => by kernel_rfl
theorem Khv (F : Nat) : Jcr prog (Ji1 F) F 128 0 6 Jla (Kyx F) := fun d x KQ => by kernel_rfl
theorem Ky0 (F : Nat) : Jkg prog (Ji1 F) F := Jbp (l := Kyz F) rfl (fa (Jav 0 (by kernel_rfl) (by kernel_rfl) (J96 (Jal (Khq F) (fun _ _ => rfl) (fun _ _ _ _ => rfl)) (Jal (Khs F) (fun _ _ => rfl) (fun _ _ _ _ => rfl)))) (fa (Jav 1 (by kernel_rfl) (by kernel_rfl) (Jal (Khr F) (fun _ _ => rfl) (fun _ _ _ _ => rfl))) (fa (Jav 2 (by kernel_rfl) (by kernel_rfl) (Jal (Kht F) (fun _ _ => rfl) (fun _ _ _ _ => rfl))) (fa (Jav 0 (by kernel_rfl) (by kernel_rfl) (Jal (Khu F) (fun _ _ => rfl) (fun _ _ _ _ => rfl))) (fa (Jav 0 (by kernel_rfl) (by kernel_rfl) (Jal (Khv F) (fun _ _ => rfl) (fun _ _ _ _ => rfl))) fz)))))
theorem K24 (F : Nat) (x : Jbd Knb) (kend : List BV → ZO) : Jau prog (Ji1 F) F 20 128 (Jag Knb x) [.o 5 (.int .u8)] kend = cBlk F x.1 x.2.1 x.2.2.1 none (fun y0 => kend [BV.o 5 (.int .u8) y0]) := by kernel_rfl
theorem Kcv  : Jaf prog 128 Kqt := Ja1 (B0 := J8n) bkN bkG Jax bkT K24 (Jae (fa J3u (fa J6i fz))) (by kernel_rfl) (fun _ => rfl) Ky0 (fun x h => (Ksc x.1 x.2.1 x.2.2.1 h).elim fun F hF => ⟨F, fun kend => hF none _⟩)
@[reducible] def J3v  : List PM := [.d (.int .i64)]
def Jym  : Orc := Orc.of J3v true 0 fun x => (true, [.d .bool (Jnu x.1)])
def J3w  : List (FuncId × Orc) := []
theorem Ks2 (F : Nat) (x : Jbd J3v) (kend : List BV → ZO) : Jau prog (bkZ J3w) F 20 107 (Jag J3v x) [.d .bool] kend = Kwh F x.1 none (fun y0 => kend [BV.d .bool y0]) := by kernel_rfl
theorem Jqq  : Jaf prog 107 Jym := Ja1 (B0 := bkY J3w) bkN bkG Jax bkT Ks2 (Jae fz) (by kernel_rfl) (fun _ => rfl) (bkO _) (fun x _ => (Kgc x.1).elim fun F hF => ⟨F, fun kend => hF none _⟩)
end Go.AI
namespace Go.AI
open Go
open Go.Proofs.Tryz (prog)
set_option linter.unusedVariables false
@[reducible] def Jot  : List PM := [.d (.slc (.int .u8)), .d (.slc (.int .u8))]
def Js4  : Orc := Orc.of Jot true 0 fun x => (Jg2 x.1 x.2.1, [.d .bool (Jg3 x.1 x.2.1)])
@[reducible] def Jcj  : Tpl := { cur := ⟨[(0, .var (.slc (.int .u8))), (0, .var (.slc (.int .u8))), (2, .var .bool), (7, .var (.int .i64)), (0, .var (.int .i64))], 12⟩, stk := [⟨[], 0⟩], heap := [] }
def J3x  : List (FuncId × Orc) := []
def Jo9  : Book := { Γ := gam, orc := Jb3 J3x, hint := Jbe [(108, { keep := some [0, 1, 4, 12, 13], keeps := [(4, [0, 1, 4, 12, 13])], own := [], dat := [], stk := [] })] }
def J3y (F : Nat) (nx : Jcj.T → ZO) (kq : ZK) (x : Jcj.T) : ZO := Jjq F none (fun s1 s2 s4 s12 s13 => nx ((s1, (s2, (s4, (s12, (s13, ()))))), (((), ()), ()))) (fun y0 y1 y2 y3 y4 => kq .ret (Jcj.inst ((y0, (y1, (y2, (y3, (y4, ()))))), (((), ()), ())))) (fun y0 y1 y2 y3 y4 => kq (.exit 0) (Jcj.inst ((y0, (y1, (y2, (y3, (y4, ()))))), (((), ()), ())))) x.1.1 x.1.2.1 x.1.2.2.1 x.1.2.2.2.1 x.1.2.2.2.2.1
def J3z (F m : Nat) (x : Jcj.T) (kq : ZK) : ZO := Je5 F none (fun y0 y1 y2 y3 y4 => kq .ret (Jcj.inst ((y0, (y1, (y2, (y3, (y4, ()))))), (((), ()), ())))) (fun y0 y1 y2 y3 y4 => kq (.exit 0) (Jcj.inst ((y0, (y1, (y2, (y3, (y4, ()))))), (((), ()), ())))) m x.1.1 x.1.2.1 x.1.2.2.1 x.1.2.2.2.1 x.1.2.2.2.2.1
def Jw1 (F : Nat) : List (LoE Unit) := [⟨108, 4, LO.of Jcj (J3z F F)⟩]
def Jlb (F : Nat) : Jck Unit := { toBook := Jo9, lo := Jdq (Jw1 F), need := Jbf [] }
theorem Jw2 (F : Nat) : Jcr prog (Jlb F) F 108 0 4 Jcj (J3y F) := fun d x KQ => by kernel_rfl
theorem J30 (F : Nat) : Jkg prog (Jlb F) F := Jbp (l := Jw1 F) rfl (fa (Jav 0 (by kernel_rfl) (by kernel_rfl) (Jal (Jw2 F) (fun _ _ => rfl) (fun _ _ _ _ => rfl))) fz)
theorem J6l (F : Nat) (x : Jbd Jot) (kend : List BV → ZO) : Jau prog (Jlb F) F 20 108 (Jag Jot x) [.d .bool] kend = Jx9 F x.1 x.2.1 none (fun y0 => kend [BV.d .bool y0]) := by kernel_rfl
theorem Juf  : Jaf prog 108 Js4 := Ja1 (B0 := Jo9) bkN bkG Jax bkT J6l (Jae fz) (by kernel_rfl) (fun _ => rfl) J30 (fun x h => (J0c x.1 x.2.1 h).elim fun F hF => ⟨F, fun kend => hF none _⟩)
@[reducible] def Jyn  : List PM := [.d (.arr 32 (.int .u8)), .d (.int .i64), .d (.slc (.int .u8))]
def Jug  : Orc := Orc.of Jyn true 1 fun x => (Jkr x.1 x.2.1 x.2.2.1, [.o 5 (.int .u8) (Jia x.1 x.2.1 x.2.2.1), .d (.int .i64) (Jfz x.1 x.2.1 x.2.2.1)])
@[reducible] def Jfq  : Tpl := { cur := ⟨[(9, .ptr 0 []), (0, .sl 1), (0, .row 2), (19, .var (.int .i64)), (0, .var (.int .i64))], 16⟩, stk := [⟨[(0, .hnd .yield 3)], 0⟩, ⟨[(0, .hnd .yield 3), (0, .ptr 6 []), (0, .ptr 7 []), (1, .var (.int .i64))], 26⟩, ⟨[(0, .hnd .yield 3)], 0⟩, ⟨[(2, .var (.slc (.int .u8))), (0, .ptr 4 []), (0, .ptr 5 []), (1, .nils), (0, .var (.int .i64)), (0, .row 1), (0, .ptr 0 [])], 39⟩, ⟨[], 0⟩], heap := [.box (.var (.int .i64)), .row 5 (.int .u8) false, .row 5 (.int .u8) false, .lp 99 8 ⟨[(3, .ptr 4 []), (0, .ptr 5 []), (4, .ptr 0 [])], 39⟩ .busy, .box (.var (.arr 32 (.int .u8))), .box (.var (.int .i64)), .box (.row 1), .box (.var (.int .i64))] }
@[reducible] def Jfr  : Tpl := { cur := ⟨[(0, .hnd .yield 0), (0, .ptr 4 []), (0, .ptr 6 []), (1, .var (.int .i64))], 26⟩, stk := [⟨[(0, .hnd .yield 0)], 0⟩, ⟨[(2, .var (.slc (.int .u8))), (0, .ptr 1 []), (0, .ptr 2 []), (1, .nils), (0, .var (.int .i64)), (0, .row 5), (0, .ptr 3 [])], 39⟩, ⟨[], 0⟩], heap := [.lp 99 8 ⟨[(3, .ptr 1 []), (0, .ptr 2 []), (4, .ptr 3 [])], 39⟩ .ready, .box (.var (.arr 32 (.int .u8))), .box (.var (.int .i64)), .box (.var (.int .i64)), .box (.row 5), .row 5 (.int .u8) false, .box (.var (.int .i64))] }
def Khw  : List (FuncId × Orc) := [(107, Jym), (111, Je6), (128, Kqt)]
def Jw3  : Book := { Γ := gam, orc := Jb3 Khw, hint := Jbe [(99, { keep := some [9, 10, 11, 31, 32], keeps := [(11, [9, 10, 11, 31, 32])], own := [], dat := [], stk := [[0], [0, 1, 2, 4], [0], [2, 3, 4, 6, 7, 8, 9, 10, 11, 12, 25, 31, 32, 33]] }), (103, { keep := some [0, 1, 2, 4], keeps := [(1, [0, 1, 2, 4])], own := [], dat := [], stk := [[0], [2, 3, 4, 6, 7, 8, 9, 10, 11, 12, 25, 31, 32, 33]] })] }
def Khx (F : Nat) (nx : Jfq.T → ZO) (kq : ZK) (x : Jfq.T) : ZO := Jr2 F none (fun part_i part_n s31 s32 i b s7 counter part s key nonce s2 => nx (((), ((part_i, part_n), ((), (s31, (s32, ()))))), ((((), ()), (((), ((), ((), (i, ())))), (((), ()), ((b, ((), ((), ((), (s7, ((), ((), ()))))))), ((), ()))))), (counter, (part, (s, (((), ((), ((), ()))), (key, (nonce, ((), (s2, ()))))))))))) (fun y0 y1 y2 y3 y4 y5 y6 y7 y8 y9 y10 y11 y12 => kq (.exit 3) (Jfq.inst (((), ((y0, y1), ((), (y2, (y3, ()))))), ((((), ()), (((), ((), ((), (y4, ())))), (((), ()), ((y5, ((), ((), ((), (y6, ((), ((), ()))))))), ((), ()))))), (y7, (y8, (y9, (((), ((), ((), ()))), (y10, (y11, ((), (y12, ())))))))))))) x.1.2.1.1 x.1.2.1.2 x.1.2.2.2.1 x.1.2.2.2.2.1 x.2.1.2.1.2.2.2.1 x.2.1.2.2.2.1.1 x.2.1.2.2.2.1.2.2.2.2.1 x.2.2.1 x.2.2.2.1 x.2.2.2.2.1 x.2.2.2.2.2.2.1 x.2.2.2.2.2.2.2.1 x.2.2.2.2.2.2.2.2.2.1
def Khy (F m : Nat) (x : Jfq.T) (kq : ZK) : ZO := Jie F none (fun y0 y1 y2 y3 y4 y5 y6 y7 y8 y9 y10 y11 y12 => kq (.exit 3) (Jfq.inst (((), ((y0, y1), ((), (y2, (y3, ()))))), ((((), ()), (((), ((), ((), (y4, ())))), (((), ()), ((y5, ((), ((), ((), (y6, ((), ((), ()))))))), ((), ()))))), (y7, (y8, (y9, (((), ((), ((), ()))), (y10, (y11, ((), (y12, ())))))))))))) m x.1.2.1.1 x.1.2.1.2 x.1.2.2.2.1 x.1.2.2.2.2.1 x.2.1.2.1.2.2.2.1 x.2.1.2.2.2.1.1 x.2.1.2.2.2.1.2.2.2.2.1 x.2.2.1 x.2.2.2.1 x.2.2.2.2.1 x.2.2.2.2.2.2.1 x.2.2.2.2.2.2.2.1 x.2.2.2.2.2.2.2.2.2.1
def Khz (F : Nat) (nx : Jfr.T → ZO) (kq : ZK) (x : Jfr.T) : ZO := Jmt F none (fun i b s7 key nonce counter out s2 => nx (((), ((), ((), (i, ())))), ((((), ()), ((b, ((), ((), ((), (s7, ((), ((), ()))))))), ((), ()))), (((), ((), ((), ()))), (key, (nonce, (counter, ((), (out, (s2, ())))))))))) (fun y0 y1 y2 y3 y4 y5 y6 y7 => kq (.exit 0) (Jfr.inst (((), ((), ((), (y0, ())))), ((((), ()), ((y1, ((), ((), ((), (y2, ((), ((), ()))))))), ((), ()))), (((), ((), ((), ()))), (y3, (y4, (y5, ((), (y6, (y7, ()))))))))))) x.1.2.2.2.1 x.2.1.2.1.1 x.2.1.2.1.2.2.2.2.1 x.2.2.2.1 x.2.2.2.2.1 x.2.2.2.2.2.1 x.2.2.2.2.2.2.2.1 x.2.2.2.2.2.2.2.2.1
def Kh0 (F m : Nat) (x : Jfr.T) (kq : ZK) : ZO := Jgi F none (fun y0 y1 y2 y3 y4 y5 y6 y7 => kq (.exit 0) (Jfr.inst (((), ((), ((), (y0, ())))), ((((), ()), ((y1, ((), ((), ((), (y2, ((), ((), ()))))))), ((), ()))), (((), ((), ((), ()))), (y3, (y4, (y5, ((), (y6, (y7, ()))))))))))) m x.1.2.2.2.1 x.2.1.2.1.1 x.2.1.2.1.2.2.2.2.1 x.2.2.2.1 x.2.2.2.2.1 x.2.2.2.2.2.1 x.2.2.2.2.2.2.2.1 x.2.2.2.2.2.2.2.2.1
def J8o (F : Nat) : List (LoE Unit) := [⟨99, 11, LO.of Jfq (Khy F F)⟩,
 ⟨103, 1, LO.of Jfr (Kh0 F F)⟩]
def Jl1 (F : Nat) : Jck Unit := { toBook := Jw3, lo := Jdq (J8o F), need := Jbf [(103, 1)] }
theorem J31 (F : Nat) : Jcr prog (Jl1 F) F 99 0 11 Jfq (Khx F) := fun d x KQ => by kernel_rfl
theorem J32 (F : Nat) : Jcr prog (Jl1 F) F 103 0 1 Jfr (Khz F) := fun d x KQ => by kernel_rfl
theorem Kh1 (F : Nat) : Jkg prog (Jl1 F) F := Jbp (l := J8o F) rfl (fa (Jav 0 (by kernel_rfl) (by kernel_rfl) (Jal (J31 F) (fun _ _ => rfl) (fun _ _ _ _ => rfl))) (fa (Jav 0 (by kernel_rfl) (by kernel_rfl) (Jal (J32 F) (fun _ _ => rfl) (fun _ _ _ _ => rfl))) fz))
theorem Knc (F : Nat) (x : Jbd Jyn) (kend : List BV → ZO) : Jau prog (Jl1 F) F 20 99 (Jag Jyn x) [.o 5 (.int .u8), .d (.int .i64)] kend = Kk3 F x.1 x.2.1 x.2.2.1 none (fun y0 y1 => kend [BV.o 5 (.int .u8) y0, BV.d (.int .i64) y1]) := by kernel_rfl
theorem Jpa  : Jaf prog 99 Jug := Ja1 (B0 := Jw3) bkN bkG Jax bkT Knc (Jae (fa Jqq (fa Jdm (fa Kcv fz)))) (by kernel_rfl) (fun _ => rfl) Kh1 (fun x h => (Kbq x.1 x.2.1 x.2.2.1 h).elim fun F hF => ⟨F, fun kend => hF none _⟩)
@[reducible] def Kcw  : List PM := [.d (.slc (.int .u8))]
def J33  : Orc := Orc.of Kcw true 0 fun x => (Jnv x.1, [.d (.arr 32 (.int .u8)) (Je9 x.1), .d (.arr 32 (.int .u8)) (Jgb x.1)])
def J8p  : List (FuncId × Orc) := [(127, J1n)]
theorem Ky1 (F : Nat) (x : Jbd Kcw) (kend : List BV → ZO) : Jau prog (bkZ J8p) F 20 98 (Jag Kcw x) [.d (.arr 32 (.int .u8)), .d (.arr 32 (.int .u8))] kend = K5o F x.1 none (fun y0 y1 => kend [BV.d (.arr 32 (.int .u8)) y0, BV.d (.arr 32 (.int .u8)) y1]) := by kernel_rfl
theorem Js5  : Jaf prog 98 J33 := Ja1 (B0 := bkY J8p) bkN bkG Jax bkT Ky1 (Jae (fa Jor fz)) (by kernel_rfl) (fun _ => rfl) (bkO _) (fun x h => (Klt x.1 h).elim fun F hF => ⟨F, fun kend => hF none _⟩)
@[reducible] def Knd  : List PM := [.d (.arr 32 (.int .u8)), .d (.int .i64), .d (.slc (.int .u8))]
def Kqu  : Orc := Orc.of Knd false 0 fun x => (Jzh x.1 x.2.1 x.2.2.1, [.d (.slc (.int .u8)) (Jzi x.1 x.2.1 x.2.2.1)])
@[reducible] def Jlc  : Tpl := { cur := ⟨[(1, .var (.int .i64)), (0, .var (.slc (.int .u8))), (0, .ptr 0 []), (3, .row 1), (2, .var (.int .i64))], 17⟩, stk := [⟨[], 0⟩], heap := [.box (.var (.arr 32 (.int .u8))), .row 5 (.int .u8) false] }
def Ky2  : List (FuncId × Orc) := [(127, J1n)]
def J8q  : Book := { Γ := gam, orc := Jb3 Ky2, hint := Jbe [(100, { keep := some [1, 2, 3, 7, 10], keeps := [(3, [1, 2, 3, 7, 10])], own := [(7, 32)], dat := [], stk := [] })] }
def Ky3 (F : Nat) (nx : Jlc.T → ZO) (kq : ZK) (x : Jlc.T) : ZO := Kar F none (fun nonce b s10 key l => nx ((nonce, (b, ((), ((), (s10, ()))))), (((), ()), (key, (l, ()))))) (fun y0 y1 y2 y3 y4 => kq (.exit 0) (Jlc.inst ((y0, (y1, ((), ((), (y2, ()))))), (((), ()), (y3, (y4, ())))))) x.1.1 x.1.2.1 x.1.2.2.2.2.1 x.2.2.1 x.2.2.2.1
def Ky4 (F m : Nat) (x : Jlc.T) (kq : ZK) : ZO := Jrz F none (fun y0 y1 y2 y3 y4 => kq (.exit 0) (Jlc.inst ((y0, (y1, ((), ((), (y2, ()))))), (((), ()), (y3, (y4, ())))))) m x.1.1 x.1.2.1 x.1.2.2.2.2.1 x.2.2.1 x.2.2.2.1
def Ky5 (F : Nat) : List (LoE Unit) := [⟨100, 3, LO.of Jlc (Ky4 F F)⟩]
def J34 (F : Nat) : Jck Unit := { toBook := J8q, lo := Jdq (Ky5 F), need := Jbf [] }
theorem Kh2 (F : Nat) : Jcr prog (J34 F) F 100 0 3 Jlc (Ky3 F) := fun d x KQ => by kernel_rfl
theorem Ky6 (F : Nat) : Jkg prog (J34 F) F := Jbp (l := Ky5 F) rfl (fa (Jav 0 (by kernel_rfl) (by kernel_rfl) (Jal (Kh2 F) (fun _ _ => rfl) (fun _ _ _ _ => rfl))) fz)
theorem K25 (F : Nat) (x : Jbd Knd) (kend : List BV → ZO) : Jau prog (J34 F) F 20 100 (Jag Knd x) [.d (.slc (.int .u8))] kend = cTag F x.1 x.2.1 x.2.2.1 none (fun y0 => kend [BV.d (.slc (.int .u8)) y0]) := by kernel_rfl
theorem Kcx  : Jaf prog 100 Kqu := Ja1 (B0 := J8q) bkN bkG Jax bkT K25 (Jae (fa Jor fz)) (by kernel_rfl) (fun _ => rfl) Ky6 (fun x h => (Kse x.1 x.2.1 x.2.2.1 h).elim fun F hF => ⟨F, fun kend => hF none _⟩)
@[reducible] def Jyo  : List PM := [.d (.slc (.int .u8))]
def Juh  : Orc := Orc.of Jyo true 0 fun x => (true, [.d .bool (Jks x.1)])
def Jzs  : List (FuncId × Orc) := []
theorem Kne (F : Nat) (x : Jbd Jyo) (kend : List BV → ZO) : Jau prog (bkZ Jzs) F 20 97 (Jag Jyo x) [.d .bool] kend = Kk2 F x.1 none (fun y0 => kend [BV.d .bool y0]) := by kernel_rfl
theorem Jpb  : Jaf prog 97 Juh := Ja1 (B0 := bkY Jzs) bkN bkG Jax bkT Kne (Jae fz) (by kernel_rfl) (fun _ => rfl) (bkO _) (fun x _ => (Kbr x.1).elim fun F hF => ⟨F, fun kend => hF none _⟩)
@[reducible] def Kcy  : List PM := [.d (.slc (.int .u8)), .d (.int .i64), .d (.slc (.int .u8))]
def Kh3  : Orc := Orc.of Kcy true 1 fun x => (Kaj x.1 x.2.1 x.2.2.1, [.o 5 (.int .u8) (Jnw x.1 x.2.1 x.2.2.1), .d (.int .i64) (Jrs x.1 x.2.1 x.2.2.1)])
@[reducible] def Jih  : Tpl := { cur := ⟨[(1, .var (.int .i64)), (0, .row 0), (0, .ptr 1 []), (3, .row 2), (2, .var (.int .i64))], 17⟩, stk := [⟨[(0, .var (.slc (.int .u8))), (0, .var (.int .i64)), (0, .var (.slc (.int .u8))), (6, .ptr 3 []), (25, .row 0)], 5⟩, ⟨[], 0⟩], heap := [.row 5 (.int .u8) false, .box (.var (.arr 32 (.int .u8))), .row 5 (.int .u8) false, .box (.var (.arr 32 (.int .u8)))] }
def Ks3  : List (FuncId × Orc) := [(97, Juh), (98, J33), (99, Jug), (127, J1n)]
def J35  : Book := { Γ := gam, orc := Jb3 Ks3, hint := Jbe [(100, { keep := some [1, 2, 3, 7, 10], keeps := [(3, [1, 2, 3, 7, 10])], own := [(7, 32)], dat := [], stk := [[0, 1, 2, 9, 35]] })] }
def Ks4 (F : Nat) (nx : Jih.T → ZO) (kq : ZK) (x : Jih.T) : ZO := J1d F none (fun nonce s10 key nonce1 b b1 Jp7 l authenticate => nx ((nonce, ((), ((), ((), (s10, ()))))), (((key, (nonce1, (b, ((), ((), ()))))), ((), ())), (b1, (Jp7, (l, (authenticate, ()))))))) (fun y0 y1 y2 y3 y4 y5 y6 y7 y8 => kq (.exit 0) (Jih.inst ((y0, ((), ((), ((), (y1, ()))))), (((y2, (y3, (y4, ((), ((), ()))))), ((), ())), (y5, (y6, (y7, (y8, ())))))))) x.1.1 x.1.2.2.2.2.1 x.2.1.1.1 x.2.1.1.2.1 x.2.1.1.2.2.1 x.2.2.1 x.2.2.2.1 x.2.2.2.2.1 x.2.2.2.2.2.1
def Ks5 (F m : Nat) (x : Jih.T) (kq : ZK) : ZO := Jms F none (fun y0 y1 y2 y3 y4 y5 y6 y7 y8 => kq (.exit 0) (Jih.inst ((y0, ((), ((), ((), (y1, ()))))), (((y2, (y3, (y4, ((), ((), ()))))), ((), ())), (y5, (y6, (y7, (y8, ())))))))) m x.1.1 x.1.2.2.2.2.1 x.2.1.1.1 x.2.1.1.2.1 x.2.1.1.2.2.1 x.2.2.1 x.2.2.2.1 x.2.2.2.2.1 x.2.2.2.2.2.1
def Kqv (F : Nat) : List (LoE Unit) := [⟨100, 3, LO.of Jih (Ks5 F F)⟩]
def Jyp (F : Nat) : Jck Unit := { toBook := J35, lo := Jdq (Kqv F), need := Jbf [] }
theorem Kcz (F : Nat) : Jcr prog (Jyp F) F 100 0 3 Jih (Ks4 F) := fun d x KQ => by kernel_rfl
theorem Ks6 (F : Nat) : Jkg prog (Jyp F) F := Jbp (l := Kqv F) rfl (fa (Jav 0 (by kernel_rfl) (by kernel_rfl) (Jal (Kcz F) (fun _ _ => rfl) (fun _ _ _ _ => rfl))) fz)
theorem Ky7 (F : Nat) (x : Jbd Kcy) (kend : List BV → ZO) : Jau prog (Jyp F) F 20 55 (Jag Kcy x) [.o 5 (.int .u8), .d (.int .i64)] kend = K5p F x.1 x.2.1 x.2.2.1 none (fun y0 y1 => kend [BV.o 5 (.int .u8) y0, BV.d (.int .i64) y1]) := by kernel_rfl
theorem J6m  : Jaf prog 55 Kh3 := Ja1 (B0 := J35) bkN bkG Jax bkT Ky7 (Jae (fa Jpb (fa Js5 (fa Jpa (fa Jor fz))))) (by kernel_rfl) (fun _ => rfl) Ks6 (fun x h => (Klv x.1 x.2.1 x.2.2.1 h).elim fun F hF => ⟨F, fun kend => hF none _⟩)
@[reducible] def J1o  : List PM := [.d (.slc (.int .u8)), .d (.int .i64), .d (.slc (.int .u8))]
def Kh4  : Orc := Orc.of J1o true 1 fun x => (Jx0 x.1 x.2.1 x.2.2.1, [.o 5 (.int .u8) (Jhq x.1 x.2.1 x.2.2.1), .d (.int .i64) (Jji x.1 x.2.1 x.2.2.1)])
def J8r  : List (FuncId × Orc) := [(97, Juh), (98, J33), (99, Jug), (100, Kqu), (107, Jym), (108, Js4)]
theorem Ky8 (F : Nat) (x : Jbd J1o) (kend : List BV → ZO) : Jau prog (bkZ J8r) F 20 75 (Jag J1o x) [.o 5 (.int .u8), .d (.int .i64)] kend = K5q F x.1 x.2.1 x.2.2.1 none (fun y0 y1 => kend [BV.o 5 (.int .u8) y0, BV.d (.int .i64) y1]) := by kernel_rfl
theorem J6n  : Jaf prog 75 Kh4 := Ja1 (B0 := bkY J8r) bkN bkG Jax bkT Ky8 (Jae (fa Jpb (fa Js5 (fa Jpa (fa Kcx (fa Jqq (fa Juf fz))))))) (by kernel_rfl) (fun _ => rfl) (bkO _) (fun x h => (Klw x.1 x.2.1 x.2.2.1 h).elim fun F hF => ⟨F, fun kend => hF none _⟩)
end Go.AI
namespace Go.AI
open Go
open Go.Proofs.Tryz (prog)
set_option linter.unusedVariables false
@[reducible] def J36  : List PM := [.d (.slc (.arr 16 (.int .u8)))]
def Jm5  : Orc := Orc.of J36 true 1 fun x => (Jho x.1, [.o 62 (.arr 16 (.int .u8)) (Jns x.1)])
def J37  : List (FuncId × Orc) := []
theorem Ks7 (F : Nat) (x : Jbd J36) (kend : List BV → ZO) : Jau prog (bkZ J37) F 20 43 (Jag J36 x) [.o 62 (.arr 16 (.int .u8))] kend = Kv9 F x.1 none Jmd (fun y0 => kend [BV.o 62 (.arr 16 (.int .u8)) y0]) := by kernel_rfl
theorem Jhv  : Jaf prog 43 Jm5 := Ja1 (B0 := bkY J37) bkN bkG Jax bkT Ks7 (Jae fz) (by kernel_rfl) (fun _ => rfl) (bkO _) (fun x h => (Kfp x.1 h).elim fun F hF => ⟨F, fun kend => hF none Jmd Jvp _⟩)
@[reducible] def J38  : List PM := [.d (.slc (.pair (.int .i64) (.pair (.arr 16 (.int .u8)) .unit)))]
def J8s  : Orc := Orc.of J38 true 1 fun x => (Jvq x.1, [.o 137 (.pair (.int .i64) (.pair (.arr 16 (.int .u8)) .unit)) (J06 x.1)])
def J39  : List (FuncId × Orc) := []
theorem Ks8 (F : Nat) (x : Jbd J38) (kend : List BV → ZO) : Jau prog (bkZ J39) F 20 65 (Jag J38 x) [.o 137 (.pair (.int .i64) (.pair (.arr 16 (.int .u8)) .unit))] kend = Kwa F x.1 none Jmd (fun y0 => kend [BV.o 137 (.pair (.int .i64) (.pair (.arr 16 (.int .u8)) .unit)) y0]) := by kernel_rfl
theorem J4a  : Jaf prog 65 J8s := Ja1 (B0 := bkY J39) bkN bkG Jax bkT Ks8 (Jae fz) (by kernel_rfl) (fun _ => rfl) (bkO _) (fun x h => (Kfq x.1 h).elim fun F hF => ⟨F, fun kend => hF none Jmd Jvp _⟩)
@[reducible] def Kc0  : List PM := [.d (.slc (.int .i64))]
def Kh5  : Orc := Orc.of Kc0 true 1 fun x => (J2t x.1, [.o 3 (.int .i64) (Kae x.1)])
def J8t  : List (FuncId × Orc) := []
theorem Ky9 (F : Nat) (x : Jbd Kc0) (kend : List BV → ZO) : Jau prog (bkZ J8t) F 20 102 (Jag Kc0 x) [.o 3 (.int .i64)] kend = K5l F x.1 none Jmd (fun y0 => kend [BV.o 3 (.int .i64) y0]) := by kernel_rfl
theorem J6o  : Jaf prog 102 Kh5 := Ja1 (B0 := bkY J8t) bkN bkG Jax bkT Ky9 (Jae fz) (by kernel_rfl) (fun _ => rfl) (bkO _) (fun x h => (Klf x.1 h).elim fun F hF => ⟨F, fun kend => hF none Jmd Jvp _⟩)
@[reducible] def Kc1  : List PM := [.d (.pair (.slc (.arr 16 (.int .u8))) (.pair (.slc (.pair (.int .i64) (.pair (.arr 16 (.int .u8)) .unit))) .unit)), .d (.int .i64), .d (.int .i64)]
def J4b  : Orc := Orc.of Kc1 true 0 fun x => (Jxy x.1 x.2.1 x.2.2.1, [.d .bool (Jp0 x.1 x.2.1 x.2.2.1)])
def J8u  : List (FuncId × Orc) := []
theorem Kza (F : Nat) (x : Jbd Kc1) (kend : List BV → ZO) : Jau prog (bkZ J8u) F 20 42 (Jag Kc1 x) [.d .bool] kend = K5m F x.1 x.2.1 x.2.2.1 none (fun y0 => kend [BV.d .bool y0]) := by kernel_rfl
theorem Js6  : Jaf prog 42 J4b := Ja1 (B0 := bkY J8u) bkN bkG Jax bkT Kza (Jae fz) (by kernel_rfl) (fun _ => rfl) (bkO _) (fun x h => (Klg x.1 x.2.1 x.2.2.1 h).elim fun F hF => ⟨F, fun kend => hF none _⟩)
@[reducible] def Knf  : List PM := [.d (.int .i64)]
def Kqw  : Orc := Orc.of Knf false 0 fun x => (Kv5 x.1, [.d (.pair (.slc (.arr 16 (.int .u8))) (.pair (.slc (.pair (.int .i64) (.pair (.arr 16 (.int .u8)) .unit))) .unit)) (Jkq x.1), .d (.int .i64) (J2u x.1)])
def Kh6  : List (FuncId × Orc) := []
theorem K26 (F : Nat) (x : Jbd Knf) (kend : List BV → ZO) : Jau prog (bkZ Kh6) F 20 31 (Jag Knf x) [.d (.pair (.slc (.arr 16 (.int .u8))) (.pair (.slc (.pair (.int .i64) (.pair (.arr 16 (.int .u8)) .unit))) .unit)), .d (.int .i64)] kend = dNew F x.1 none (fun y0 y1 => kend [BV.d (.pair (.slc (.arr 16 (.int .u8))) (.pair (.slc (.pair (.int .i64) (.pair (.arr 16 (.int .u8)) .unit))) .unit)) y0, BV.d (.int .i64) y1]) := by kernel_rfl
theorem Kc2  : Jaf prog 31 Kqw := Ja1 (B0 := bkY Kh6) bkN bkG Jax bkT K26 (Jae fz) (by kernel_rfl) (fun _ => rfl) (bkO _) (fun x h => (Kr4 x.1 h).elim fun F hF => ⟨F, fun kend => hF none _⟩)
@[reducible] def J4c  : List PM := [.d (.pair (.slc (.arr 16 (.int .u8))) (.pair (.slc (.pair (.int .i64) (.pair (.arr 16 (.int .u8)) .unit))) .unit))]
def Jm6  : Orc := Orc.of J4c true 0 fun x => (Jil x.1, [.d (.int .i64) (Jes x.1)])
@[reducible] def Jey  : Tpl := { cur := ⟨[(0, .var (.slc (.pair (.int .i64) (.pair (.arr 16 (.int .u8)) .unit)))), (0, .fn 63 (.pr (.ptr 0 []) (.un))), (2, .var (.int .i64)), (2, .var (.int .i64)), (0, .var (.int .i64))], 10⟩, stk := [⟨[], 9⟩, ⟨[(11, .lit false), (3, .lit false)], 5⟩, ⟨[], 0⟩], heap := [.box (.var (.pair (.slc (.arr 16 (.int .u8))) (.pair (.slc (.pair (.int .i64) (.pair (.arr 16 (.int .u8)) .unit))) .unit)))] }
def Kng  : List (FuncId × Orc) := []
def Jzt  : Book := { Γ := gam, orc := Jb3 Kng, hint := Jbe [(105, { keep := some [0, 1, 4, 7, 8], keeps := [(2, [0, 1, 4, 7, 8])], own := [], dat := [], stk := [[], [11, 15]] })] }
def Knh (F : Nat) (nx : Jey.T → ZO) (kq : ZK) (x : Jey.T) : ZO := Jv1 F none (fun s s4 s7 s8 f => nx ((s, (((), ()), (s4, (s7, (s8, ()))))), (((), (((), ((), ())), ((), ()))), (f, ())))) (fun y0 y1 y2 y3 y4 => kq .ret (Jey.inst ((y0, (((), ()), (y1, (y2, (y3, ()))))), (((), (((), ((), ())), ((), ()))), (y4, ()))))) (fun y0 y1 y2 y3 y4 => kq (.exit 0) (Jey.inst ((y0, (((), ()), (y1, (y2, (y3, ()))))), (((), (((), ((), ())), ((), ()))), (y4, ()))))) x.1.1 x.1.2.2.1 x.1.2.2.2.1 x.1.2.2.2.2.1 x.2.2.1
def Kni (F m : Nat) (x : Jey.T) (kq : ZK) : ZO := Jj4 F none (fun y0 y1 y2 y3 y4 => kq .ret (Jey.inst ((y0, (((), ()), (y1, (y2, (y3, ()))))), (((), (((), ((), ())), ((), ()))), (y4, ()))))) (fun y0 y1 y2 y3 y4 => kq (.exit 0) (Jey.inst ((y0, (((), ()), (y1, (y2, (y3, ()))))), (((), (((), ((), ())), ((), ()))), (y4, ()))))) m x.1.1 x.1.2.2.1 x.1.2.2.2.1 x.1.2.2.2.2.1 x.2.2.1
def Kh7 (F : Nat) : List (LoE Unit) := [⟨105, 2, LO.of Jey (Kni F F)⟩]
def Jui (F : Nat) : Jck Unit := { toBook := Jzt, lo := Jdq (Kh7 F), need := Jbf [(105, 1)] }
theorem J6p (F : Nat) : Jcr prog (Jui F) F 105 0 2 Jey (Knh F) := fun d x KQ => by kernel_rfl
theorem Knj (F : Nat) : Jkg prog (Jui F) F := Jbp (l := Kh7 F) rfl (fa (Jav 0 (by kernel_rfl) (by kernel_rfl) (Jal (J6p F) (fun _ _ => rfl) (fun _ _ _ _ => rfl))) fz)
theorem Ks9 (F : Nat) (x : Jbd J4c) (kend : List BV → ZO) : Jau prog (Jui F) F 20 39 (Jag J4c x) [.d (.int .i64)] kend = Kwb F x.1 none (fun y0 => kend [BV.d (.int .i64) y0]) := by kernel_rfl
theorem Jhw  : Jaf prog 39 Jm6 := Ja1 (B0 := Jzt) bkN bkG Jax bkT Ks9 (Jae fz) (by kernel_rfl) (fun _ => rfl) Knj (fun x h => (Kfr x.1 h).elim fun F hF => ⟨F, fun kend => hF none _⟩)
@[reducible] def Juj  : List PM := [.d (.pair (.slc (.arr 16 (.int .u8))) (.pair (.slc (.pair (.int .i64) (.pair (.arr 16 (.int .u8)) .unit))) .unit))]
def Jqr  : Orc := Orc.of Juj true 1 fun x => (Jg1 x.1, [.o 62 (.arr 16 (.int .u8)) (Jh7 x.1)])
@[reducible] def Jez  : Tpl := { cur := ⟨[(3, .row 0), (6, .var (.slc (.pair (.int .i64) (.pair (.arr 16 (.int .u8)) .unit)))), (0, .var (.int .i64)), (0, .var (.int .i64))], 11⟩, stk := [⟨[], 0⟩], heap := [.row 62 (.arr 16 (.int .u8)) false] }
def Kc3  : List (FuncId × Orc) := [(43, Jm5)]
def Js7  : Book := { Γ := gam, orc := Jb3 Kc3, hint := Jbe [(44, { keep := some [3, 10, 11, 12], keeps := [(3, [3, 10, 11, 12])], own := [], dat := [], stk := [] })] }
def Kc4 (F : Nat) (nx : Jez.T → ZO) (kq : ZK) (x : Jez.T) : ZO := Jn1 F none (fun s10 s11 s12 out => nx (((), (s10, (s11, (s12, ())))), (((), ()), (out, ())))) (fun y0 y1 y2 y3 => kq (.exit 0) (Jez.inst (((), (y0, (y1, (y2, ())))), (((), ()), (y3, ()))))) x.1.2.1 x.1.2.2.1 x.1.2.2.2.1 x.2.2.1
def Kc5 (F m : Nat) (x : Jez.T) (kq : ZK) : ZO := Jg4 F none (fun y0 y1 y2 y3 => kq (.exit 0) (Jez.inst (((), (y0, (y1, (y2, ())))), (((), ()), (y3, ()))))) m x.1.2.1 x.1.2.2.1 x.1.2.2.2.1 x.2.2.1
def J4d (F : Nat) : List (LoE Unit) := [⟨44, 3, LO.of Jez (Kc5 F F)⟩]
def Jou (F : Nat) : Jck Unit := { toBook := Js7, lo := Jdq (J4d F), need := Jbf [] }
theorem J0i (F : Nat) : Jcr prog (Jou F) F 44 0 3 Jez (Kc4 F) := fun d x KQ => by kernel_rfl
theorem Kc6 (F : Nat) : Jkg prog (Jou F) F := Jbp (l := J4d F) rfl (fa (Jav 0 (by kernel_rfl) (by kernel_rfl) (Jal (J0i F) (fun _ _ => rfl) (fun _ _ _ _ => rfl))) fz)
theorem Kh8 (F : Nat) (x : Jbd Juj) (kend : List BV → ZO) : Jau prog (Jou F) F 20 44 (Jag Juj x) [.o 62 (.arr 16 (.int .u8))] kend = Kal F x.1 none (fun y0 => kend [BV.o 62 (.arr 16 (.int .u8)) y0]) := by kernel_rfl
theorem Jm7  : Jaf prog 44 Jqr := Ja1 (B0 := Js7) bkN bkG Jax bkT Kh8 (Jae (fa Jhv fz)) (by kernel_rfl) (fun _ => rfl) Kc6 (fun x h => (J5z x.1 h).elim fun F hF => ⟨F, fun kend => hF none _⟩)
@[reducible] def Kc7  : List PM := [.d (.pair (.slc (.arr 16 (.int .u8))) (.pair (.slc (.pair (.int .i64) (.pair (.arr 16 (.int .u8)) .unit))) .unit)), .d (.int .i64), .d (.int .i64)]
def Kh9  : Orc := Orc.of Kc7 true 1 fun x => (Kaf x.1 x.2.1 x.2.2.1, [.o 62 (.arr 16 (.int .u8)) (Jdx x.1 x.2.1 x.2.2.1), .d (.int .i64) (Jro x.1 x.2.1 x.2.2.1)])
def J8v  : List (FuncId × Orc) := [(39, Jm6), (42, J4b), (43, Jm5), (44, Jqr)]
theorem Kzb (F : Nat) (x : Jbd Kc7) (kend : List BV → ZO) : Jau prog (bkZ J8v) F 20 13 (Jag Kc7 x) [.o 62 (.arr 16 (.int .u8)), .d (.int .i64)] kend = K5n F x.1 x.2.1 x.2.2.1 none (fun y0 y1 => kend [BV.o 62 (.arr 16 (.int .u8)) y0, BV.d (.int .i64) y1]) := by kernel_rfl
theorem J6q  : Jaf prog 13 Kh9 := Ja1 (B0 := bkY J8v) bkN bkG Jax bkT Kzb (Jae (fa Jhw (fa Js6 (fa Jhv (fa Jm7 fz))))) (by kernel_rfl) (fun _ => rfl) (bkO _) (fun x h => (Klh x.1 x.2.1 x.2.2.1 h).elim fun F hF => ⟨F, fun kend => hF none _⟩)
@[reducible] def Knk  : List PM := [.d (.pair (.slc (.arr 16 (.int .u8))) (.pair (.slc (.pair (.int .i64) (.pair (.arr 16 (.int .u8)) .unit))) .unit)), .d (.slc (.pair (.int .i64) (.pair (.int .i64) (.pair (.slc (.arr 16 (.int .u8))) .unit))))]
def Jw4  : Orc := Orc.of Knk false 0 fun x => (Jvr x.1 x.2.1, [.d (.pair (.slc (.arr 16 (.int .u8))) (.pair (.slc (.pair (.int .i64) (.pair (.arr 16 (.int .u8)) .unit))) .unit)) (Jdl x.1 x.2.1), .d (.int .i64) (Kks x.1 x.2.1), .d (.int .i64) (Jh8 x.1 x.2.1)])
@[reducible] def Jld  : Tpl := { cur := ⟨[(0, .ptr 0 []), (2, .ptr 3 []), (14, .var (.slc (.arr 16 (.int .u8)))), (0, .var (.int .i64)), (0, .var (.int .i64))], 20⟩, stk := [⟨[(1, .var (.slc (.pair (.int .i64) (.pair (.int .i64) (.pair (.slc (.arr 16 (.int .u8))) .unit))))), (2, .ptr 4 []), (0, .var (.int .i64)), (0, .var (.int .i64)), (1, .ptr 0 []), (0, .ptr 5 []), (0, .var (.int .i64)), (11, .var (.slc (.pair (.int .i64) (.pair (.int .i64) (.pair (.slc (.arr 16 (.int .u8))) .unit))))), (0, .var (.int .i64)), (0, .var (.int .i64))], 27⟩, ⟨[], 0⟩], heap := [.box (.pr (.row 1) (.pr (.row 2) (.var .unit))), .row 62 (.arr 16 (.int .u8)) false, .row 137 (.pair (.int .i64) (.pair (.arr 16 (.int .u8)) .unit)) false, .box (.var (.pair (.int .i64) (.pair (.int .i64) (.pair (.slc (.arr 16 (.int .u8))) .unit)))), .box (.var (.pair (.slc (.arr 16 (.int .u8))) (.pair (.slc (.pair (.int .i64) (.pair (.arr 16 (.int .u8)) .unit))) .unit))), .box (.fns [some 66, some 67])] }
@[reducible] def Jhx  : Tpl := { cur := ⟨[(1, .var (.slc (.pair (.int .i64) (.pair (.int .i64) (.pair (.slc (.arr 16 (.int .u8))) .unit))))), (2, .ptr 0 []), (0, .var (.int .i64)), (0, .var (.int .i64)), (1, .ptr 1 []), (0, .ptr 4 []), (12, .var (.slc (.pair (.int .i64) (.pair (.int .i64) (.pair (.slc (.arr 16 (.int .u8))) .unit))))), (0, .var (.int .i64)), (0, .var (.int .i64))], 27⟩, stk := [⟨[], 0⟩], heap := [.box (.var (.pair (.slc (.arr 16 (.int .u8))) (.pair (.slc (.pair (.int .i64) (.pair (.arr 16 (.int .u8)) .unit))) .unit))), .box (.pr (.row 2) (.pr (.row 3) (.var .unit))), .row 62 (.arr 16 (.int .u8)) false, .row 137 (.pair (.int .i64) (.pair (.arr 16 (.int .u8)) .unit)) false, .box (.fns [some 66, some 67])] }
def Kzc  : List (FuncId × Orc) := [(39, Jm6), (42, J4b), (43, Jm5), (44, Jqr), (65, J8s)]
def J8w  : Book := { Γ := gam, orc := Jb3 Kzc, hint := Jbe [(12, { keep := some [1, 4, 5, 6, 8, 9, 22, 23, 24], keeps := [(6, [1, 4, 5, 6, 8, 9, 22, 23, 24])], own := [], dat := [], stk := [], ownb := [(8, 1, 25)] }), (66, { keep := some [0, 3, 18, 19, 20], keeps := [(4, [0, 3, 18, 19, 20])], own := [], dat := [], stk := [[1, 2, 4, 5, 6, 8, 9, 10, 20, 22, 23, 24]] })] }
def Kzd (F : Nat) (nx : Jld.T → ZO) (kq : ZK) (x : Jld.T) : ZO := Kam F none (fun s18 s19 s20 l s5 s6 i s22 s23 s24 h1 h2 op s4 => nx (((), ((), (s18, (s19, (s20, ()))))), (((l, ((), (s5, (s6, ((), ((), (i, (s22, (s23, (s24, ())))))))))), ((), ())), (((), ((), ())), (h1, (h2, (op, (s4, ((), ()))))))))) (fun y0 y1 y2 y3 y4 y5 y6 y7 y8 y9 y10 y11 y12 y13 => kq (.exit 0) (Jld.inst (((), ((), (y0, (y1, (y2, ()))))), (((y3, ((), (y4, (y5, ((), ((), (y6, (y7, (y8, (y9, ())))))))))), ((), ())), (((), ((), ())), (y10, (y11, (y12, (y13, ((), ())))))))))) x.1.2.2.1 x.1.2.2.2.1 x.1.2.2.2.2.1 x.2.1.1.1 x.2.1.1.2.2.1 x.2.1.1.2.2.2.1 x.2.1.1.2.2.2.2.2.2.1 x.2.1.1.2.2.2.2.2.2.2.1 x.2.1.1.2.2.2.2.2.2.2.2.1 x.2.1.1.2.2.2.2.2.2.2.2.2.1 x.2.2.2.1 x.2.2.2.2.1 x.2.2.2.2.2.1 x.2.2.2.2.2.2.1
def Kze (F m : Nat) (x : Jld.T) (kq : ZK) : ZO := Jrv F none (fun y0 y1 y2 y3 y4 y5 y6 y7 y8 y9 y10 y11 y12 y13 => kq (.exit 0) (Jld.inst (((), ((), (y0, (y1, (y2, ()))))), (((y3, ((), (y4, (y5, ((), ((), (y6, (y7, (y8, (y9, ())))))))))), ((), ())), (((), ((), ())), (y10, (y11, (y12, (y13, ((), ())))))))))) m x.1.2.2.1 x.1.2.2.2.1 x.1.2.2.2.2.1 x.2.1.1.1 x.2.1.1.2.2.1 x.2.1.1.2.2.2.1 x.2.1.1.2.2.2.2.2.2.1 x.2.1.1.2.2.2.2.2.2.2.1 x.2.1.1.2.2.2.2.2.2.2.2.1 x.2.1.1.2.2.2.2.2.2.2.2.2.1 x.2.2.2.1 x.2.2.2.2.1 x.2.2.2.2.2.1 x.2.2.2.2.2.2.1
def Kzf (F : Nat) (nx : Jhx.T → ZO) (kq : ZK) (x : Jhx.T) : ZO := Kan F none (fun l s5 s6 s22 s23 s24 s4 h2 h3 => nx ((l, ((), (s5, (s6, ((), ((), (s22, (s23, (s24, ()))))))))), (((), ()), (s4, (((), ((), ())), (h2, (h3, ((), ())))))))) (fun y0 y1 y2 y3 y4 y5 y6 y7 y8 => kq .ret (Jhx.inst ((y0, ((), (y1, (y2, ((), ((), (y3, (y4, (y5, ()))))))))), (((), ()), (y6, (((), ((), ())), (y7, (y8, ((), ()))))))))) (fun y0 y1 y2 y3 y4 y5 y6 y7 y8 => kq (.exit 0) (Jhx.inst ((y0, ((), (y1, (y2, ((), ((), (y3, (y4, (y5, ()))))))))), (((), ()), (y6, (((), ((), ())), (y7, (y8, ((), ()))))))))) x.1.1 x.1.2.2.1 x.1.2.2.2.1 x.1.2.2.2.2.2.2.1 x.1.2.2.2.2.2.2.2.1 x.1.2.2.2.2.2.2.2.2.1 x.2.2.1 x.2.2.2.2.1 x.2.2.2.2.2.1
def Kzg (F m : Nat) (x : Jhx.T) (kq : ZK) : ZO := Jn2 F none (fun y0 y1 y2 y3 y4 y5 y6 y7 y8 => kq .ret (Jhx.inst ((y0, ((), (y1, (y2, ((), ((), (y3, (y4, (y5, ()))))))))), (((), ()), (y6, (((), ((), ())), (y7, (y8, ((), ()))))))))) (fun y0 y1 y2 y3 y4 y5 y6 y7 y8 => kq (.exit 0) (Jhx.inst ((y0, ((), (y1, (y2, ((), ((), (y3, (y4, (y5, ()))))))))), (((), ()), (y6, (((), ((), ())), (y7, (y8, ((), ()))))))))) m x.1.1 x.1.2.2.1 x.1.2.2.2.1 x.1.2.2.2.2.2.2.1 x.1.2.2.2.2.2.2.2.1 x.1.2.2.2.2.2.2.2.2.1 x.2.2.1 x.2.2.2.2.1 x.2.2.2.2.2.1
def Kzh (F : Nat) : List (LoE Unit) := [⟨66, 4, LO.of Jld (Kze F F)⟩,
 ⟨12, 6, LO.of Jhx (Kzg F F)⟩]
def Jw5 (F : Nat) : Jck Unit := { toBook := J8w, lo := Jdq (Kzh F), need := Jbf [(12, 1)] }
theorem Kia (F : Nat) : Jcr prog (Jw5 F) F 66 0 4 Jld (Kzd F) := fun d x KQ => by kernel_rfl
theorem Kib (F : Nat) : Jcr prog (Jw5 F) F 12 0 6 Jhx (Kzf F) := fun d x KQ => by kernel_rfl
theorem Kzi (F : Nat) : Jkg prog (Jw5 F) F := Jbp (l := Kzh F) rfl (fa (Jav 0 (by kernel_rfl) (by kernel_rfl) (Jal (Kia F) (fun _ _ => rfl) (fun _ _ _ _ => rfl))) (fa (Jav 0 (by kernel_rfl) (by kernel_rfl) (Jal (Kib F) (fun _ _ => rfl) (fun _ _ _ _ => rfl))) fz))
theorem K27 (F : Nat) (x : Jbd Knk) (kend : List BV → ZO) : Jau prog (Jw5 F) F 20 12 (Jag Knk x) [.d (.pair (.slc (.arr 16 (.int .u8))) (.pair (.slc (.pair (.int .i64) (.pair (.arr 16 (.int .u8)) .unit))) .unit)), .d (.int .i64), .d (.int .i64)] kend = dRun F x.1 x.2.1 none (fun y0 y1 y2 => kend [BV.d (.pair (.slc (.arr 16 (.int .u8))) (.pair (.slc (.pair (.int .i64) (.pair (.arr 16 (.int .u8)) .unit))) .unit)) y0, BV.d (.int .i64) y1, BV.d (.int .i64) y2]) := by kernel_rfl
theorem Jjw  : Jaf prog 12 Jw4 := Ja1 (B0 := J8w) bkN bkG Jax bkT K27 (Jae (fa Jhw (fa Js6 (fa Jhv (fa Jm7 (fa J4a fz)))))) (by kernel_rfl) (fun _ => rfl) Kzi (fun x h => (Kr5 x.1 x.2.1 h).elim fun F hF => ⟨F, fun kend => hF none _⟩)
@[reducible] def Jyq  : List PM := [.d (.slc (.int .i64)), .d (.int .i64)]
def J4e  : Orc := Orc.of Jyq false 0 fun x => (Jp1 x.1 x.2.1, [.d (.int .i64) (Jh9 x.1 x.2.1), .d (.slc (.int .i64)) (Jmk x.1 x.2.1)])
def Jzu  : List (FuncId × Orc) := []
theorem Knl (F : Nat) (x : Jbd Jyq) (kend : List BV → ZO) : Jau prog (bkZ Jzu) F 20 101 (Jag Jyq x) [.d (.int .i64), .d (.slc (.int .i64))] kend = Kky F x.1 x.2.1 none (fun y0 y1 => kend [BV.d (.int .i64) y0, BV.d (.slc (.int .i64)) y1]) := by kernel_rfl
theorem J0j  : Jaf prog 101 J4e := Ja1 (B0 := bkY Jzu) bkN bkG Jax bkT Knl (Jae fz) (by kernel_rfl) (fun _ => rfl) (bkO _) (fun x h => (Ka7 x.1 x.2.1 h).elim fun F hF => ⟨F, fun kend => hF none _⟩)
@[reducible] def J4f  : List PM := [.d (.pair (.slc (.arr 16 (.int .u8))) (.pair (.slc (.pair (.int .i64) (.pair (.arr 16 (.int .u8)) .unit))) .unit)), .d (.slc (.int .i64))]
def J8x  : Orc := Orc.of J4f false 1 fun x => (Jvs x.1 x.2.1, [.d (.pair (.slc (.arr 16 (.int .u8))) (.pair (.slc (.pair (.int .i64) (.pair (.arr 16 (.int .u8)) .unit))) .unit)) (Jp2 x.1 x.2.1), .o 3 (.int .i64) (Jp3 x.1 x.2.1), .d (.int .i64) (Jp4 x.1 x.2.1)])
@[reducible] def Jgu  : Tpl := { cur := ⟨[(1, .var (.slc (.int .i64))), (0, .ptr 0 []), (1, .ptr 1 []), (3, .hnd .map 2), (0, .row 3), (14, .var (.slc (.pair (.int .i64) (.pair (.arr 16 (.int .u8)) .unit)))), (0, .var (.int .i64)), (0, .var (.int .i64))], 68⟩, stk := [⟨[], 0⟩], heap := [.box (.var (.pair (.slc (.arr 16 (.int .u8))) (.pair (.slc (.pair (.int .i64) (.pair (.arr 16 (.int .u8)) .unit))) .unit))), .box (.var (.pair (.slc (.arr 16 (.int .u8))) (.pair (.slc (.pair (.int .i64) (.pair (.arr 16 (.int .u8)) .unit))) .unit))), .mps 3 23 62 (.int .i64) (.arr 16 (.int .u8)), .row 3 (.int .i64) false] }
@[reducible] def Jgv  : Tpl := { cur := ⟨[(1, .var (.slc (.int .i64))), (2, .ptr 0 []), (3, .hnd .map 1), (3, .ptr 2 []), (53, .row 4), (0, .var (.int .i64)), (0, .var (.int .i64))], 26⟩, stk := [⟨[], 0⟩], heap := [.box (.var (.pair (.slc (.arr 16 (.int .u8))) (.pair (.slc (.pair (.int .i64) (.pair (.arr 16 (.int .u8)) .unit))) .unit))), .mp 3 23 (.int .i64) (.slc (.arr 16 (.int .u8))), .box (.pr (.row 3) (.var (.pair (.slc (.pair (.int .i64) (.pair (.arr 16 (.int .u8)) .unit))) .unit))), .row 62 (.arr 16 (.int .u8)) false, .row 3 (.int .i64) false] }
def Knm  : List (FuncId × Orc) := [(39, Jm6), (43, Jm5), (101, J4e), (102, Kh5)]
def Jzv  : Book := { Γ := gam, orc := Jb3 Knm, hint := Jbe [(56, { keep := some [1, 2, 4, 8, 9, 12, 24, 25, 26, 66, 67, 68], keeps := [(7, [1, 2, 4, 8, 9, 24, 25, 26]), (16, [1, 4, 8, 12, 66, 67, 68])], own := [(9, 64)], dat := [], stk := [], fz := [(16, [8])] })] }
def Knn (F : Nat) (nx : Jgu.T → ZO) (kq : ZK) (x : Jgu.T) : ZO := Jv2 F none (fun choices s24 s25 s26 d_ s4 versions places => nx ((choices, ((), ((), ((), ((), (s24, (s25, (s26, ())))))))), (((), ()), (d_, (s4, (versions, (places, ()))))))) (fun y0 y1 y2 y3 y4 y5 y6 y7 => kq (.exit 0) (Jgu.inst ((y0, ((), ((), ((), ((), (y1, (y2, (y3, ())))))))), (((), ()), (y4, (y5, (y6, (y7, ())))))))) x.1.1 x.1.2.2.2.2.2.1 x.1.2.2.2.2.2.2.1 x.1.2.2.2.2.2.2.2.1 x.2.2.1 x.2.2.2.1 x.2.2.2.2.1 x.2.2.2.2.2.1
def Kno (F m : Nat) (x : Jgu.T) (kq : ZK) : ZO := Jj5 F none (fun y0 y1 y2 y3 y4 y5 y6 y7 => kq (.exit 0) (Jgu.inst ((y0, ((), ((), ((), ((), (y1, (y2, (y3, ())))))))), (((), ()), (y4, (y5, (y6, (y7, ())))))))) m x.1.1 x.1.2.2.2.2.2.1 x.1.2.2.2.2.2.2.1 x.1.2.2.2.2.2.2.2.1 x.2.2.1 x.2.2.2.1 x.2.2.2.2.1 x.2.2.2.2.2.1
def Knp (F : Nat) (nx : Jgv.T → ZO) (kq : ZK) (x : Jgv.T) : ZO := Jv3 F none (fun choices s67 s68 s4 versions out h3 s66 => nx ((choices, ((), ((), ((), ((), (s67, (s68, ()))))))), (((), ()), (s4, (versions, (((), out), (h3, (s66, ())))))))) (fun y0 y1 y2 y3 y4 y5 y6 y7 => kq (.exit 2) (Jgv.inst ((y0, ((), ((), ((), ((), (y1, (y2, ()))))))), (((), ()), (y3, (y4, (((), y5), (y6, (y7, ()))))))))) x.1.1 x.1.2.2.2.2.2.1 x.1.2.2.2.2.2.2.1 x.2.2.1 x.2.2.2.1 x.2.2.2.2.1.2 x.2.2.2.2.2.1 x.2.2.2.2.2.2.1
def Knq (F m : Nat) (x : Jgv.T) (kq : ZK) : ZO := Jj6 F none (fun y0 y1 y2 y3 y4 y5 y6 y7 => kq (.exit 2) (Jgv.inst ((y0, ((), ((), ((), ((), (y1, (y2, ()))))))), (((), ()), (y3, (y4, (((), y5), (y6, (y7, ()))))))))) m x.1.1 x.1.2.2.2.2.2.1 x.1.2.2.2.2.2.2.1 x.2.2.1 x.2.2.2.1 x.2.2.2.2.1.2 x.2.2.2.2.2.1 x.2.2.2.2.2.2.1
def Kic (F : Nat) : List (LoE Unit) := [⟨56, 7, LO.of Jgu (Kno F F)⟩,
 ⟨56, 16, LO.of Jgv (Knq F F)⟩]
def Jov (F : Nat) : Jck Unit := { toBook := Jzv, lo := Jdq (Kic F), need := Jbf [] }
theorem J6r (F : Nat) : Jcr prog (Jov F) F 56 0 7 Jgu (Knn F) := fun d x KQ => by kernel_rfl
theorem J6s (F : Nat) : Jcr prog (Jov F) F 56 1 16 Jgv (Knp F) := fun d x KQ => by kernel_rfl
theorem Knr (F : Nat) : Jkg prog (Jov F) F := Jbp (l := Kic F) rfl (fa (Jav 0 (by kernel_rfl) (by kernel_rfl) (Jal (J6r F) (fun _ _ => rfl) (fun _ _ _ _ => rfl))) (fa (Jav 1 (by kernel_rfl) (by kernel_rfl) (Jal (J6s F) (fun _ _ => rfl) (fun _ _ _ _ => rfl))) fz))
theorem Kta (F : Nat) (x : Jbd J4f) (kend : List BV → ZO) : Jau prog (Jov F) F 20 56 (Jag J4f x) [.d (.pair (.slc (.arr 16 (.int .u8))) (.pair (.slc (.pair (.int .i64) (.pair (.arr 16 (.int .u8)) .unit))) .unit)), .o 3 (.int .i64), .d (.int .i64)] kend = Kwc F x.1 x.2.1 none (fun y0 y1 y2 => kend [BV.d (.pair (.slc (.arr 16 (.int .u8))) (.pair (.slc (.pair (.int .i64) (.pair (.arr 16 (.int .u8)) .unit))) .unit)) y0, BV.o 3 (.int .i64) y1, BV.d (.int .i64) y2]) := by kernel_rfl
theorem J4g  : Jaf prog 56 J8x := Ja1 (B0 := Jzv) bkN bkG Jax bkT Kta (Jae (fa Jhw (fa Jhv (fa J0j (fa J6o fz))))) (by kernel_rfl) (fun _ => rfl) Knr (fun x h => (Kfu x.1 x.2.1 h).elim fun F hF => ⟨F, fun kend => hF none _⟩)
@[reducible] def Jow  : List PM := [.d (.pair (.slc (.arr 16 (.int .u8))) (.pair (.slc (.pair (.int .i64) (.pair (.arr 16 (.int .u8)) .unit))) .unit)), .d (.slc (.pair (.int .i64) (.pair (.int .i64) (.pair (.slc (.arr 16 (.int .u8))) .unit)))), .d (.int .i64), .d (.slc (.int .i64))]
def Js8  : Orc := Orc.of Jow false 1 fun x => (Jls x.1 x.2.1 x.2.2.1 x.2.2.2.1, [.d (.pair (.slc (.arr 16 (.int .u8))) (.pair (.slc (.pair (.int .i64) (.pair (.arr 16 (.int .u8)) .unit))) .unit)) (Jaj x.1 x.2.1 x.2.2.1 x.2.2.2.1), .o 3 (.int .i64) (Jcy x.1 x.2.1 x.2.2.1 x.2.2.2.1), .d (.int .i64) (Jfw x.1 x.2.1 x.2.2.1 x.2.2.2.1)])
def Jqs  : List (FuncId × Orc) := [(12, Jw4), (39, Jm6), (56, J8x)]
theorem J6t (F : Nat) (x : Jbd Jow) (kend : List BV → ZO) : Jau prog (bkZ Jqs) F 20 25 (Jag Jow x) [.d (.pair (.slc (.arr 16 (.int .u8))) (.pair (.slc (.pair (.int .i64) (.pair (.arr 16 (.int .u8)) .unit))) .unit)), .o 3 (.int .i64), .d (.int .i64)] kend = Jx6 F x.1 x.2.1 x.2.2.1 x.2.2.2.1 none (fun y0 y1 y2 => kend [BV.d (.pair (.slc (.arr 16 (.int .u8))) (.pair (.slc (.pair (.int .i64) (.pair (.arr 16 (.int .u8)) .unit))) .unit)) y0, BV.o 3 (.int .i64) y1, BV.d (.int .i64) y2]) := by kernel_rfl
theorem Juk  : Jaf prog 25 Js8 := Ja1 (B0 := bkY Jqs) bkN bkG Jax bkT J6t (Jae (fa Jjw (fa Jhw (fa J4g fz)))) (by kernel_rfl) (fun _ => rfl) (bkO _) (fun x h => (Jz7 x.1 x.2.1 x.2.2.1 x.2.2.2.1 h).elim fun F hF => ⟨F, fun kend => hF none _⟩)
end Go.AI
namespace Go.AI
open Go Go.Proofs
def rcvs (f : FuncId) : Option Rcv := bif Nat.beq f 45 then some { clo := 68, ncap := 2, pan := 142, sto := [(0, 32, none), (1, 4, some false)] } else none
theorem K65 (p q : Value) (w : World) : CallsDIn (Fe none) 0 Tryz.prog 68 #[p, q] .returning w fun e u' w' => (∃ v, e = .returned v) ∧ u' = .returning ∧ w' = w := by
 refine callsDIn_of_wpSIn Tryz.func68 rfl trivial fun c₀ cs hu => ?_
 apply wpSIn_seq
 apply wpSIn_region
 simp [wpOpsSIn, go_sem, recoverD, hu, Tryz.ntmps68, Exit.thenS]
 apply wpSIn_seq
 apply wpSIn_region
 simp [wpOpsSIn, go_sem, Exit.thenS]
 refine wpSIn_cond (t := false) (by simp [Act.eval, Array.replicate]) ?_
 simp only [Bool.false_eq_true, if_false]
 refine wpSIn_of_wpIn rfl (wpIn_skip ?_)
 cases c₀
 simp_all [bodyPostS, results, Tryz.results68]
theorem K66 (p q : Value) (w w' : World) (h : Ke0 Tryz.prog [p, q] [(0, 32, none), (1, 4, some false)] (w.alloc (.cells #[] 142)) w') :
  CallsDIn (Fe none) 0 Tryz.prog 68 #[p, q] (.panicking (panicked 142)) w fun e u' w'' => (∃ v, e = .returned v) ∧ settle u' = .returning ∧ w'' = w' := by
 obtain ⟨w1, h1, w2, h2, h3⟩ := h
 simp only [Ke0] at h3
 subst h3
 have hta : ∀ w, (Instr.typeAssert (.iface 142 (.agg #[])) 20 142 true).run Tryz.prog w = .ok (.tuple #[.agg #[], .bool true]) w := fun w => by kernel_rfl
 refine callsDIn_of_wpSIn Tryz.func68 rfl trivial fun c₀ cs hu => ?_
 apply wpSIn_seq
 apply wpSIn_region
 simp [wpOpsSIn, go_sem, recoverD, hu, Tryz.ntmps68, Exit.thenS, panicked]
 apply wpSIn_seq
 apply wpSIn_region
 simp [wpOpsSIn, go_sem, Exit.thenS]
 refine wpSIn_cond (t := true) (by simp [Act.eval, Array.replicate]) ?_
 simp only [if_true]
 apply wpSIn_seq
 apply wpSIn_seq
 apply wpSIn_region
 simp [wpOpsSIn, go_sem, Exit.thenS, hta]
 apply wpSIn_seq
 apply wpSIn_region
 simp [wpOpsSIn, go_sem, Exit.thenS]
 refine wpSIn_cond (t := false) (by simp [Act.eval, Array.replicate]) ?_
 simp only [Bool.false_eq_true, if_false]
 refine wpSIn_of_wpIn rfl (wpIn_skip ?_)
 simp only [Exit.thenS]
 apply wpSIn_region
 have g1 : (Instr.storeAt 32 p (.slice none 0 0)).run Tryz.prog (w.alloc (.cells #[] 142)) = .ok () w1 := h1
 have g2 : (Instr.storeAt 4 q (.bool false)).run Tryz.prog w1 = .ok () w' := h2
 show wpOpsSIn (Fe none) 0 Tryz.prog _ _ [0, 1] _ _ _
 simp [wpOpsSIn, execOp, Act.eval, Act.put, Region.wanted, g1, g2, bodyPostS, results, Tryz.results68, settle]
 exact ⟨fun _ _ => trivial, fun _ _ => trivial⟩
theorem K67  : Krk Tryz.prog rcvs := by
 intro f rc h
 unfold rcvs at h
 cases hf : Nat.beq f 45 with
 | false => rw [hf] at h; cases h
 | true =>
  rw [hf] at h
  cases h
  have two : ∀ caps : Array Value, caps.size = 2 → ∃ p q, caps = #[p, q] := fun caps h => by
   obtain ⟨l⟩ := caps
   match l, h with
   | [p, q], _ => exact ⟨p, q, rfl⟩
  refine ⟨⟨Tryz.f68, Tryz.func68, by kernel_rfl, by kernel_rfl⟩, fun caps w h => ?_, fun caps w h => ⟨.cells #[] 142, fun w' hs => ?_⟩⟩
  ·obtain ⟨p, q, rfl⟩ := two caps h
   exact K65 p q w
  ·obtain ⟨p, q, rfl⟩ := two caps h
   exact K66 p q w w' hs
end Go.AI
namespace Go.AI
open Go
open Go.Proofs.Tryz (prog)
set_option linter.unusedVariables false
@[reducible] def Jyr  : List PM := [.d (.int .u32)]
def J4h  : Orc := Orc.of Jyr true 0 fun x => (Jvu x.1, [.d (.int .u32) (Jiv x.1)])
@[reducible] def Jfs  : Tpl := { cur := ⟨[(0, .var (.int .u32)), (3, .var (.int .i64))], 11⟩, stk := [⟨[], 0⟩], heap := [] }
def Kid  : List (FuncId × Orc) := []
def Jw6  : Book := { Γ := gam, orc := Jb3 Kid, hint := Jbe [(163, { keep := some [0, 4], keeps := [(2, [0, 4])], own := [], dat := [], stk := [] })] }
def Kie (F : Nat) (nx : Jfs.T → ZO) (kq : ZK) (x : Jfs.T) : ZO := Jya F none (fun register s4 => nx ((register, (s4, ())), (((), ()), ()))) (fun y0 y1 => kq (.exit 0) (Jfs.inst ((y0, (y1, ())), (((), ()), ())))) x.1.1 x.1.2.1
def Kif (F m : Nat) (x : Jfs.T) (kq : ZK) : ZO := Jkw F none (fun y0 y1 => kq (.exit 0) (Jfs.inst ((y0, (y1, ())), (((), ()), ())))) m x.1.1 x.1.2.1
def J8y (F : Nat) : List (LoE Unit) := [⟨163, 2, LO.of Jfs (Kif F F)⟩]
def Jqt (F : Nat) : Jck Unit := { toBook := Jw6, lo := Jdq (J8y F), need := Jbf [] }
theorem J4i (F : Nat) : Jcr prog (Jqt F) F 163 0 2 Jfs (Kie F) := fun d x KQ => by kernel_rfl
theorem Kig (F : Nat) : Jkg prog (Jqt F) F := Jbp (l := J8y F) rfl (fa (Jav 0 (by kernel_rfl) (by kernel_rfl) (Jal (J4i F) (fun _ _ => rfl) (fun _ _ _ _ => rfl))) fz)
theorem Kns (F : Nat) (x : Jbd Jyr) (kend : List BV → ZO) : Jau prog (Jqt F) F 20 163 (Jag Jyr x) [.d (.int .u32)] kend = Kk4 F x.1 none (fun y0 => kend [BV.d (.int .u32) y0]) := by kernel_rfl
theorem J0k  : Jaf prog 163 J4h := Ja1 (B0 := Jw6) bkN bkG Jax bkT Kns (Jae fz) (by kernel_rfl) (fun _ => rfl) Kig (fun x h => (Kbs x.1 h).elim fun F hF => ⟨F, fun kend => hF none _⟩)
@[reducible] def J4j  : List PM := []
def J8z  : Orc := Orc.of J4j true 0 fun x => (J1a, [.d (.arr 256 (.int .u32)) (Jjj)])
@[reducible] def Jgw  : Tpl := { cur := ⟨[(0, .ptr 0 []), (0, .ptr 1 []), (1, .var (.int .i64))], 9⟩, stk := [⟨[], 0⟩], heap := [.box (.var (.arr 256 (.int .u32))), .box (.var (.arr 256 (.int .u32)))] }
def Knt  : List (FuncId × Orc) := [(163, J4h)]
def Jzw  : Book := { Γ := gam, orc := Jb3 Knt, hint := Jbe [(149, { keep := some [0, 1, 3], keeps := [(3, [0, 1, 3])], own := [], dat := [], stk := [] })] }
def Knu (F : Nat) (nx : Jgw.T → ZO) (kq : ZK) (x : Jgw.T) : ZO := J23 F none (fun s3 s0 out => nx (((), ((), (s3, ()))), (((), ()), (s0, (out, ()))))) (fun y0 y1 y2 => kq (.exit 0) (Jgw.inst (((), ((), (y0, ()))), (((), ()), (y1, (y2, ())))))) x.1.2.2.1 x.2.2.1 x.2.2.2.1
def Knv (F m : Nat) (x : Jgw.T) (kq : ZK) : ZO := Jmu F none (fun y0 y1 y2 => kq (.exit 0) (Jgw.inst (((), ((), (y0, ()))), (((), ()), (y1, (y2, ())))))) m x.1.2.2.1 x.2.2.1 x.2.2.2.1
def Kih (F : Nat) : List (LoE Unit) := [⟨149, 3, LO.of Jgw (Knv F F)⟩]
def Jul (F : Nat) : Jck Unit := { toBook := Jzw, lo := Jdq (Kih F), need := Jbf [] }
theorem J6u (F : Nat) : Jcr prog (Jul F) F 149 0 3 Jgw (Knu F) := fun d x KQ => by kernel_rfl
theorem Knw (F : Nat) : Jkg prog (Jul F) F := Jbp (l := Kih F) rfl (fa (Jav 0 (by kernel_rfl) (by kernel_rfl) (Jal (J6u F) (fun _ _ => rfl) (fun _ _ _ _ => rfl))) fz)
theorem Ktb (F : Nat) (x : Jbd J4j) (kend : List BV → ZO) : Jau prog (Jul F) F 20 149 (Jag J4j x) [.d (.arr 256 (.int .u32))] kend = Kwi F  none (fun y0 => kend [BV.d (.arr 256 (.int .u32)) y0]) := by kernel_rfl
theorem J4k  : Jaf prog 149 J8z := Ja1 (B0 := Jzw) bkN bkG Jax bkT Ktb (Jae (fa J0k fz)) (by kernel_rfl) (fun _ => rfl) Knw (fun x h => (Kgd  h).elim fun F hF => ⟨F, fun kend => hF none _⟩)
@[reducible] def Knx  : List PM := [.d (.int .u32), .d (.slc (.int .u8))]
def Kqx  : Orc := Orc.of Knx true 0 fun x => (Kfg x.1 x.2.1, [.d (.int .u32) (Kpj x.1 x.2.1)])
@[reducible] def Jle  : Tpl := { cur := ⟨[(0, .hnd .yield 0), (4, .var (.slc (.int .u8))), (0, .var (.int .i64)), (0, .var (.int .i64))], 8⟩, stk := [⟨[(0, .hnd .yield 0)], 0⟩, ⟨[(1, .fn 150 (.pr (.ptr 3 []) (.un))), (0, .ptr 1 []), (1, .var (.int .u32))], 15⟩, ⟨[(6, .var (.int .u32))], 4⟩, ⟨[], 0⟩], heap := [.lp 129 3 ⟨[(2, .ptr 1 []), (2, .ptr 2 [])], 14⟩ .ready, .box (.var (.int .u32)), .box (.var (.arr 256 (.int .u32))), .box (.var (.slc (.int .u8)))] }
def Kzj  : List (FuncId × Orc) := [(149, J8z)]
def J80  : Book := { Γ := gam, orc := Jb3 Kzj, hint := Jbe [(150, { keep := some [0, 5, 6, 7], keeps := [(1, [0, 5, 6, 7])], own := [], dat := [], stk := [[0], [1, 2, 4, 6, 9], [6]] })] }
def Kzk (F : Nat) (nx : Jle.T → ZO) (kq : ZK) (x : Jle.T) : ZO := Kay F none (fun s5 s6 s7 s4 s61 register t bytes => nx (((), (s5, (s6, (s7, ())))), ((((), ()), ((((), ()), ((), (s4, ()))), ((s61, ()), ((), ())))), (((), ((), ())), (register, (t, (bytes, ()))))))) (fun y0 y1 y2 y3 y4 y5 y6 y7 => kq (.exit 0) (Jle.inst (((), (y0, (y1, (y2, ())))), ((((), ()), ((((), ()), ((), (y3, ()))), ((y4, ()), ((), ())))), (((), ((), ())), (y5, (y6, (y7, ())))))))) x.1.2.1 x.1.2.2.1 x.1.2.2.2.1 x.2.1.2.1.2.2.1 x.2.1.2.2.1.1 x.2.2.2.1 x.2.2.2.2.1 x.2.2.2.2.2.1
def Kzl (F m : Nat) (x : Jle.T) (kq : ZK) : ZO := Jr3 F none (fun y0 y1 y2 y3 y4 y5 y6 y7 => kq (.exit 0) (Jle.inst (((), (y0, (y1, (y2, ())))), ((((), ()), ((((), ()), ((), (y3, ()))), ((y4, ()), ((), ())))), (((), ((), ())), (y5, (y6, (y7, ())))))))) m x.1.2.1 x.1.2.2.1 x.1.2.2.2.1 x.2.1.2.1.2.2.1 x.2.1.2.2.1.1 x.2.2.2.1 x.2.2.2.2.1 x.2.2.2.2.2.1
def Kzm (F : Nat) : List (LoE Unit) := [⟨150, 1, LO.of Jle (Kzl F F)⟩]
def J4l (F : Nat) : Jck Unit := { toBook := J80, lo := Jdq (Kzm F), need := Jbf [(150, 1)] }
theorem Kii (F : Nat) : Jcr prog (J4l F) F 150 0 1 Jle (Kzk F) := fun d x KQ => by kernel_rfl
theorem Kzn (F : Nat) : Jkg prog (J4l F) F := Jbp (l := Kzm F) rfl (fa (Jav 0 (by kernel_rfl) (by kernel_rfl) (Jal (Kii F) (fun _ _ => rfl) (fun _ _ _ _ => rfl))) fz)
theorem K28 (F : Nat) (x : Jbd Knx) (kend : List BV → ZO) : Jau prog (J4l F) F 20 104 (Jag Knx x) [.d (.int .u32)] kend = cUpd F x.1 x.2.1 none (fun y0 => kend [BV.d (.int .u32) y0]) := by kernel_rfl
theorem Kc8  : Jaf prog 104 Kqx := Ja1 (B0 := J80) bkN bkG Jax bkT K28 (Jae (fa J4k fz)) (by kernel_rfl) (fun _ => rfl) Kzn (fun x h => (Ksh x.1 x.2.1 h).elim fun F hF => ⟨F, fun kend => hF none _⟩)
@[reducible] def Kny  : List PM := [.d (.slc (.int .u8))]
def Kc9  : Orc := Orc.of Kny true 0 fun x => (J7x x.1, [.d (.int .u32) (J7y x.1)])
def Kij  : List (FuncId × Orc) := [(104, Kqx)]
theorem K29 (F : Nat) (x : Jbd Kny) (kend : List BV → ZO) : Jau prog (bkZ Kij) F 20 62 (Jag Kny x) [.d (.int .u32)] kend = cSum F x.1 none (fun y0 => kend [BV.d (.int .u32) y0]) := by kernel_rfl
theorem Jw7  : Jaf prog 62 Kc9 := Ja1 (B0 := bkY Kij) bkN bkG Jax bkT K29 (Jae (fa Kc8 fz)) (by kernel_rfl) (fun _ => rfl) (bkO _) (fun x h => (Ksi x.1 h).elim fun F hF => ⟨F, fun kend => hF none _⟩)
@[reducible] def J4m  : List PM := [.d (.int .i64)]
def Jsi  : Orc := Orc.of J4m true 0 fun x => (Jjk x.1, [.d (.int .i64) (Jjl x.1)])
def J4n  : List (FuncId × Orc) := []
theorem Ktc (F : Nat) (x : Jbd J4m) (kend : List BV → ZO) : Jau prog (bkZ J4n) F 20 58 (Jag J4m x) [.d (.int .i64)] kend = Kwj F x.1 none (fun y0 => kend [BV.d (.int .i64) y0]) := by kernel_rfl
theorem Jlf  : Jaf prog 58 Jsi := Ja1 (B0 := bkY J4n) bkN bkG Jax bkT Ktc (Jae fz) (by kernel_rfl) (fun _ => rfl) (bkO _) (fun x h => (Kgi x.1 h).elim fun F hF => ⟨F, fun kend => hF none _⟩)
@[reducible] def J4o  : List PM := [.d (.int .i64)]
def J81  : Orc := Orc.of J4o true 0 fun x => (J1b x.1, [.d (.int .i64) (Jim x.1)])
def J4p  : List (FuncId × Orc) := [(58, Jsi)]
theorem Ktd (F : Nat) (x : Jbd J4o) (kend : List BV → ZO) : Jau prog (bkZ J4p) F 20 34 (Jag J4o x) [.d (.int .i64)] kend = Kwk F x.1 none (fun y0 => kend [BV.d (.int .i64) y0]) := by kernel_rfl
theorem J4q  : Jaf prog 34 J81 := Ja1 (B0 := bkY J4p) bkN bkG Jax bkT Ktd (Jae (fa Jlf fz)) (by kernel_rfl) (fun _ => rfl) (bkO _) (fun x h => (Kgj x.1 h).elim fun F hF => ⟨F, fun kend => hF none _⟩)
@[reducible] def J4r  : List PM := [.d (.pair (.int .i64) (.pair (.int .i64) (.pair (.int .i64) .unit)))]
def Jys  : Orc := Orc.of J4r true 0 fun x => (true, [.d (.int .i64) (Jjm x.1)])
def J4s  : List (FuncId × Orc) := []
theorem Kte (F : Nat) (x : Jbd J4r) (kend : List BV → ZO) : Jau prog (bkZ J4s) F 20 33 (Jag J4r x) [.d (.int .i64)] kend = Kwl F x.1 none (fun y0 => kend [BV.d (.int .i64) y0]) := by kernel_rfl
theorem Jqu  : Jaf prog 33 Jys := Ja1 (B0 := bkY J4s) bkN bkG Jax bkT Kte (Jae fz) (by kernel_rfl) (fun _ => rfl) (bkO _) (fun x _ => (Kgk x.1).elim fun F hF => ⟨F, fun kend => hF none _⟩)
@[reducible] def Kda  : List PM := []
def J4t  : Orc := Orc.of Kda true 0 fun x => (J2x, [.d (.arr 16 (.int .u8)) (Jx1)])
def J82  : List (FuncId × Orc) := []
theorem Kzo (F : Nat) (x : Jbd Kda) (kend : List BV → ZO) : Jau prog (bkZ J82) F 20 46 (Jag Kda x) [.d (.arr 16 (.int .u8))] kend = K8g F  none (fun y0 => kend [BV.d (.arr 16 (.int .u8)) y0]) := by kernel_rfl
theorem Js9  : Jaf prog 46 J4t := Ja1 (B0 := bkY J82) bkN bkG Jax bkT Kzo (Jae fz) (by kernel_rfl) (fun _ => rfl) (bkO _) (fun x h => (Kl0  h).elim fun F hF => ⟨F, fun kend => hF none _⟩)
@[reducible] def J4u  : List PM := [.d (.slc (.int .u8))]
def J83  : Orc := Orc.of J4u true 0 fun x => (Jlu x.1, [.d (.int .i64) (Jb5 x.1)])
@[reducible] def Jgx  : Tpl := { cur := ⟨[(3, .var (.int .i64)), (2, .var (.slc (.int .u8))), (0, .var (.int .i64)), (0, .var (.int .i64))], 10⟩, stk := [⟨[], 0⟩], heap := [] }
def Knz  : List (FuncId × Orc) := []
def Jzx  : Book := { Γ := gam, orc := Jb3 Knz, hint := Jbe [(70, { keep := some [3, 6, 7, 8], keeps := [(3, [3, 6, 7, 8])], own := [], dat := [], stk := [] })] }
def Kn0 (F : Nat) (nx : Jgx.T → ZO) (kq : ZK) (x : Jgx.T) : ZO := Jwa F none (fun n s6 s7 s8 => nx ((n, (s6, (s7, (s8, ())))), (((), ()), ()))) (fun y0 y1 y2 y3 => kq (.exit 0) (Jgx.inst ((y0, (y1, (y2, (y3, ())))), (((), ()), ())))) x.1.1 x.1.2.1 x.1.2.2.1 x.1.2.2.2.1
def Kn1 (F m : Nat) (x : Jgx.T) (kq : ZK) : ZO := Jka F none (fun y0 y1 y2 y3 => kq (.exit 0) (Jgx.inst ((y0, (y1, (y2, (y3, ())))), (((), ()), ())))) m x.1.1 x.1.2.1 x.1.2.2.1 x.1.2.2.2.1
def Kik (F : Nat) : List (LoE Unit) := [⟨70, 3, LO.of Jgx (Kn1 F F)⟩]
def Jum (F : Nat) : Jck Unit := { toBook := Jzx, lo := Jdq (Kik F), need := Jbf [] }
theorem J6v (F : Nat) : Jcr prog (Jum F) F 70 0 3 Jgx (Kn0 F) := fun d x KQ => by kernel_rfl
theorem Kn2 (F : Nat) : Jkg prog (Jum F) F := Jbp (l := Kik F) rfl (fa (Jav 0 (by kernel_rfl) (by kernel_rfl) (Jal (J6v F) (fun _ _ => rfl) (fun _ _ _ _ => rfl))) fz)
theorem Ktf (F : Nat) (x : Jbd J4u) (kend : List BV → ZO) : Jau prog (Jum F) F 20 70 (Jag J4u x) [.d (.int .i64)] kend = Kwm F x.1 none (fun y0 => kend [BV.d (.int .i64) y0]) := by kernel_rfl
theorem J4v  : Jaf prog 70 J83 := Ja1 (B0 := Jzx) bkN bkG Jax bkT Ktf (Jae fz) (by kernel_rfl) (fun _ => rfl) Kn2 (fun x h => (Kgg x.1 h).elim fun F hF => ⟨F, fun kend => hF none _⟩)
@[reducible] def Kn3  : List PM := [.d (.slc (.int .u8)), .d (.int .i64)]
def Kqy  : Orc := Orc.of Kn3 true 0 fun x => (J2y x.1 x.2.1, [.d (.arr 16 (.int .u8)) (Jvv x.1 x.2.1)])
@[reducible] def Jlg  : Tpl := { cur := ⟨[(0, .sl 0), (0, .var (.int .i64)), (4, .var (.int .i64)), (0, .var (.int .i64))], 15⟩, stk := [⟨[(0, .var (.slc (.int .u8))), (3, .ptr 1 []), (0, .ptr 0 [])], 19⟩, ⟨[], 0⟩], heap := [.box (.var (.arr 16 (.int .u8))), .box (.var (.arr 16 (.int .u8)))] }
@[reducible] def Jlh  : Tpl := { cur := ⟨[(0, .sl 0), (0, .var (.int .i64)), (4, .var (.int .i64)), (0, .var (.int .i64))], 15⟩, stk := [⟨[(0, .var (.slc (.int .u8))), (3, .ptr 1 []), (0, .ptr 0 []), (4, .sl 0)], 14⟩, ⟨[], 0⟩], heap := [.box (.var (.arr 16 (.int .u8))), .box (.var (.arr 16 (.int .u8)))] }
@[reducible] def Jli  : Tpl := { cur := ⟨[(0, .sl 0), (0, .var (.int .i64)), (4, .var (.int .i64)), (0, .var (.int .i64))], 15⟩, stk := [⟨[(0, .var (.slc (.int .u8))), (3, .ptr 1 []), (0, .ptr 0 []), (4, .sl 0), (8, .sl 0)], 5⟩, ⟨[], 0⟩], heap := [.box (.var (.arr 16 (.int .u8))), .box (.var (.arr 16 (.int .u8)))] }
def Kzp  : List (FuncId × Orc) := [(58, Jsi), (62, Kc9)]
def J84  : Book := { Γ := gam, orc := Jb3 Kzp, hint := Jbe [(61, { keep := some [0, 1, 6, 7], keeps := [(1, [0, 1, 6, 7])], own := [], dat := [], stk := [[0, 4, 5, 10, 19]] })] }
def Kzq (F : Nat) (nx : Jlg.T → ZO) (kq : ZK) (x : Jlg.T) : ZO := Kaz F none (fun to_i to_n n s6 s7 payload to s4 => nx (((to_i, to_n), (n, (s6, (s7, ())))), (((payload, ((), ((), ()))), ((), ())), (to, (s4, ()))))) (fun y0 y1 y2 y3 y4 y5 y6 y7 => kq (.exit 0) (Jlg.inst (((y0, y1), (y2, (y3, (y4, ())))), (((y5, ((), ((), ()))), ((), ())), (y6, (y7, ())))))) x.1.1.1 x.1.1.2 x.1.2.1 x.1.2.2.1 x.1.2.2.2.1 x.2.1.1.1 x.2.2.1 x.2.2.2.1
def Kzr (F m : Nat) (x : Jlg.T) (kq : ZK) : ZO := Jn9 F none (fun y0 y1 y2 y3 y4 y5 y6 y7 => kq (.exit 0) (Jlg.inst (((y0, y1), (y2, (y3, (y4, ())))), (((y5, ((), ((), ()))), ((), ())), (y6, (y7, ())))))) m x.1.1.1 x.1.1.2 x.1.2.1 x.1.2.2.1 x.1.2.2.2.1 x.2.1.1.1 x.2.2.1 x.2.2.2.1
def Kzs (F : Nat) (nx : Jlh.T → ZO) (kq : ZK) (x : Jlh.T) : ZO := Ka0 F none (fun to_i to_n n s6 s7 payload s10_i s10_n to s4 => nx (((to_i, to_n), (n, (s6, (s7, ())))), (((payload, ((), ((), ((s10_i, s10_n), ())))), ((), ())), (to, (s4, ()))))) (fun y0 y1 y2 y3 y4 y5 y6 y7 y8 y9 => kq (.exit 0) (Jlh.inst (((y0, y1), (y2, (y3, (y4, ())))), (((y5, ((), ((), ((y6, y7), ())))), ((), ())), (y8, (y9, ())))))) x.1.1.1 x.1.1.2 x.1.2.1 x.1.2.2.1 x.1.2.2.2.1 x.2.1.1.1 x.2.1.1.2.2.2.1.1 x.2.1.1.2.2.2.1.2 x.2.2.1 x.2.2.2.1
def Kzt (F m : Nat) (x : Jlh.T) (kq : ZK) : ZO := Jly F none (fun y0 y1 y2 y3 y4 y5 y6 y7 y8 y9 => kq (.exit 0) (Jlh.inst (((y0, y1), (y2, (y3, (y4, ())))), (((y5, ((), ((), ((y6, y7), ())))), ((), ())), (y8, (y9, ())))))) m x.1.1.1 x.1.1.2 x.1.2.1 x.1.2.2.1 x.1.2.2.2.1 x.2.1.1.1 x.2.1.1.2.2.2.1.1 x.2.1.1.2.2.2.1.2 x.2.2.1 x.2.2.2.1
def Kzu (F : Nat) (nx : Jli.T → ZO) (kq : ZK) (x : Jli.T) : ZO := Ka1 F none (fun to_i to_n n s6 s7 payload s10_i s10_n s19_i s19_n to s4 => nx (((to_i, to_n), (n, (s6, (s7, ())))), (((payload, ((), ((), ((s10_i, s10_n), ((s19_i, s19_n), ()))))), ((), ())), (to, (s4, ()))))) (fun y0 y1 y2 y3 y4 y5 y6 y7 y8 y9 y10 y11 => kq (.exit 0) (Jli.inst (((y0, y1), (y2, (y3, (y4, ())))), (((y5, ((), ((), ((y6, y7), ((y8, y9), ()))))), ((), ())), (y10, (y11, ())))))) x.1.1.1 x.1.1.2 x.1.2.1 x.1.2.2.1 x.1.2.2.2.1 x.2.1.1.1 x.2.1.1.2.2.2.1.1 x.2.1.1.2.2.2.1.2 x.2.1.1.2.2.2.2.1.1 x.2.1.1.2.2.2.2.1.2 x.2.2.1 x.2.2.2.1
def Kzv (F m : Nat) (x : Jli.T) (kq : ZK) : ZO := Joa F none (fun y0 y1 y2 y3 y4 y5 y6 y7 y8 y9 y10 y11 => kq (.exit 0) (Jli.inst (((y0, y1), (y2, (y3, (y4, ())))), (((y5, ((), ((), ((y6, y7), ((y8, y9), ()))))), ((), ())), (y10, (y11, ())))))) m x.1.1.1 x.1.1.2 x.1.2.1 x.1.2.2.1 x.1.2.2.2.1 x.2.1.1.1 x.2.1.1.2.2.2.1.1 x.2.1.1.2.2.2.1.2 x.2.1.1.2.2.2.2.1.1 x.2.1.1.2.2.2.2.1.2 x.2.2.1 x.2.2.2.1
def Kzw (F : Nat) : List (LoE Unit) := [⟨61, 1, LO.orT Jlg (Kzr F F) (LO.orT Jlh (Kzt F F) (LO.of Jli (Kzv F F)))⟩]
def Jqv (F : Nat) : Jck Unit := { toBook := J84, lo := Jdq (Kzw F), need := Jbf [] }
theorem Kil (F : Nat) : Jcr prog (Jqv F) F 61 0 1 Jlg (Kzq F) := fun d x KQ => by kernel_rfl
theorem Kim (F : Nat) : Jcr prog (Jqv F) F 61 0 1 Jlh (Kzs F) := fun d x KQ => by kernel_rfl
theorem Kin (F : Nat) : Jcr prog (Jqv F) F 61 0 1 Jli (Kzu F) := fun d x KQ => by kernel_rfl
theorem Kzx (F : Nat) : Jkg prog (Jqv F) F := Jbp (l := Kzw F) rfl (fa (Jav 0 (by kernel_rfl) (by kernel_rfl) (J96 (Jal (Kil F) (fun _ _ => rfl) (fun _ _ _ _ => rfl)) (J96 (Jal (Kim F) (fun _ _ => rfl) (fun _ _ _ _ => rfl)) (Jal (Kin F) (fun _ _ => rfl) (fun _ _ _ _ => rfl))))) fz)
theorem K3a (F : Nat) (x : Jbd Kn3) (kend : List BV → ZO) : Jau prog (Jqv F) F 20 38 (Jag Kn3 x) [.d (.arr 16 (.int .u8))] kend = lEnd F x.1 x.2.1 none (fun y0 => kend [BV.d (.arr 16 (.int .u8)) y0]) := by kernel_rfl
theorem Kdb  : Jaf prog 38 Kqy := Ja1 (B0 := J84) bkN bkG Jax bkT K3a (Jae (fa Jlf (fa Jw7 fz))) (by kernel_rfl) (fun _ => rfl) Kzx (fun x h => (Ksj x.1 x.2.1 h).elim fun F hF => ⟨F, fun kend => hF none _⟩)
@[reducible] def J4w  : List PM := [.d (.int .i64), .d (.slc (.arr 16 (.int .u8)))]
def Jyt  : Orc := Orc.of J4w false 0 fun x => (Jjn x.1 x.2.1, [.d (.pair (.int .i64) (.pair (.int .i64) (.pair (.slc (.arr 16 (.int .u8))) .unit))) (Jjo x.1 x.2.1)])
def J4x  : List (FuncId × Orc) := []
theorem Ktg (F : Nat) (x : Jbd J4w) (kend : List BV → ZO) : Jau prog (bkZ J4x) F 20 36 (Jag J4w x) [.d (.pair (.int .i64) (.pair (.int .i64) (.pair (.slc (.arr 16 (.int .u8))) .unit)))] kend = K3x F x.1 x.2.1 none (fun y0 => kend [BV.d (.pair (.int .i64) (.pair (.int .i64) (.pair (.slc (.arr 16 (.int .u8))) .unit))) y0]) := by kernel_rfl
theorem Jqw  : Jaf prog 36 Jyt := Ja1 (B0 := bkY J4x) bkN bkG Jax bkT Ktg (Jae fz) (by kernel_rfl) (fun _ => rfl) (bkO _) (fun x h => (Kgl x.1 x.2.1 h).elim fun F hF => ⟨F, fun kend => hF none _⟩)
@[reducible] def Kdc  : List PM := []
def J4y  : Orc := Orc.of Kdc false 0 fun x => (Jnx, [.d (.pair (.int .i64) (.pair (.int .i64) (.pair (.slc (.arr 16 (.int .u8))) .unit))) (Jny)])
def J85  : List (FuncId × Orc) := []
theorem Kzy (F : Nat) (x : Jbd Kdc) (kend : List BV → ZO) : Jau prog (bkZ J85) F 20 37 (Jag Kdc x) [.d (.pair (.int .i64) (.pair (.int .i64) (.pair (.slc (.arr 16 (.int .u8))) .unit)))] kend = K8h F  none (fun y0 => kend [BV.d (.pair (.int .i64) (.pair (.int .i64) (.pair (.slc (.arr 16 (.int .u8))) .unit))) y0]) := by kernel_rfl
theorem Jta  : Jaf prog 37 J4y := Ja1 (B0 := bkY J85) bkN bkG Jax bkT Kzy (Jae fz) (by kernel_rfl) (fun _ => rfl) (bkO _) (fun x h => (Kl1  h).elim fun F hF => ⟨F, fun kend => hF none _⟩)
@[reducible] def Jf1  : Tpl := { cur := ⟨[(0, .var (.slc (.int .u8))), (0, .fn 73 (.un)), (2, .var (.int .i64)), (2, .var (.int .i64)), (0, .var (.int .i64))], 10⟩, stk := [⟨[], 9⟩, ⟨[], 0⟩], heap := [] }
def Kth  : List (FuncId × Orc) := []
def J4z  : Book := { Γ := gam, orc := Jb3 Kth, hint := Jbe [(106, { keep := some [0, 1, 4, 7, 8], keeps := [(2, [0, 1, 4, 7, 8])], own := [], dat := [], stk := [[]] })] }
def Kti (F : Nat) (nx : Jf1.T → ZO) (kq : ZK) (x : Jf1.T) : ZO := J1e F none (fun s s4 s7 s8 => nx ((s, ((), (s4, (s7, (s8, ()))))), (((), ((), ())), ()))) (fun y0 y1 y2 y3 => kq .ret (Jf1.inst ((y0, ((), (y1, (y2, (y3, ()))))), (((), ((), ())), ())))) (fun y0 y1 y2 y3 => kq (.exit 0) (Jf1.inst ((y0, ((), (y1, (y2, (y3, ()))))), (((), ((), ())), ())))) x.1.1 x.1.2.2.1 x.1.2.2.2.1 x.1.2.2.2.2.1
def Ktj (F m : Nat) (x : Jf1.T) (kq : ZK) : ZO := Jmv F none (fun y0 y1 y2 y3 => kq .ret (Jf1.inst ((y0, ((), (y1, (y2, (y3, ()))))), (((), ((), ())), ())))) (fun y0 y1 y2 y3 => kq (.exit 0) (Jf1.inst ((y0, ((), (y1, (y2, (y3, ()))))), (((), ((), ())), ())))) m x.1.1 x.1.2.2.1 x.1.2.2.2.1 x.1.2.2.2.2.1
def Kqz (F : Nat) : List (LoE Unit) := [⟨106, 2, LO.of Jf1 (Ktj F F)⟩]
def Jsj (F : Nat) : Jck Unit := { toBook := J4z, lo := Jdq (Kqz F), need := Jbf [(106, 1)] }
theorem Kdd (F : Nat) : Jcr prog (Jsj F) F 106 0 2 Jf1 (Kti F) := fun d x KQ => by kernel_rfl
theorem Ktk (F : Nat) : Jkg prog (Jsj F) F := Jbp (l := Kqz F) rfl (fa (Jav 0 (by kernel_rfl) (by kernel_rfl) (Jal (Kdd F) (fun _ _ => rfl) (fun _ _ _ _ => rfl))) fz)
theorem Kzz (F : Nat) (s : ZB) (kend : List BV → ZO) : Jau prog (Jsj F) F 20 72 [.d (.slc (.int .u8)) s, .f 73] [.d .bool] kend = K5s F s none (fun y0 => kend [BV.d .bool y0]) := by kernel_rfl
theorem Jtb  : Jaf prog 72 (Orc.of [.d (.slc (.int .u8)), .f] true 0 fun x => ((Nat.beq x.2.1 73) && Kr2 x.1 x.2.1, [.d .bool (Kr3 x.1 x.2.1)])) := Jdu (B0 := J4z) bkN bkG Jax bkT (Jae fz) (by kernel_rfl) (fun x h => by
 obtain ⟨x0, x1, _⟩ := x
 simp only [Bool.and_eq_true] at h
 obtain ⟨e, h⟩ := h
 have e := Nat.eq_of_beq_eq_true e
 subst e
 obtain ⟨F, hF⟩ := Kl2 x0 h
 exact ⟨F, 20, Jsj F, rfl, Ktk F, fun kend => (Kzz F x0 kend).trans (hF none (fun y0 => kend [BV.d .bool y0]))⟩)
def Kz0  : Orc := Orc.of [.d (.slc (.int .u8)), .f] true 0 fun x => ((Nat.beq x.2.1 73) && Kr2 x.1 x.2.1, [.d .bool (Kr3 x.1 x.2.1)])
theorem Kio  : Jaf prog 72 Kz0 := Jik Jtb.1 (fun x h => by
 obtain ⟨x0, x1, _⟩ := x
 simp only [Bool.and_eq_true] at h
 obtain ⟨e, _⟩ := h
 rcases e with e
 ·have e := Nat.eq_of_beq_eq_true e
  subst e
  exact ⟨_, Jtb, rfl⟩)
@[reducible] def Jyu  : List PM := [.d (.int .i64)]
def J40  : Orc := Orc.of Jyu false 0 fun x => (J2z x.1, [.d (.pair (.int .i64) (.pair (.int .i64) (.pair (.int .i64) .unit))) (Jib x.1), .d (.slc (.pair (.int .i64) (.pair (.int .i64) (.pair (.slc (.arr 16 (.int .u8))) .unit)))) (Jeh x.1), .d (.int .i64) (Jmm x.1)])
def Jzy  : List (FuncId × Orc) := [(36, Jyt), (37, J4y), (46, J4t)]
theorem Kn4 (F : Nat) (x : Jbd Jyu) (kend : List BV → ZO) : Jau prog (bkZ Jzy) F 20 32 (Jag Jyu x) [.d (.pair (.int .i64) (.pair (.int .i64) (.pair (.int .i64) .unit))), .d (.slc (.pair (.int .i64) (.pair (.int .i64) (.pair (.slc (.arr 16 (.int .u8))) .unit)))), .d (.int .i64)] kend = Kk5 F x.1 none (fun y0 y1 y2 => kend [BV.d (.pair (.int .i64) (.pair (.int .i64) (.pair (.int .i64) .unit))) y0, BV.d (.slc (.pair (.int .i64) (.pair (.int .i64) (.pair (.slc (.arr 16 (.int .u8))) .unit)))) y1, BV.d (.int .i64) y2]) := by kernel_rfl
theorem J0l  : Jaf prog 32 J40 := Ja1 (B0 := bkY Jzy) bkN bkG Jax bkT Kn4 (Jae (fa Jqw (fa Jta (fa Js9 fz)))) (by kernel_rfl) (fun _ => rfl) (bkO _) (fun x h => (Kbw x.1 h).elim fun F hF => ⟨F, fun kend => hF none _⟩)
@[reducible] def Jyv  : List PM := [.d (.pair (.int .i64) (.pair (.int .i64) (.pair (.int .i64) .unit))), .d (.slc (.int .u8))]
def J41  : Orc := Orc.of Jyv false 0 fun x => (Jvw x.1 x.2.1, [.d (.pair (.int .i64) (.pair (.int .i64) (.pair (.int .i64) .unit))) (Jmn x.1 x.2.1), .d (.slc (.pair (.int .i64) (.pair (.int .i64) (.pair (.slc (.arr 16 (.int .u8))) .unit)))) (Jmo x.1 x.2.1), .d (.int .i64) (Jmp x.1 x.2.1)])
@[reducible] def Jft  : Tpl := { cur := ⟨[(0, .hnd .yield 0), (0, .ptr 5 []), (0, .ptr 6 []), (1, .var (.int .i64))], 26⟩, stk := [⟨[(0, .hnd .yield 0)], 0⟩, ⟨[(2, .ptr 1 [])], 13⟩, ⟨[(0, .hnd .yield 2)], 0⟩, ⟨[(1, .var (.slc (.int .u8))), (0, .ptr 7 []), (1, .ptr 8 []), (0, .nils), (0, .var (.int .i64)), (1, .var (.int .i64)), (0, .nils), (0, .ptr 3 [])], 66⟩, ⟨[], 0⟩], heap := [.lp 59 2 ⟨[(2, .ptr 1 [])], 13⟩ .ready, .box (.hnd .yield 2), .lp 11 13 ⟨[(10, .ptr 3 [])], 66⟩ .ready, .box (.row 4), .row 62 (.arr 16 (.int .u8)) false, .box (.var (.slc (.int .u8))), .box (.var (.int .i64)), .box (.var (.pair (.int .i64) (.pair (.int .i64) (.pair (.int .i64) .unit)))), .box (.var (.pair (.int .i64) (.pair (.int .i64) (.pair (.int .i64) .unit))))] }
def Kip  : List (FuncId × Orc) := [(33, Jys), (34, J81), (36, Jyt), (37, J4y), (38, Kqy)]
def Jw8  : Book := { Γ := gam, orc := Jb3 Kip, hint := Jbe [(11, { keep := some [], keeps := [], own := [], dat := [], stk := [], rgb := [(5012, [(10, 0, 23)])] }), (103, { keep := some [0, 1, 2, 4], keeps := [(1, [0, 1, 2, 4])], own := [], dat := [], stk := [[0], [2, 3, 4, 7, 15], [0], [1, 2, 4, 5, 6, 8, 9, 10, 11, 40, 45, 49, 63, 64, 67, 73]] })] }
def Kiq (F : Nat) (nx : Jft.T → ZO) (kq : ZK) (x : Jft.T) : ZO := Jr4 F none (fun i payload s6 n parts s1 s2 l s4 => nx (((), ((), ((), (i, ())))), ((((), ()), (((), ()), (((), ()), ((payload, ((), ((), ((), (s6, (n, ((), ((), ())))))))), ((), ()))))), (((), ()), ((), (((), ()), ((), (parts, (s1, (s2, (l, (s4, ())))))))))))) (fun y0 y1 y2 y3 y4 y5 y6 y7 y8 => kq (.exit 0) (Jft.inst (((), ((), ((), (y0, ())))), ((((), ()), (((), ()), (((), ()), ((y1, ((), ((), ((), (y2, (y3, ((), ((), ())))))))), ((), ()))))), (((), ()), ((), (((), ()), ((), (y4, (y5, (y6, (y7, (y8, ()))))))))))))) x.1.2.2.2.1 x.2.1.2.2.2.1.1 x.2.1.2.2.2.1.2.2.2.2.1 x.2.1.2.2.2.1.2.2.2.2.2.1 x.2.2.2.2.2.2.1 x.2.2.2.2.2.2.2.1 x.2.2.2.2.2.2.2.2.1 x.2.2.2.2.2.2.2.2.2.1 x.2.2.2.2.2.2.2.2.2.2.1
def Kir (F m : Nat) (x : Jft.T) (kq : ZK) : ZO := Jif F none (fun y0 y1 y2 y3 y4 y5 y6 y7 y8 => kq (.exit 0) (Jft.inst (((), ((), ((), (y0, ())))), ((((), ()), (((), ()), (((), ()), ((y1, ((), ((), ((), (y2, (y3, ((), ((), ())))))))), ((), ()))))), (((), ()), ((), (((), ()), ((), (y4, (y5, (y6, (y7, (y8, ()))))))))))))) m x.1.2.2.2.1 x.2.1.2.2.2.1.1 x.2.1.2.2.2.1.2.2.2.2.1 x.2.1.2.2.2.1.2.2.2.2.2.1 x.2.2.2.2.2.2.1 x.2.2.2.2.2.2.2.1 x.2.2.2.2.2.2.2.2.1 x.2.2.2.2.2.2.2.2.2.1 x.2.2.2.2.2.2.2.2.2.2.1
def J86 (F : Nat) : List (LoE Unit) := [⟨103, 1, LO.of Jft (Kir F F)⟩]
def Jqx (F : Nat) : Jck Unit := { toBook := Jw8, lo := Jdq (J86 F), need := Jbf [(103, 2)] }
theorem J42 (F : Nat) : Jcr prog (Jqx F) F 103 0 1 Jft (Kiq F) := fun d x KQ => by kernel_rfl
theorem Kis (F : Nat) : Jkg prog (Jqx F) F := Jbp (l := J86 F) rfl (fa (Jav 0 (by kernel_rfl) (by kernel_rfl) (Jal (J42 F) (fun _ _ => rfl) (fun _ _ _ _ => rfl))) fz)
theorem Kn5 (F : Nat) (x : Jbd Jyv) (kend : List BV → ZO) : Jau prog (Jqx F) F 20 11 (Jag Jyv x) [.d (.pair (.int .i64) (.pair (.int .i64) (.pair (.int .i64) .unit))), .d (.slc (.pair (.int .i64) (.pair (.int .i64) (.pair (.slc (.arr 16 (.int .u8))) .unit)))), .d (.int .i64)] kend = Kk6 F x.1 x.2.1 none (fun y0 y1 y2 => kend [BV.d (.pair (.int .i64) (.pair (.int .i64) (.pair (.int .i64) .unit))) y0, BV.d (.slc (.pair (.int .i64) (.pair (.int .i64) (.pair (.slc (.arr 16 (.int .u8))) .unit)))) y1, BV.d (.int .i64) y2]) := by kernel_rfl
theorem J0m  : Jaf prog 11 J41 := Ja1 (B0 := Jw8) bkN bkG Jax bkT Kn5 (Jae (fa Jqu (fa J4q (fa Jqw (fa Jta (fa Kdb fz)))))) (by kernel_rfl) (fun _ => rfl) Kis (fun x h => (Kby x.1 x.2.1 h).elim fun F hF => ⟨F, fun kend => hF none _⟩)
@[reducible] def Kde  : List PM := [.d (.slc (.arr 16 (.int .u8))), .d (.int .i64)]
def Kit  : Orc := Orc.of Kde false 0 fun x => (Jx3 x.1 x.2.1, [.d (.slc (.slc (.int .u8))) (Jvx x.1 x.2.1), .d (.int .i64) (Jjp x.1 x.2.1)])
@[reducible] def Jf2  : Tpl := { cur := ⟨[(0, .ptr 0 []), (0, .var (.int .i64)), (2, .ptr 1 []), (0, .ptr 3 []), (0, .ptr 4 []), (0, .var (.int .i64))], 63⟩, stk := [⟨[(0, .ptr 1 []), (0, .ptr 3 [])], 0⟩, ⟨[(0, .var (.slc (.arr 16 (.int .u8)))), (0, .var (.int .i64)), (2, .nils), (0, .var (.int .i64)), (0, .row 5), (0, .ptr 0 []), (0, .var (.int .i64))], 36⟩, ⟨[], 0⟩], heap := [.box (.var (.pair (.slc (.arr 16 (.int .u8))) .unit)), .box (.row 2), .row 5 (.int .u8) false, .box (.var .bool), .box (.var (.arr 16 (.int .u8))), .row 32 (.slc (.int .u8)) false] }
@[reducible] def Jm8  : Tpl := { cur := ⟨[(0, .var (.slc (.arr 16 (.int .u8)))), (0, .var (.int .i64)), (2, .nils), (0, .var (.int .i64)), (0, .row 0), (0, .ptr 1 [])], 37⟩, stk := [⟨[], 0⟩], heap := [.row 32 (.slc (.int .u8)) false, .box (.var (.pair (.slc (.arr 16 (.int .u8))) .unit))] }
@[reducible] def J43  : Tpl := { cur := ⟨[(0, .var (.slc (.arr 16 (.int .u8)))), (0, .var (.int .i64)), (2, .row 0), (0, .var (.int .i64)), (0, .row 0), (0, .ptr 1 [])], 37⟩, stk := [⟨[], 0⟩], heap := [.row 32 (.slc (.int .u8)) false, .box (.var (.pair (.slc (.arr 16 (.int .u8))) .unit))] }
def Ktl  : List (FuncId × Orc) := [(58, Jsi), (62, Kc9), (70, J83), (72, Kz0)]
def J44  : Book := { Γ := gam, orc := Jb3 Ktl, hint := Jbe [(14, { keep := some [0, 1, 4, 5, 6, 7], keeps := [(5, [0, 1, 4, 5, 6, 7])], own := [(6, 22)], dat := [], stk := [] }), (45, { keep := some [0, 1, 4, 5, 6, 7], keeps := [(4, [0, 1, 4, 5, 6, 7])], own := [], dat := [], stk := [[0, 1, 2, 3, 4, 5, 6, 7], [0, 1, 4, 5, 6, 7, 8]], rgb := [(5002, [(4, 0, 32)])] })], rcv := rcvs }
def Ktm (F : Nat) (nx : Jf2.T → ZO) (kq : ZK) (x : Jf2.T) : ZO := J1f F none (fun number count l first s5 left r payload ok p out => nx (((), (number, ((), ((), ((), (count, ())))))), ((((), ((), ())), ((l, (first, ((), (s5, ((), ((), (left, ()))))))), ((), ()))), (r, ((), (payload, (ok, (p, (out, ()))))))))) (fun y0 y1 y2 y3 y4 y5 y6 y7 y8 y9 y10 => kq (.panic 142) (Jf2.inst (((), (y0, ((), ((), ((), (y1, ())))))), ((((), ((), ())), ((y2, (y3, ((), (y4, ((), ((), (y5, ()))))))), ((), ()))), (y6, ((), (y7, (y8, (y9, (y10, ())))))))))) (fun y0 y1 y2 y3 y4 y5 y6 y7 y8 y9 y10 => kq (.exit 0) (Jf2.inst (((), (y0, ((), ((), ((), (y1, ())))))), ((((), ((), ())), ((y2, (y3, ((), (y4, ((), ((), (y5, ()))))))), ((), ()))), (y6, ((), (y7, (y8, (y9, (y10, ())))))))))) x.1.2.1 x.1.2.2.2.2.2.1 x.2.1.2.1.1 x.2.1.2.1.2.1 x.2.1.2.1.2.2.2.1 x.2.1.2.1.2.2.2.2.2.2.1 x.2.2.1 x.2.2.2.2.1 x.2.2.2.2.2.1 x.2.2.2.2.2.2.1 x.2.2.2.2.2.2.2.1
def Ktn (F m : Nat) (x : Jf2.T) (kq : ZK) : ZO := Jmw F none (fun y0 y1 y2 y3 y4 y5 y6 y7 y8 y9 y10 => kq (.panic 142) (Jf2.inst (((), (y0, ((), ((), ((), (y1, ())))))), ((((), ((), ())), ((y2, (y3, ((), (y4, ((), ((), (y5, ()))))))), ((), ()))), (y6, ((), (y7, (y8, (y9, (y10, ())))))))))) (fun y0 y1 y2 y3 y4 y5 y6 y7 y8 y9 y10 => kq (.exit 0) (Jf2.inst (((), (y0, ((), ((), ((), (y1, ())))))), ((((), ((), ())), ((y2, (y3, ((), (y4, ((), ((), (y5, ()))))))), ((), ()))), (y6, ((), (y7, (y8, (y9, (y10, ())))))))))) m x.1.2.1 x.1.2.2.2.2.2.1 x.2.1.2.1.1 x.2.1.2.1.2.1 x.2.1.2.1.2.2.2.1 x.2.1.2.1.2.2.2.2.2.2.1 x.2.2.1 x.2.2.2.2.1 x.2.2.2.2.2.1 x.2.2.2.2.2.2.1 x.2.2.2.2.2.2.2.1
def Kto (F : Nat) (nx : Jm8.T → ZO) (kq : ZK) (x : Jm8.T) : ZO := J1g F none (fun l first s5 out r => nx ((l, (first, ((), (s5, ((), ((), ())))))), (((), ()), (out, (r, ()))))) (fun y0 y1 y2 y3 y4 => kq .ret (J43.inst ((y0, (y1, ((), (y2, ((), ((), ())))))), (((), ()), (y3, (y4, ())))))) x.1.1 x.1.2.1 x.1.2.2.2.1 x.2.2.1 x.2.2.2.1
def Ktp (F m : Nat) (x : Jm8.T) (kq : ZK) : ZO := Jmx F none (fun y0 y1 y2 y3 y4 => kq .ret (J43.inst ((y0, (y1, ((), (y2, ((), ((), ())))))), (((), ()), (y3, (y4, ())))))) m x.1.1 x.1.2.1 x.1.2.2.2.1 x.2.2.1 x.2.2.2.1
def Kq0 (F : Nat) : List (LoE Unit) := [⟨45, 4, LO.of Jf2 (Ktn F F)⟩,
 ⟨14, 5, LO.of Jm8 (Ktp F F)⟩]
def Jsk (F : Nat) : Jck Unit := { toBook := J44, lo := Jdq (Kq0 F), need := Jbf [(14, 3), (45, 2)] }
theorem Kdf (F : Nat) : Jcr prog (Jsk F) F 45 0 4 Jf2 (Ktm F) := fun d x KQ => by kernel_rfl
theorem Kdg (F : Nat) : Jcr prog (Jsk F) F 14 0 5 Jm8 (Kto F) := fun d x KQ => by kernel_rfl
theorem Ktq (F : Nat) : Jkg prog (Jsk F) F := Jbp (l := Kq0 F) rfl (fa (Jav 0 (by kernel_rfl) (by kernel_rfl) (Jal (Kdf F) (fun _ _ => rfl) (fun _ _ _ _ => rfl))) (fa (Jav 0 (by kernel_rfl) (by kernel_rfl) (Jal (Kdg F) (fun _ _ => rfl) (fun _ _ _ _ => rfl))) fz))
theorem Kz1 (F : Nat) (x : Jbd Kde) (kend : List BV → ZO) : Jau prog (Jsk F) F 20 14 (Jag Kde x) [.d (.slc (.slc (.int .u8))), .d (.int .i64)] kend = K5t F x.1 x.2.1 none (fun y0 y1 => kend [BV.d (.slc (.slc (.int .u8))) y0, BV.d (.int .i64) y1]) := by kernel_rfl
theorem J6w  : Jaf prog 14 Kit := Ja1 (B0 := J44) bkN bkG Jax bkT Kz1 (Jae (fa Jlf (fa Jw7 (fa J4v (fa Kio fz))))) (by kernel_rfl) (fun _ => rfl) Ktq (fun x h => (Kl5 x.1 x.2.1 h).elim fun F hF => ⟨F, fun kend => hF none _⟩) (hR := K67)
@[reducible] def J1p  : List PM := [.d (.pair (.slc (.arr 16 (.int .u8))) (.pair (.slc (.pair (.int .i64) (.pair (.arr 16 (.int .u8)) .unit))) .unit))]
def Kiu  : Orc := Orc.of J1p false 0 fun x => (Ji7 x.1, [.d (.pair (.int .i64) (.pair (.int .i64) (.pair (.int .i64) .unit))) (Jnz x.1), .d (.slc (.slc (.int .u8))) (Jlv x.1), .d (.int .i64) (Jlw x.1)])
def J87  : List (FuncId × Orc) := [(13, Kh9), (14, Kit), (46, J4t)]
theorem Kz2 (F : Nat) (x : Jbd J1p) (kend : List BV → ZO) : Jau prog (bkZ J87) F 20 15 (Jag J1p x) [.d (.pair (.int .i64) (.pair (.int .i64) (.pair (.int .i64) .unit))), .d (.slc (.slc (.int .u8))), .d (.int .i64)] kend = K5u F x.1 none (fun y0 y1 y2 => kend [BV.d (.pair (.int .i64) (.pair (.int .i64) (.pair (.int .i64) .unit))) y0, BV.d (.slc (.slc (.int .u8))) y1, BV.d (.int .i64) y2]) := by kernel_rfl
theorem J6x  : Jaf prog 15 Kiu := Ja1 (B0 := bkY J87) bkN bkG Jax bkT Kz2 (Jae (fa J6q (fa J6w (fa Js9 fz)))) (by kernel_rfl) (fun _ => rfl) (bkO _) (fun x h => (Kl7 x.1 h).elim fun F hF => ⟨F, fun kend => hF none _⟩)
end Go.AI
namespace Go.AI
open Go
open Go.Proofs.Tryz (prog)
set_option linter.unusedVariables false
@[reducible] def Jw9  : List PM := [.d (.slc (.pair (.int .i64) (.pair (.slc (.int .u8)) .unit)))]
def J88  : Orc := Orc.of Jw9 true 0 fun x => (Jru x.1, [.d (.int .i64) (Jlx x.1)])
@[reducible] def Je0  : Tpl := { cur := ⟨[(2, .var (.int .i64)), (5, .var (.slc (.pair (.int .i64) (.pair (.slc (.int .u8)) .unit)))), (0, .var (.int .i64)), (0, .var (.int .i64))], 14⟩, stk := [⟨[], 0⟩], heap := [] }
def Kn6  : List (FuncId × Orc) := []
def Jzz  : Book := { Γ := gam, orc := Jb3 Kn6, hint := Jbe [(92, { keep := some [2, 8, 9, 10], keeps := [(4, [2, 8, 9, 10])], own := [], dat := [], stk := [] })] }
def Kn7 (F : Nat) (nx : Je0.T → ZO) (kq : ZK) (x : Je0.T) : ZO := Jwb F none (fun s2 s8 s9 s10 => nx ((s2, (s8, (s9, (s10, ())))), (((), ()), ()))) (fun y0 y1 y2 y3 => kq .ret (Je0.inst ((y0, (y1, (y2, (y3, ())))), (((), ()), ())))) (fun y0 y1 y2 y3 => kq (.exit 0) (Je0.inst ((y0, (y1, (y2, (y3, ())))), (((), ()), ())))) x.1.1 x.1.2.1 x.1.2.2.1 x.1.2.2.2.1
def Kn8 (F m : Nat) (x : Je0.T) (kq : ZK) : ZO := Jkb F none (fun y0 y1 y2 y3 => kq .ret (Je0.inst ((y0, (y1, (y2, (y3, ())))), (((), ()), ())))) (fun y0 y1 y2 y3 => kq (.exit 0) (Je0.inst ((y0, (y1, (y2, (y3, ())))), (((), ()), ())))) m x.1.1 x.1.2.1 x.1.2.2.1 x.1.2.2.2.1
def Kiv (F : Nat) : List (LoE Unit) := [⟨92, 4, LO.of Je0 (Kn8 F F)⟩]
def Jun (F : Nat) : Jck Unit := { toBook := Jzz, lo := Jdq (Kiv F), need := Jbf [(92, 1)] }
theorem J6y (F : Nat) : Jcr prog (Jun F) F 92 0 4 Je0 (Kn7 F) := fun d x KQ => by kernel_rfl
theorem Kn9 (F : Nat) : Jkg prog (Jun F) F := Jbp (l := Kiv F) rfl (fa (Jav 0 (by kernel_rfl) (by kernel_rfl) (Jal (J6y F) (fun _ _ => rfl) (fun _ _ _ _ => rfl))) fz)
theorem Ktr (F : Nat) (x : Jbd Jw9) (kend : List BV → ZO) : Jau prog (Jun F) F 20 92 (Jag Jw9 x) [.d (.int .i64)] kend = Kwn F x.1 none (fun y0 => kend [BV.d (.int .i64) y0]) := by kernel_rfl
theorem J45  : Jaf prog 92 J88 := Ja1 (B0 := Jzz) bkN bkG Jax bkT Ktr (Jae fz) (by kernel_rfl) (fun _ => rfl) Kn9 (fun x h => (Kgr x.1 h).elim fun F hF => ⟨F, fun kend => hF none _⟩)
def Kiw  : List (FuncId × Orc) := [(94, Jqk)]
def Jxa  : Book := { Γ := gam, orc := Jb3 Kiw, hint := Jbe [] }
def J89 (F : Nat) : List (LoE Unit) := []
def Jqy (F : Nat) : Jck Unit := { toBook := Jxa, lo := Jdq (J89 F), need := Jbf [] }
theorem Kix (F : Nat) : Jkg prog (Jqy F) F := Jbp (l := J89 F) rfl fz
theorem Koa (F : Nat) (b : ZB) (x_ : Int) (kend : List BV → ZO) : Jau prog (Jqy F) F 20 93 [.d (.slc (.int .u8)) b, .f 94, .d (.int .i64) x_] [.o 5 (.int .u8)] kend = Kk7 F b x_ none (fun y0 => kend [BV.o 5 (.int .u8) y0]) := by kernel_rfl
theorem Jpc  : Jaf prog 93 (Orc.of [.d (.slc (.int .u8)), .f, .d (.int .i64)] true 1 fun x => ((Nat.beq x.2.1 94) && Jn0 x.1 x.2.1 x.2.2.1, [.o 5 (.int .u8) (Ji8 x.1 x.2.1 x.2.2.1)])) := Jdu (B0 := Jxa) bkN bkG Jax bkT (Jae (fa Jsp fz)) (by kernel_rfl) (fun x h => by
 obtain ⟨x0, x1, x2, _⟩ := x
 simp only [Bool.and_eq_true] at h
 obtain ⟨e, h⟩ := h
 have e := Nat.eq_of_beq_eq_true e
 subst e
 obtain ⟨F, hF⟩ := Kb0 x0 x2 h
 exact ⟨F, 20, Jqy F, rfl, Kix F, fun kend => (Koa F x0 x2 kend).trans (hF none (fun y0 => kend [BV.o 5 (.int .u8) y0]))⟩)
def Kiy  : Orc := Orc.of [.d (.slc (.int .u8)), .f, .d (.int .i64)] true 1 fun x => ((Nat.beq x.2.1 94) && Jn0 x.1 x.2.1 x.2.2.1, [.o 5 (.int .u8) (Ji8 x.1 x.2.1 x.2.2.1)])
theorem J6z  : Jaf prog 93 Kiy := Jik Jpc.1 (fun x h => by
 obtain ⟨x0, x1, x2, _⟩ := x
 simp only [Bool.and_eq_true] at h
 obtain ⟨e, _⟩ := h
 rcases e with e
 ·have e := Nat.eq_of_beq_eq_true e
  subst e
  exact ⟨_, Jpc, rfl⟩)
def Kiz  : List (FuncId × Orc) := [(96, Jm4)]
def Jxb  : Book := { Γ := gam, orc := Jb3 Kiz, hint := Jbe [] }
def J9a (F : Nat) : List (LoE Unit) := []
def Jqz (F : Nat) : Jck Unit := { toBook := Jxb, lo := Jdq (J9a F), need := Jbf [] }
theorem Ki0 (F : Nat) : Jkg prog (Jqz F) F := Jbp (l := J9a F) rfl fz
theorem Kob (F : Nat) (b x_ : ZB) (kend : List BV → ZO) : Jau prog (Jqz F) F 20 95 [.d (.slc (.int .u8)) b, .f 96, .d (.slc (.int .u8)) x_] [.o 5 (.int .u8)] kend = Kk8 F b x_ none (fun y0 => kend [BV.o 5 (.int .u8) y0]) := by kernel_rfl
theorem Jpd  : Jaf prog 95 (Orc.of [.d (.slc (.int .u8)), .f, .d (.slc (.int .u8))] true 1 fun x => ((Nat.beq x.2.1 96) && Jt1 x.1 x.2.1 x.2.2.1, [.o 5 (.int .u8) (Jp9 x.1 x.2.1 x.2.2.1)])) := Jdu (B0 := Jxb) bkN bkG Jax bkT (Jae (fa Jpk fz)) (by kernel_rfl) (fun x h => by
 obtain ⟨x0, x1, x2, _⟩ := x
 simp only [Bool.and_eq_true] at h
 obtain ⟨e, h⟩ := h
 have e := Nat.eq_of_beq_eq_true e
 subst e
 obtain ⟨F, hF⟩ := Kb1 x0 x2 h
 exact ⟨F, 20, Jqz F, rfl, Ki0 F, fun kend => (Kob F x0 x2 kend).trans (hF none (fun y0 => kend [BV.o 5 (.int .u8) y0]))⟩)
def Ki1  : Orc := Orc.of [.d (.slc (.int .u8)), .f, .d (.slc (.int .u8))] true 1 fun x => ((Nat.beq x.2.1 96) && Jt1 x.1 x.2.1 x.2.2.1, [.o 5 (.int .u8) (Jp9 x.1 x.2.1 x.2.2.1)])
theorem J60  : Jaf prog 95 Ki1 := Jik Jpd.1 (fun x h => by
 obtain ⟨x0, x1, x2, _⟩ := x
 simp only [Bool.and_eq_true] at h
 obtain ⟨e, _⟩ := h
 rcases e with e
 ·have e := Nat.eq_of_beq_eq_true e
  subst e
  exact ⟨_, Jpd, rfl⟩)
@[reducible] def Jm9  : List PM := [.d (.slc (.pair (.int .i64) (.pair (.slc (.int .u8)) .unit)))]
def J46  : Orc := Orc.of Jm9 true 1 fun x => (Jvy x.1, [.o 5 (.int .u8) (Jcw x.1), .d (.int .i64) (Jj2 x.1)])
@[reducible] def Jc0  : Tpl := { cur := ⟨[(5, .row 0), (10, .var (.slc (.pair (.int .i64) (.pair (.slc (.int .u8)) .unit)))), (0, .var (.int .i64)), (0, .var (.int .i64))], 15⟩, stk := [⟨[], 0⟩], heap := [.row 5 (.int .u8) false] }
def Ki2  : List (FuncId × Orc) := [(92, J88), (93, Kiy), (95, Ki1)]
def Jxc  : Book := { Γ := gam, orc := Jb3 Ki2, hint := Jbe [(54, { keep := some [5, 16, 17, 18], keeps := [(6, [5, 16, 17, 18])], own := [], dat := [], stk := [] })] }
def Ki3 (F : Nat) (nx : Jc0.T → ZO) (kq : ZK) (x : Jc0.T) : ZO := Jr5 F none (fun s16 s17 s18 b => nx (((), (s16, (s17, (s18, ())))), (((), ()), (b, ())))) (fun y0 y1 y2 y3 => kq (.exit 0) (Jc0.inst (((), (y0, (y1, (y2, ())))), (((), ()), (y3, ()))))) x.1.2.1 x.1.2.2.1 x.1.2.2.2.1 x.2.2.1
def Ki4 (F m : Nat) (x : Jc0.T) (kq : ZK) : ZO := Jfk F none (fun y0 y1 y2 y3 => kq (.exit 0) (Jc0.inst (((), (y0, (y1, (y2, ())))), (((), ()), (y3, ()))))) m x.1.2.1 x.1.2.2.1 x.1.2.2.2.1 x.2.2.1
def Jyw (F : Nat) : List (LoE Unit) := [⟨54, 6, LO.of Jc0 (Ki4 F F)⟩]
def Jq0 (F : Nat) : Jck Unit := { toBook := Jxc, lo := Jdq (Jyw F), need := Jbf [] }
def Ki5 (Jdb : (List ZR) → Bool) (Jc2 : (List ZR) → Int) (Jd3 : ZB → Nat → Int → Bool) (Jdp : ZB → Nat → Int → ZB) (Jec : ZB → Nat → ZB → Bool) (Jed : ZB → Nat → ZB → ZB) {X : Type} (F : Nat) (fail : X) (next ex0 : List ZR → Int → Int → ZB → X) (s16 : List ZR) (s17 s18 : Int) (b : ZB) : X :=
 bif (decide (s18 < s17)) then
  bif ((decide ((0 : Int) ≤ s18)) && (decide (s18 < ((s16.length : Nat) : Int)))) then
  bif (Jd3 b (94 : Nat) (List.getD s16 (s18).toNat ((0 : Int), (([] : ZB), ()))).1) then
  bif (Jec (Jdp b (94 : Nat) (List.getD s16 (s18).toNat ((0 : Int), (([] : ZB), ()))).1) (96 : Nat) (List.getD s16 (s18).toNat ((0 : Int), (([] : ZB), ()))).2.1) then
  next s16 s17 (Jat s18 (1 : Int)) (Jed (Jdp b (94 : Nat) (List.getD s16 (s18).toNat ((0 : Int), (([] : ZB), ()))).1) (96 : Nat) (List.getD s16 (s18).toNat ((0 : Int), (([] : ZB), ()))).2.1)
  else fail
  else fail
  else fail
 else
 ex0 s16 s17 s18 b
def Kz3 (Jdb : (List ZR) → Bool) (Jc2 : (List ZR) → Int) (Jd3 : ZB → Nat → Int → Bool) (Jdp : ZB → Nat → Int → ZB) (Jec : ZB → Nat → ZB → Bool) (Jed : ZB → Nat → ZB → ZB) {X : Type} (F : Nat) (l : List ZR) (fail : X) (ret : ZB → Int → X) : X :=
 bif (Jdb l) then
 bif ((Jc2 l) != (0 : Int)) then
  ret ([] : ZB) (Jc2 l)
 else
 bif (Jd3 ([] : ZB) (94 : Nat) ((l.length : Nat) : Int)) then
 Jfk F fail
  (fun (s16 : List ZR) (s17 : Int) (s18 : Int) (b : ZB) =>
   bif (decide (((b.length : Nat) : Int) > (65536 : Int))) then
    ret ([] : ZB) (5 : Int)
   else
   ret b (0 : Int))
  F l ((l.length : Nat) : Int) (0 : Int) (Jdp ([] : ZB) (94 : Nat) ((l.length : Nat) : Int))
 else fail
 else fail
def J61 (Jdb : (List ZR) → Bool) (Jc2 : (List ZR) → Int) (Jd3 : ZB → Nat → Int → Bool) (Jdp : ZB → Nat → Int → ZB) (Jec : ZB → Nat → ZB → Bool) (Jed : ZB → Nat → ZB → ZB) : List (FuncId × Orc) := [(92, Orc.of Jw9 true 0 fun x => (Jdb x.1, [.d (.int .i64) (Jc2 x.1)])), (93, Orc.of [.d (.slc (.int .u8)), .f, .d (.int .i64)] true 1 fun x => ((Nat.beq x.2.1 94) && Jd3 x.1 x.2.1 x.2.2.1, [.o 5 (.int .u8) (Jdp x.1 x.2.1 x.2.2.1)])), (95, Orc.of [.d (.slc (.int .u8)), .f, .d (.slc (.int .u8))] true 1 fun x => ((Nat.beq x.2.1 96) && Jec x.1 x.2.1 x.2.2.1, [.o 5 (.int .u8) (Jed x.1 x.2.1 x.2.2.1)]))]
def J47 (Jdb : (List ZR) → Bool) (Jc2 : (List ZR) → Int) (Jd3 : ZB → Nat → Int → Bool) (Jdp : ZB → Nat → Int → ZB) (Jec : ZB → Nat → ZB → Bool) (Jed : ZB → Nat → ZB → ZB) : Book := { Γ := gam, orc := Jb3 (J61 Jdb Jc2 Jd3 Jdp Jec Jed), hint := Jbe [(54, { keep := some [5, 16, 17, 18], keeps := [(6, [5, 16, 17, 18])], own := [], dat := [], stk := [] })] }
def Jtc (Jdb : (List ZR) → Bool) (Jc2 : (List ZR) → Int) (Jd3 : ZB → Nat → Int → Bool) (Jdp : ZB → Nat → Int → ZB) (Jec : ZB → Nat → ZB → Bool) (Jed : ZB → Nat → ZB → ZB) (F : Nat) : Jck Unit := { toBook := J47 Jdb Jc2 Jd3 Jdp Jec Jed, lo := Jdq (Jyw F), need := Jbf [] }
def J62 (Jdb : (List ZR) → Bool) (Jc2 : (List ZR) → Int) (Jd3 : ZB → Nat → Int → Bool) (Jdp : ZB → Nat → Int → ZB) (Jec : ZB → Nat → ZB → Bool) (Jed : ZB → Nat → ZB → ZB) (F : Nat) (nx : Jc0.T → ZO) (kq : ZK) (x : Jc0.T) : ZO := Ki5 Jdb Jc2 Jd3 Jdp Jec Jed F none (fun s16 s17 s18 b => nx (((), (s16, (s17, (s18, ())))), (((), ()), (b, ())))) (fun y0 y1 y2 y3 => kq (.exit 0) (Jc0.inst (((), (y0, (y1, (y2, ())))), (((), ()), (y3, ()))))) x.1.2.1 x.1.2.2.1 x.1.2.2.2.1 x.2.2.1
theorem Jyx (Jdb : (List ZR) → Bool) (Jc2 : (List ZR) → Int) (Jd3 : ZB → Nat → Int → Bool) (Jdp : ZB → Nat → Int → ZB) (Jec : ZB → Nat → ZB → Bool) (Jed : ZB → Nat → ZB → ZB) (F : Nat) : Jcr prog (Jtc Jdb Jc2 Jd3 Jdp Jec Jed F) F 54 0 6 Jc0 (J62 Jdb Jc2 Jd3 Jdp Jec Jed F) := fun d x KQ => by kernel_rfl
theorem Kdh (Jdb : (List ZR) → Bool) (Jc2 : (List ZR) → Int) (Jd3 : ZB → Nat → Int → Bool) (Jdp : ZB → Nat → Int → ZB) (Jec : ZB → Nat → ZB → Bool) (Jed : ZB → Nat → ZB → ZB) (F : Nat) (x : Jbd Jm9) (kend : List BV → ZO) : Jau prog (Jtc Jdb Jc2 Jd3 Jdp Jec Jed F) F 20 54 (Jag Jm9 x) [.o 5 (.int .u8), .d (.int .i64)] kend = Kz3 Jdb Jc2 Jd3 Jdp Jec Jed F x.1 none (fun y0 y1 => kend [BV.o 5 (.int .u8) y0, BV.d (.int .i64) y1]) := by kernel_rfl
theorem J48 (F : Nat) : Jcr prog (Jq0 F) F 54 0 6 Jc0 (Ki3 F) := Jyx Jru Jlx Jn0 Ji8 Jt1 Jp9 F
theorem Ki6 (F : Nat) : Jkg prog (Jq0 F) F := Jbp (l := Jyw F) rfl (fa (Jav 0 (by kernel_rfl) (by kernel_rfl) (Jal (J48 F) (fun _ _ => rfl) (fun _ _ _ _ => rfl))) fz)
theorem Koc (F : Nat) (x : Jbd Jm9) (kend : List BV → ZO) : Jau prog (Jq0 F) F 20 54 (Jag Jm9 x) [.o 5 (.int .u8), .d (.int .i64)] kend = Kk9 F x.1 none (fun y0 y1 => kend [BV.o 5 (.int .u8) y0, BV.d (.int .i64) y1]) := Kdh Jru Jlx Jn0 Ji8 Jt1 Jp9 F x kend
theorem J0n  : Jaf prog 54 J46 := Ja1 (B0 := Jxc) bkN bkG Jax bkT Koc (Jae (fa J45 (fa J6z (fa J60 fz)))) (by kernel_rfl) (fun _ => rfl) Ki6 (fun x h => (Kb2 x.1 h).elim fun F hF => ⟨F, fun kend => hF none _⟩)
@[reducible] def Jkc  : List PM := [.d (.slc (.int .u8))]
def J49  : Orc := Orc.of Jkc false 0 fun x => (Jiw x.1, [.d (.slc (.pair (.int .i64) (.pair (.slc (.int .u8)) .unit))) (Jei x.1), .d (.int .i64) (Jej x.1)])
@[reducible] def Jb6  : Tpl := { cur := ⟨[(1, .ptr 0 []), (0, .nils), (0, .var (.int .i64)), (2, .row 1), (12, .var (.int .i64)), (0, .var (.int .i64))], 24⟩, stk := [⟨[], 0⟩], heap := [.box (.var (.slc (.int .u8))), .row 84 (.pair (.int .i64) (.pair (.slc (.int .u8)) .unit)) false] }
def Ki7  : List (FuncId × Orc) := [(77, Jql), (80, Js3)]
def Jxd  : Book := { Γ := gam, orc := Jb3 Ki7, hint := Jbe [(49, { keep := some [1, 2, 3, 6, 19, 20], keeps := [(11, [1, 2, 3, 6, 19, 20])], own := [(6, 67)], dat := [], stk := [] })] }
def Ki8 (F : Nat) (nx : Jb6.T → ZO) (kq : ZK) (x : Jb6.T) : ZO := Jr6 F none (fun s3 s19 s20 b out => nx (((), ((), (s3, ((), (s19, (s20, ())))))), (((), ()), (b, (out, ()))))) (fun y0 y1 y2 y3 y4 => kq .ret (Jb6.inst (((), ((), (y0, ((), (y1, (y2, ())))))), (((), ()), (y3, (y4, ())))))) (fun y0 y1 y2 y3 y4 => kq (.exit 0) (Jb6.inst (((), ((), (y0, ((), (y1, (y2, ())))))), (((), ()), (y3, (y4, ())))))) x.1.2.2.1 x.1.2.2.2.2.1 x.1.2.2.2.2.2.1 x.2.2.1 x.2.2.2.1
def Ki9 (F m : Nat) (x : Jb6.T) (kq : ZK) : ZO := Jeu F none (fun y0 y1 y2 y3 y4 => kq .ret (Jb6.inst (((), ((), (y0, ((), (y1, (y2, ())))))), (((), ()), (y3, (y4, ())))))) (fun y0 y1 y2 y3 y4 => kq (.exit 0) (Jb6.inst (((), ((), (y0, ((), (y1, (y2, ())))))), (((), ()), (y3, (y4, ())))))) m x.1.2.2.1 x.1.2.2.2.2.1 x.1.2.2.2.2.2.1 x.2.2.1 x.2.2.2.1
def Jyy (F : Nat) : List (LoE Unit) := [⟨49, 11, LO.of Jb6 (Ki9 F F)⟩]
def Jq1 (F : Nat) : Jck Unit := { toBook := Jxd, lo := Jdq (Jyy F), need := Jbf [(49, 1)] }
def Kja (Jb1 : ZB → Bool) (Ja3 : ZB → Int) (Jao : ZB → ZB) (Jaz : ZB → Int) (Jbj : ZB → Bool) (Ja5 Ja6 : ZB → ZB) (Ja0 : ZB → Int) {X : Type} (F : Nat) (fail : X) (next ex0 ex1 : Int → Int → Int → ZB → List ZR → X) (s3 s19 s20 : Int) (b : ZB) (out : List ZR) : X :=
 bif (decide (s20 < s19)) then
  bif (Jb1 b) then
  bif ((Jaz b) == (0 : Int)) then
   bif ((Jaz b) != (0 : Int)) then
    ex0 (Jaz b) s19 s20 (Jao b) out
   else
   bif (decide ((Ja3 b) ≥ (1 : Int))) then
    bif (!(decide ((Ja3 b) ≤ (4 : Int)))) then
     ex0 (1 : Int) s19 s20 (Jao b) out
    else
    bif (Jbj (Jao b)) then
    bif ((Ja0 (Jao b)) == (0 : Int)) then
     bif ((Ja0 (Jao b)) != (0 : Int)) then
      ex0 (Ja0 (Jao b)) s19 s20 (Ja6 (Jao b)) out
     else
     bif (decide ((out ++ ([((Ja3 b), ((Ja5 (Jao b)), ()))] : List ZR)).length ≤ big)) then
     next s3 s19 (Jat s20 (1 : Int)) (Ja6 (Jao b)) (out ++ ([((Ja3 b), ((Ja5 (Jao b)), ()))] : List ZR))
     else fail
    else
    bif ((Ja0 (Jao b)) != (0 : Int)) then
     ex0 (Ja0 (Jao b)) s19 s20 (Jao b) out
    else
    bif (decide ((out ++ ([((Ja3 b), (([] : ZB), ()))] : List ZR)).length ≤ big)) then
    next s3 s19 (Jat s20 (1 : Int)) (Jao b) (out ++ ([((Ja3 b), (([] : ZB), ()))] : List ZR))
    else fail
    else fail
   else
   ex0 (1 : Int) s19 s20 (Jao b) out
  else
  bif ((Jaz b) != (0 : Int)) then
   ex0 (Jaz b) s19 s20 b out
  else
  ex0 (1 : Int) s19 s20 b out
  else fail
 else
 ex1 s3 s19 s20 b out
def Kz4 (Jb1 : ZB → Bool) (Ja3 : ZB → Int) (Jao : ZB → ZB) (Jaz : ZB → Int) (Jbj : ZB → Bool) (Ja5 Ja6 : ZB → ZB) (Ja0 : ZB → Int) {X : Type} (F : Nat) (b : ZB) (fail : X) (ret : List ZR → Int → X) : X :=
 bif (decide (((b.length : Nat) : Int) > (65536 : Int))) then
  ret ([] : List ZR) (5 : Int)
 else
 bif (Jb1 b) then
 bif ((Jaz b) == (0 : Int)) then
  bif ((Jaz b) != (0 : Int)) then
   ret ([] : List ZR) (Jaz b)
  else
  bif (decide ((Ja3 b) > (1024 : Int))) then
   ret ([] : List ZR) (6 : Int)
  else
  Jeu F fail
   (fun (s3 : Int) (s19 : Int) (s20 : Int) (b1 : ZB) (out : List ZR) =>
    ret ([] : List ZR) s3)
   (fun (s31 : Int) (s191 : Int) (s201 : Int) (b2 : ZB) (out1 : List ZR) =>
    bif (decide (((b2.length : Nat) : Int) > (0 : Int))) then
     ret ([] : List ZR) (3 : Int)
    else
    ret out1 (0 : Int))
   F (0 : Int) (Ja3 b) (0 : Int) (Jao b) ([] : List ZR)
 else
 bif ((Jaz b) != (0 : Int)) then
  ret ([] : List ZR) (Jaz b)
 else
 Jeu F fail
  (fun (s32 : Int) (s192 : Int) (s202 : Int) (b3 : ZB) (out2 : List ZR) =>
   ret ([] : List ZR) s32)
  (fun (s33 : Int) (s193 : Int) (s203 : Int) (b4 : ZB) (out3 : List ZR) =>
   bif (decide (((b4.length : Nat) : Int) > (0 : Int))) then
    ret ([] : List ZR) (3 : Int)
   else
   ret out3 (0 : Int))
  F (0 : Int) (0 : Int) (0 : Int) b ([] : List ZR)
 else fail
def J63 (Jb1 : ZB → Bool) (Ja3 : ZB → Int) (Jao : ZB → ZB) (Jaz : ZB → Int) (Jbj : ZB → Bool) (Ja5 Ja6 : ZB → ZB) (Ja0 : ZB → Int) : List (FuncId × Orc) := [(77, Orc.of Jop false 0 fun x => (Jb1 x.1, [.d (.int .i64) (Ja3 x.1), .d (.slc (.int .u8)) (Jao x.1), .d (.int .i64) (Jaz x.1)])), (80, Orc.of Jjv false 0 fun x => (Jbj x.1, [.d (.slc (.int .u8)) (Ja5 x.1), .d (.slc (.int .u8)) (Ja6 x.1), .d (.int .i64) (Ja0 x.1)]))]
def J5a (Jb1 : ZB → Bool) (Ja3 : ZB → Int) (Jao : ZB → ZB) (Jaz : ZB → Int) (Jbj : ZB → Bool) (Ja5 Ja6 : ZB → ZB) (Ja0 : ZB → Int) : Book := { Γ := gam, orc := Jb3 (J63 Jb1 Ja3 Jao Jaz Jbj Ja5 Ja6 Ja0), hint := Jbe [(49, { keep := some [1, 2, 3, 6, 19, 20], keeps := [(11, [1, 2, 3, 6, 19, 20])], own := [(6, 67)], dat := [], stk := [] })] }
def Jtd (Jb1 : ZB → Bool) (Ja3 : ZB → Int) (Jao : ZB → ZB) (Jaz : ZB → Int) (Jbj : ZB → Bool) (Ja5 Ja6 : ZB → ZB) (Ja0 : ZB → Int) (F : Nat) : Jck Unit := { toBook := J5a Jb1 Ja3 Jao Jaz Jbj Ja5 Ja6 Ja0, lo := Jdq (Jyy F), need := Jbf [(49, 1)] }
def J64 (Jb1 : ZB → Bool) (Ja3 : ZB → Int) (Jao : ZB → ZB) (Jaz : ZB → Int) (Jbj : ZB → Bool) (Ja5 Ja6 : ZB → ZB) (Ja0 : ZB → Int) (F : Nat) (nx : Jb6.T → ZO) (kq : ZK) (x : Jb6.T) : ZO := Kja Jb1 Ja3 Jao Jaz Jbj Ja5 Ja6 Ja0 F none (fun s3 s19 s20 b out => nx (((), ((), (s3, ((), (s19, (s20, ())))))), (((), ()), (b, (out, ()))))) (fun y0 y1 y2 y3 y4 => kq .ret (Jb6.inst (((), ((), (y0, ((), (y1, (y2, ())))))), (((), ()), (y3, (y4, ())))))) (fun y0 y1 y2 y3 y4 => kq (.exit 0) (Jb6.inst (((), ((), (y0, ((), (y1, (y2, ())))))), (((), ()), (y3, (y4, ())))))) x.1.2.2.1 x.1.2.2.2.2.1 x.1.2.2.2.2.2.1 x.2.2.1 x.2.2.2.1
theorem Jyz (Jb1 : ZB → Bool) (Ja3 : ZB → Int) (Jao : ZB → ZB) (Jaz : ZB → Int) (Jbj : ZB → Bool) (Ja5 Ja6 : ZB → ZB) (Ja0 : ZB → Int) (F : Nat) : Jcr prog (Jtd Jb1 Ja3 Jao Jaz Jbj Ja5 Ja6 Ja0 F) F 49 0 11 Jb6 (J64 Jb1 Ja3 Jao Jaz Jbj Ja5 Ja6 Ja0 F) := fun d x KQ => by kernel_rfl
theorem Kdi (Jb1 : ZB → Bool) (Ja3 : ZB → Int) (Jao : ZB → ZB) (Jaz : ZB → Int) (Jbj : ZB → Bool) (Ja5 Ja6 : ZB → ZB) (Ja0 : ZB → Int) (F : Nat) (x : Jbd Jkc) (kend : List BV → ZO) : Jau prog (Jtd Jb1 Ja3 Jao Jaz Jbj Ja5 Ja6 Ja0 F) F 20 49 (Jag Jkc x) [.d (.slc (.pair (.int .i64) (.pair (.slc (.int .u8)) .unit))), .d (.int .i64)] kend = Kz4 Jb1 Ja3 Jao Jaz Jbj Ja5 Ja6 Ja0 F x.1 none (fun y0 y1 => kend [BV.d (.slc (.pair (.int .i64) (.pair (.slc (.int .u8)) .unit))) y0, BV.d (.int .i64) y1]) := by kernel_rfl
theorem J5b (F : Nat) : Jcr prog (Jq1 F) F 49 0 11 Jb6 (Ki8 F) := Jyz Jef Jan Jam Ja9 Jff Jdz Jd0 Jch F
theorem Kjb (F : Nat) : Jkg prog (Jq1 F) F := Jbp (l := Jyy F) rfl (fa (Jav 0 (by kernel_rfl) (by kernel_rfl) (Jal (J5b F) (fun _ _ => rfl) (fun _ _ _ _ => rfl))) fz)
theorem Kod (F : Nat) (x : Jbd Jkc) (kend : List BV → ZO) : Jau prog (Jq1 F) F 20 49 (Jag Jkc x) [.d (.slc (.pair (.int .i64) (.pair (.slc (.int .u8)) .unit))), .d (.int .i64)] kend = Kla F x.1 none (fun y0 y1 => kend [BV.d (.slc (.pair (.int .i64) (.pair (.slc (.int .u8)) .unit))) y0, BV.d (.int .i64) y1]) := Kdi Jef Jan Jam Ja9 Jff Jdz Jd0 Jch F x kend
theorem J0o  : Jaf prog 49 J49 := Ja1 (B0 := Jxd) bkN bkG Jax bkT Kod (Jae (fa Jm3 (fa Juc fz))) (by kernel_rfl) (fun _ => rfl) Kjb (fun x h => (Kb4 x.1 h).elim fun F hF => ⟨F, fun kend => hF none _⟩)
end Go.AI
namespace Go.AI
open Go
open Go.Proofs.Tryz (prog)
set_option linter.unusedVariables false
@[reducible] def Jy0  : List PM := [.d (.pair (.int .i64) (.pair (.int .i64) (.pair (.int .i64) .unit))), .d (.slc (.int .u8)), .d (.slc (.pair (.int .i64) (.pair (.slc (.int .u8)) .unit)))]
def Juo  : Orc := Orc.of Jy0 false 0 fun x => (Jvz x.1 x.2.1 x.2.2.1, [.d (.pair (.int .i64) (.pair (.int .i64) (.pair (.int .i64) .unit))) (Je4 x.1 x.2.1 x.2.2.1), .d (.slc (.pair (.int .i64) (.pair (.int .i64) (.pair (.slc (.arr 16 (.int .u8))) .unit)))) (Jac x.1 x.2.1 x.2.2.1), .d (.int .i64) (Jmq x.1 x.2.1 x.2.2.1)])
def Jz0  : List (FuncId × Orc) := [(11, J41), (33, Jys), (54, J46), (55, Kh3)]
theorem Koe (F : Nat) (x : Jbd Jy0) (kend : List BV → ZO) : Jau prog (bkZ Jz0) F 20 24 (Jag Jy0 x) [.d (.pair (.int .i64) (.pair (.int .i64) (.pair (.int .i64) .unit))), .d (.slc (.pair (.int .i64) (.pair (.int .i64) (.pair (.slc (.arr 16 (.int .u8))) .unit)))), .d (.int .i64)] kend = Klb F x.1 x.2.1 x.2.2.1 none (fun y0 y1 y2 => kend [BV.d (.pair (.int .i64) (.pair (.int .i64) (.pair (.int .i64) .unit))) y0, BV.d (.slc (.pair (.int .i64) (.pair (.int .i64) (.pair (.slc (.arr 16 (.int .u8))) .unit)))) y1, BV.d (.int .i64) y2]) := by kernel_rfl
theorem Jpe  : Jaf prog 24 Juo := Ja1 (B0 := bkY Jz0) bkN bkG Jax bkT Koe (Jae (fa J0m (fa Jqu (fa J0n (fa J6m fz))))) (by kernel_rfl) (fun _ => rfl) (bkO _) (fun x h => (Kb8 x.1 x.2.1 x.2.2.1 h).elim fun F hF => ⟨F, fun kend => hF none _⟩)
end Go.AI
namespace Go.AI
open Go
open Go.Proofs.Tryz (prog)
set_option linter.unusedVariables false
@[reducible] def Jna  : List PM := [.d (.pair (.slc (.arr 16 (.int .u8))) (.pair (.slc (.pair (.int .i64) (.pair (.arr 16 (.int .u8)) .unit))) .unit)), .d (.slc (.int .u8))]
def Jup  : Orc := Orc.of Jna false 0 fun x => (Jkv x.1 x.2.1, [.d (.pair (.int .i64) (.pair (.int .i64) (.pair (.int .i64) .unit))) (Jbt x.1 x.2.1), .d (.slc (.slc (.pair (.int .i64) (.pair (.slc (.int .u8)) .unit)))) (Jbk x.1 x.2.1), .d (.int .i64) (Jic x.1 x.2.1)])
@[reducible] def Jc1  : Tpl := { cur := ⟨[(0, .hnd .yield 0), (1, .ptr 6 []), (4, .var (.slc (.slc (.int .u8)))), (0, .var (.int .i64)), (0, .var (.int .i64))], 21⟩, stk := [⟨[(0, .hnd .yield 0)], 0⟩, ⟨[(1, .var (.slc (.int .u8))), (2, .ptr 1 []), (0, .ptr 2 []), (0, .ptr 3 []), (0, .ptr 7 []), (2, .ptr 4 [])], 39⟩, ⟨[], 0⟩], heap := [.lp 20 8 ⟨[(4, .ptr 1 []), (0, .ptr 2 []), (0, .ptr 3 []), (3, .ptr 4 [])], 39⟩ .ready, .box (.var (.pair (.int .i64) (.pair (.int .i64) (.pair (.int .i64) .unit)))), .box (.nils), .box (.var (.int .i64)), .box (.row 5), .row 67 (.slc (.pair (.int .i64) (.pair (.slc (.int .u8)) .unit))) false, .box (.var (.slc (.int .u8))), .box (.var (.pair (.int .i64) (.pair (.int .i64) (.pair (.int .i64) .unit))))] }
@[reducible] def Jox  : Tpl := { cur := ⟨[(0, .hnd .yield 0), (1, .ptr 6 []), (4, .var (.slc (.slc (.int .u8)))), (0, .var (.int .i64)), (0, .var (.int .i64))], 21⟩, stk := [⟨[(0, .hnd .yield 0)], 0⟩, ⟨[(1, .var (.slc (.int .u8))), (2, .ptr 1 []), (0, .ptr 2 []), (0, .ptr 3 []), (0, .ptr 7 []), (2, .ptr 4 [])], 39⟩, ⟨[], 0⟩], heap := [.lp 20 8 ⟨[(4, .ptr 1 []), (0, .ptr 2 []), (0, .ptr 3 []), (3, .ptr 4 [])], 39⟩ (.done .ret), .box (.var (.pair (.int .i64) (.pair (.int .i64) (.pair (.int .i64) .unit)))), .box (.nils), .box (.var (.int .i64)), .box (.row 5), .row 67 (.slc (.pair (.int .i64) (.pair (.slc (.int .u8)) .unit))) false, .box (.var (.slc (.int .u8))), .box (.var (.pair (.int .i64) (.pair (.int .i64) (.pair (.int .i64) .unit))))] }
def Kjc  : List (FuncId × Orc) := [(15, Kiu), (49, J49), (75, Kh4)]
def Jxe  : Book := { Γ := gam, orc := Jb3 Kjc, hint := Jbe [(20, { keep := some [], keeps := [], own := [], dat := [], stk := [], rgb := [(5007, [(10, 0, 49)])] }), (74, { keep := some [0, 2, 7, 8, 9], keeps := [(1, [0, 2, 7, 8, 9])], own := [], dat := [], stk := [[0], [1, 4, 5, 6, 7, 10, 11, 12, 13, 31, 32, 34, 41]] })] }
def Kjd (F : Nat) (nx : Jc1.T → ZO) (kq : ZK) (x : Jc1.T) : ZO := Jr8 F none (fun s7 s8 s9 key s4 s6 out s2 l => nx (((), ((), (s7, (s8, (s9, ()))))), ((((), ()), ((key, ((), ((), ((), ((), ((), ())))))), ((), ()))), (((), ((), ((), ((), ())))), (s4, ((), (s6, ((), (out, (s2, (l, ()))))))))))) (fun y0 y1 y2 y3 y4 y5 y6 y7 y8 => kq .ret (Jox.inst (((), ((), (y0, (y1, (y2, ()))))), ((((), ()), ((y3, ((), ((), ((), ((), ((), ())))))), ((), ()))), (((), ((), ((), ((), ())))), (y4, ((), (y5, ((), (y6, (y7, (y8, ())))))))))))) (fun y0 y1 y2 y3 y4 y5 y6 y7 y8 => kq (.exit 0) (Jc1.inst (((), ((), (y0, (y1, (y2, ()))))), ((((), ()), ((y3, ((), ((), ((), ((), ((), ())))))), ((), ()))), (((), ((), ((), ((), ())))), (y4, ((), (y5, ((), (y6, (y7, (y8, ())))))))))))) x.1.2.2.1 x.1.2.2.2.1 x.1.2.2.2.2.1 x.2.1.2.1.1 x.2.2.2.1 x.2.2.2.2.2.1 x.2.2.2.2.2.2.2.1 x.2.2.2.2.2.2.2.2.1 x.2.2.2.2.2.2.2.2.2.1
def Kje (F m : Nat) (x : Jc1.T) (kq : ZK) : ZO := Jgj F none (fun y0 y1 y2 y3 y4 y5 y6 y7 y8 => kq .ret (Jox.inst (((), ((), (y0, (y1, (y2, ()))))), ((((), ()), ((y3, ((), ((), ((), ((), ((), ())))))), ((), ()))), (((), ((), ((), ((), ())))), (y4, ((), (y5, ((), (y6, (y7, (y8, ())))))))))))) (fun y0 y1 y2 y3 y4 y5 y6 y7 y8 => kq (.exit 0) (Jc1.inst (((), ((), (y0, (y1, (y2, ()))))), ((((), ()), ((y3, ((), ((), ((), ((), ((), ())))))), ((), ()))), (((), ((), ((), ((), ())))), (y4, ((), (y5, ((), (y6, (y7, (y8, ())))))))))))) m x.1.2.2.1 x.1.2.2.2.1 x.1.2.2.2.2.1 x.2.1.2.1.1 x.2.2.2.1 x.2.2.2.2.2.1 x.2.2.2.2.2.2.2.1 x.2.2.2.2.2.2.2.2.1 x.2.2.2.2.2.2.2.2.2.1
def Jy1 (F : Nat) : List (LoE Unit) := [⟨74, 1, LO.of Jc1 (Kje F F)⟩]
def Jq2 (F : Nat) : Jck Unit := { toBook := Jxe, lo := Jdq (Jy1 F), need := Jbf [(74, 1)] }
def Kjf (Jeb : (ZD) → Bool) (Jdc : (ZD) → (ZL)) (Jc4 : (ZD) → (List ZB)) (Jc3 : (ZD) → Int) (Jcc : ZB → Bool) (Jbr : ZB → (List ZR)) (Jbq : ZB → Int) (Jea : ZB → Int → ZB → Bool) (Jcd : ZB → Int → ZB → ZB) (Jct : ZB → Int → ZB → Int) {X : Type} (F : Nat) (fail : X) (next ex0 ex1 : List ZB → Int → Int → ZB → ZL → Int → List (List ZR) → ZB → ZL → X) (s7 : List ZB) (s8 s9 : Int) (key : ZB) (s4 : ZL) (s6 : Int) (out : List (List ZR)) (s2 : ZB) (l : ZL) : X :=
 bif (decide (s9 < s8)) then
  bif ((decide ((0 : Int) ≤ s9)) && (decide (s9 < ((s7.length : Nat) : Int)))) then
  bif (decide (((s2.length : Nat) : Int) > (0 : Int))) then
   bif (Jea s2 (Jat s9 (1 : Int)) (List.getD s7 (s9).toNat ([] : ZB))) then
   bif ((Jct s2 (Jat s9 (1 : Int)) (List.getD s7 (s9).toNat ([] : ZB))) == (0 : Int)) then
    bif (Jcc (Jcd s2 (Jat s9 (1 : Int)) (List.getD s7 (s9).toNat ([] : ZB)))) then
    bif ((Jbq (Jcd s2 (Jat s9 (1 : Int)) (List.getD s7 (s9).toNat ([] : ZB)))) != (0 : Int)) then
     ex0 s7 s8 s9 key ((0 : Int), ((0 : Int), ((0 : Int), ()))) (Jbq (Jcd s2 (Jat s9 (1 : Int)) (List.getD s7 (s9).toNat ([] : ZB)))) out s2 l
    else
    bif (decide ((out ++ ([(Jbr (Jcd s2 (Jat s9 (1 : Int)) (List.getD s7 (s9).toNat ([] : ZB))))] : List (List ZR))).length ≤ big)) then
    next s7 s8 (Jat s9 (1 : Int)) key s4 s6 (out ++ ([(Jbr (Jcd s2 (Jat s9 (1 : Int)) (List.getD s7 (s9).toNat ([] : ZB))))] : List (List ZR))) s2 l
    else fail
    else fail
   else
   bif ((Jct s2 (Jat s9 (1 : Int)) (List.getD s7 (s9).toNat ([] : ZB))) != (0 : Int)) then
    ex0 s7 s8 s9 key ((0 : Int), ((0 : Int), ((0 : Int), ()))) (Jct s2 (Jat s9 (1 : Int)) (List.getD s7 (s9).toNat ([] : ZB))) out s2 l
   else
   bif (decide ((out ++ ([([] : List ZR)] : List (List ZR))).length ≤ big)) then
   next s7 s8 (Jat s9 (1 : Int)) key s4 s6 (out ++ ([([] : List ZR)] : List (List ZR))) s2 l
   else fail
   else fail
  else
  bif (Jcc (List.getD s7 (s9).toNat ([] : ZB))) then
  bif ((Jbq (List.getD s7 (s9).toNat ([] : ZB))) != (0 : Int)) then
   ex0 s7 s8 s9 key ((0 : Int), ((0 : Int), ((0 : Int), ()))) (Jbq (List.getD s7 (s9).toNat ([] : ZB))) out s2 l
  else
  bif (decide ((out ++ ([(Jbr (List.getD s7 (s9).toNat ([] : ZB)))] : List (List ZR))).length ≤ big)) then
  next s7 s8 (Jat s9 (1 : Int)) key s4 s6 (out ++ ([(Jbr (List.getD s7 (s9).toNat ([] : ZB)))] : List (List ZR))) s2 l
  else fail
  else fail
  else fail
 else
 ex1 s7 s8 s9 key s4 s6 out s2 l
def Kz5 (Jeb : (ZD) → Bool) (Jdc : (ZD) → (ZL)) (Jc4 : (ZD) → (List ZB)) (Jc3 : (ZD) → Int) (Jcc : ZB → Bool) (Jbr : ZB → (List ZR)) (Jbq : ZB → Int) (Jea : ZB → Int → ZB → Bool) (Jcd : ZB → Int → ZB → ZB) (Jct : ZB → Int → ZB → Int) {X : Type} (F : Nat) (d_ : ZD) (key : ZB) (fail : X) (ret : ZL → List (List ZR) → Int → X) : X :=
 bif (Jeb d_) then
 bif ((Jc3 d_) != (0 : Int)) then
  ret ((0 : Int), ((0 : Int), ((0 : Int), ()))) ([] : List (List ZR)) (Jc3 d_)
 else
 bif (decide (((key.length : Nat) : Int) > (64 : Int))) then
  ret ((0 : Int), ((0 : Int), ((0 : Int), ()))) ([] : List (List ZR)) (1 : Int)
 else
 Jgj F fail
  (fun (s7 : List ZB) (s8 : Int) (s9 : Int) (Jp7 : ZB) (s4 : ZL) (s6 : Int) (out : List (List ZR)) (s2 : ZB) (l : ZL) =>
   ret s4 ([] : List (List ZR)) s6)
  (fun (s71 : List ZB) (s81 : Int) (s91 : Int) (key2 : ZB) (s41 : ZL) (s61 : Int) (out1 : List (List ZR)) (s21 : ZB) (l1 : ZL) =>
   ret l1 out1 (0 : Int))
  F (Jc4 d_) (((Jc4 d_).length : Nat) : Int) (0 : Int) key ((0 : Int), ((0 : Int), ((0 : Int), ()))) (0 : Int) ([] : List (List ZR)) key (Jdc d_)
 else fail
def J65 (Jeb : (ZD) → Bool) (Jdc : (ZD) → (ZL)) (Jc4 : (ZD) → (List ZB)) (Jc3 : (ZD) → Int) (Jcc : ZB → Bool) (Jbr : ZB → (List ZR)) (Jbq : ZB → Int) (Jea : ZB → Int → ZB → Bool) (Jcd : ZB → Int → ZB → ZB) (Jct : ZB → Int → ZB → Int) : List (FuncId × Orc) := [(15, Orc.of J1p false 0 fun x => (Jeb x.1, [.d (.pair (.int .i64) (.pair (.int .i64) (.pair (.int .i64) .unit))) (Jdc x.1), .d (.slc (.slc (.int .u8))) (Jc4 x.1), .d (.int .i64) (Jc3 x.1)])), (49, Orc.of Jkc false 0 fun x => (Jcc x.1, [.d (.slc (.pair (.int .i64) (.pair (.slc (.int .u8)) .unit))) (Jbr x.1), .d (.int .i64) (Jbq x.1)])), (75, Orc.of J1o true 1 fun x => (Jea x.1 x.2.1 x.2.2.1, [.o 5 (.int .u8) (Jcd x.1 x.2.1 x.2.2.1), .d (.int .i64) (Jct x.1 x.2.1 x.2.2.1)]))]
def J5c (Jeb : (ZD) → Bool) (Jdc : (ZD) → (ZL)) (Jc4 : (ZD) → (List ZB)) (Jc3 : (ZD) → Int) (Jcc : ZB → Bool) (Jbr : ZB → (List ZR)) (Jbq : ZB → Int) (Jea : ZB → Int → ZB → Bool) (Jcd : ZB → Int → ZB → ZB) (Jct : ZB → Int → ZB → Int) : Book := { Γ := gam, orc := Jb3 (J65 Jeb Jdc Jc4 Jc3 Jcc Jbr Jbq Jea Jcd Jct), hint := Jbe [(20, { keep := some [], keeps := [], own := [], dat := [], stk := [], rgb := [(5007, [(10, 0, 49)])] }), (74, { keep := some [0, 2, 7, 8, 9], keeps := [(1, [0, 2, 7, 8, 9])], own := [], dat := [], stk := [[0], [1, 4, 5, 6, 7, 10, 11, 12, 13, 31, 32, 34, 41]] })] }
def Jte (Jeb : (ZD) → Bool) (Jdc : (ZD) → (ZL)) (Jc4 : (ZD) → (List ZB)) (Jc3 : (ZD) → Int) (Jcc : ZB → Bool) (Jbr : ZB → (List ZR)) (Jbq : ZB → Int) (Jea : ZB → Int → ZB → Bool) (Jcd : ZB → Int → ZB → ZB) (Jct : ZB → Int → ZB → Int) (F : Nat) : Jck Unit := { toBook := J5c Jeb Jdc Jc4 Jc3 Jcc Jbr Jbq Jea Jcd Jct, lo := Jdq (Jy1 F), need := Jbf [(74, 1)] }
def J66 (Jeb : (ZD) → Bool) (Jdc : (ZD) → (ZL)) (Jc4 : (ZD) → (List ZB)) (Jc3 : (ZD) → Int) (Jcc : ZB → Bool) (Jbr : ZB → (List ZR)) (Jbq : ZB → Int) (Jea : ZB → Int → ZB → Bool) (Jcd : ZB → Int → ZB → ZB) (Jct : ZB → Int → ZB → Int) (F : Nat) (nx : Jc1.T → ZO) (kq : ZK) (x : Jc1.T) : ZO := Kjf Jeb Jdc Jc4 Jc3 Jcc Jbr Jbq Jea Jcd Jct F none (fun s7 s8 s9 key s4 s6 out s2 l => nx (((), ((), (s7, (s8, (s9, ()))))), ((((), ()), ((key, ((), ((), ((), ((), ((), ())))))), ((), ()))), (((), ((), ((), ((), ())))), (s4, ((), (s6, ((), (out, (s2, (l, ()))))))))))) (fun y0 y1 y2 y3 y4 y5 y6 y7 y8 => kq .ret (Jox.inst (((), ((), (y0, (y1, (y2, ()))))), ((((), ()), ((y3, ((), ((), ((), ((), ((), ())))))), ((), ()))), (((), ((), ((), ((), ())))), (y4, ((), (y5, ((), (y6, (y7, (y8, ())))))))))))) (fun y0 y1 y2 y3 y4 y5 y6 y7 y8 => kq (.exit 0) (Jc1.inst (((), ((), (y0, (y1, (y2, ()))))), ((((), ()), ((y3, ((), ((), ((), ((), ((), ())))))), ((), ()))), (((), ((), ((), ((), ())))), (y4, ((), (y5, ((), (y6, (y7, (y8, ())))))))))))) x.1.2.2.1 x.1.2.2.2.1 x.1.2.2.2.2.1 x.2.1.2.1.1 x.2.2.2.1 x.2.2.2.2.2.1 x.2.2.2.2.2.2.2.1 x.2.2.2.2.2.2.2.2.1 x.2.2.2.2.2.2.2.2.2.1
theorem Jy2 (Jeb : (ZD) → Bool) (Jdc : (ZD) → (ZL)) (Jc4 : (ZD) → (List ZB)) (Jc3 : (ZD) → Int) (Jcc : ZB → Bool) (Jbr : ZB → (List ZR)) (Jbq : ZB → Int) (Jea : ZB → Int → ZB → Bool) (Jcd : ZB → Int → ZB → ZB) (Jct : ZB → Int → ZB → Int) (F : Nat) : Jcr prog (Jte Jeb Jdc Jc4 Jc3 Jcc Jbr Jbq Jea Jcd Jct F) F 74 0 1 Jc1 (J66 Jeb Jdc Jc4 Jc3 Jcc Jbr Jbq Jea Jcd Jct F) := fun d x KQ => by kernel_rfl
theorem Kdj (Jeb : (ZD) → Bool) (Jdc : (ZD) → (ZL)) (Jc4 : (ZD) → (List ZB)) (Jc3 : (ZD) → Int) (Jcc : ZB → Bool) (Jbr : ZB → (List ZR)) (Jbq : ZB → Int) (Jea : ZB → Int → ZB → Bool) (Jcd : ZB → Int → ZB → ZB) (Jct : ZB → Int → ZB → Int) (F : Nat) (x : Jbd Jna) (kend : List BV → ZO) : Jau prog (Jte Jeb Jdc Jc4 Jc3 Jcc Jbr Jbq Jea Jcd Jct F) F 20 20 (Jag Jna x) [.d (.pair (.int .i64) (.pair (.int .i64) (.pair (.int .i64) .unit))), .d (.slc (.slc (.pair (.int .i64) (.pair (.slc (.int .u8)) .unit)))), .d (.int .i64)] kend = Kz5 Jeb Jdc Jc4 Jc3 Jcc Jbr Jbq Jea Jcd Jct F x.1 x.2.1 none (fun y0 y1 y2 => kend [BV.d (.pair (.int .i64) (.pair (.int .i64) (.pair (.int .i64) .unit))) y0, BV.d (.slc (.slc (.pair (.int .i64) (.pair (.slc (.int .u8)) .unit)))) y1, BV.d (.int .i64) y2]) := by kernel_rfl
theorem J5d (F : Nat) : Jcr prog (Jq2 F) F 74 0 1 Jc1 (Kjd F) := Jy2 Ji7 Jnz Jlv Jlw Jiw Jei Jej Jx0 Jhq Jji F
theorem Kjg (F : Nat) : Jkg prog (Jq2 F) F := Jbp (l := Jy1 F) rfl (fa (Jav 0 (by kernel_rfl) (by kernel_rfl) (Jal (J5d F) (fun _ _ => rfl) (fun _ _ _ _ => rfl))) fz)
theorem Kof (F : Nat) (x : Jbd Jna) (kend : List BV → ZO) : Jau prog (Jq2 F) F 20 20 (Jag Jna x) [.d (.pair (.int .i64) (.pair (.int .i64) (.pair (.int .i64) .unit))), .d (.slc (.slc (.pair (.int .i64) (.pair (.slc (.int .u8)) .unit)))), .d (.int .i64)] kend = Klc F x.1 x.2.1 none (fun y0 y1 y2 => kend [BV.d (.pair (.int .i64) (.pair (.int .i64) (.pair (.int .i64) .unit))) y0, BV.d (.slc (.slc (.pair (.int .i64) (.pair (.slc (.int .u8)) .unit)))) y1, BV.d (.int .i64) y2]) := Kdj Ji7 Jnz Jlv Jlw Jiw Jei Jej Jx0 Jhq Jji F x kend
theorem Jpf  : Jaf prog 20 Jup := Ja1 (B0 := Jxe) bkN bkG Jax bkT Kof (Jae (fa J6x (fa J0o (fa J6n fz)))) (by kernel_rfl) (fun _ => rfl) Kjg (fun x h => (Kcb x.1 x.2.1 h).elim fun F hF => ⟨F, fun kend => hF none _⟩)
end Go.AI
namespace Go.AI
open Go
open Go.Proofs.Tryz (prog)
set_option linter.unusedVariables false
@[reducible] def Kog  : List PM := [.d (.slc (.pair (.int .i64) (.pair (.slc (.int .u8)) .unit)))]
def Kq1  : Orc := Orc.of Kog true 0 fun x => (Kpl x.1, [.d .bool (Kfi x.1)])
@[reducible] def Jhy  : Tpl := { cur := ⟨[(0, .var (.slc (.pair (.int .i64) (.pair (.slc (.int .u8)) .unit)))), (1, .var .bool), (0, .var (.int .i64))], 20⟩, stk := [⟨[], 0⟩], heap := [] }
def Kz6  : List (FuncId × Orc) := []
def J9b  : Book := { Γ := gam, orc := Jb3 Kz6, hint := Jbe [(47, { keep := some [0, 2, 3], keeps := [(2, [0, 2, 3])], own := [], dat := [], stk := [] })] }
def Kz7 (F : Nat) (nx : Jhy.T → ZO) (kq : ZK) (x : Jhy.T) : ZO := Ka2 F none (fun l s2 i => nx ((l, (s2, (i, ()))), (((), ()), ()))) (fun y0 y1 y2 => kq .ret (Jhy.inst ((y0, (y1, (y2, ()))), (((), ()), ())))) (fun y0 y1 y2 => kq (.exit 0) (Jhy.inst ((y0, (y1, (y2, ()))), (((), ()), ())))) x.1.1 x.1.2.1 x.1.2.2.1
def Kz8 (F m : Nat) (x : Jhy.T) (kq : ZK) : ZO := Jr7 F none (fun y0 y1 y2 => kq .ret (Jhy.inst ((y0, (y1, (y2, ()))), (((), ()), ())))) (fun y0 y1 y2 => kq (.exit 0) (Jhy.inst ((y0, (y1, (y2, ()))), (((), ()), ())))) m x.1.1 x.1.2.1 x.1.2.2.1
def Kz9 (F : Nat) : List (LoE Unit) := [⟨47, 2, LO.of Jhy (Kz8 F F)⟩]
def J5e (F : Nat) : Jck Unit := { toBook := J9b, lo := Jdq (Kz9 F), need := Jbf [] }
theorem Kjh (F : Nat) : Jcr prog (J5e F) F 47 0 2 Jhy (Kz7 F) := fun d x KQ => by kernel_rfl
theorem K0a (F : Nat) : Jkg prog (J5e F) F := Jbp (l := Kz9 F) rfl (fa (Jav 0 (by kernel_rfl) (by kernel_rfl) (Jal (Kjh F) (fun _ _ => rfl) (fun _ _ _ _ => rfl))) fz)
theorem K3b (F : Nat) (x : Jbd Kog) (kend : List BV → ZO) : Jau prog (J5e F) F 20 47 (Jag Kog x) [.d .bool] kend = uFew F x.1 none (fun y0 => kend [BV.d .bool y0]) := by kernel_rfl
theorem Kdk  : Jaf prog 47 Kq1 := Ja1 (B0 := J9b) bkN bkG Jax bkT K3b (Jae fz) (by kernel_rfl) (fun _ => rfl) K0a (fun x h => (Kss x.1 h).elim fun F hF => ⟨F, fun kend => hF none _⟩)
@[reducible] def Kdl  : List PM := [.d (.slc (.pair (.int .i64) (.pair (.slc (.int .u8)) .unit))), .d (.slc (.pair (.int .i64) (.pair (.slc (.int .u8)) .unit)))]
def Kji  : Orc := Orc.of Kdl true 0 fun x => (Kak x.1 x.2.1, [.d .bool (J20 x.1 x.2.1)])
@[reducible] def Jf3  : Tpl := { cur := ⟨[(0, .var (.slc (.pair (.int .i64) (.pair (.slc (.int .u8)) .unit)))), (0, .var (.slc (.pair (.int .i64) (.pair (.slc (.int .u8)) .unit)))), (2, .var .bool), (0, .var (.int .i64))], 37⟩, stk := [⟨[], 0⟩], heap := [] }
def Kts  : List (FuncId × Orc) := []
def J5f  : Book := { Γ := gam, orc := Jb3 Kts, hint := Jbe [(50, { keep := some [0, 1, 4, 5], keeps := [(4, [0, 1, 4, 5])], own := [], dat := [], stk := [] })] }
def Ktt (F : Nat) (nx : Jf3.T → ZO) (kq : ZK) (x : Jf3.T) : ZO := J1h F none (fun a b s4 i => nx ((a, (b, (s4, (i, ())))), (((), ()), ()))) (fun y0 y1 y2 y3 => kq .ret (Jf3.inst ((y0, (y1, (y2, (y3, ())))), (((), ()), ())))) (fun y0 y1 y2 y3 => kq (.exit 0) (Jf3.inst ((y0, (y1, (y2, (y3, ())))), (((), ()), ())))) x.1.1 x.1.2.1 x.1.2.2.1 x.1.2.2.2.1
def Ktu (F m : Nat) (x : Jf3.T) (kq : ZK) : ZO := Jmy F none (fun y0 y1 y2 y3 => kq .ret (Jf3.inst ((y0, (y1, (y2, (y3, ())))), (((), ()), ())))) (fun y0 y1 y2 y3 => kq (.exit 0) (Jf3.inst ((y0, (y1, (y2, (y3, ())))), (((), ()), ())))) m x.1.1 x.1.2.1 x.1.2.2.1 x.1.2.2.2.1
def Kq2 (F : Nat) : List (LoE Unit) := [⟨50, 4, LO.of Jf3 (Ktu F F)⟩]
def Jy3 (F : Nat) : Jck Unit := { toBook := J5f, lo := Jdq (Kq2 F), need := Jbf [] }
theorem Kdm (F : Nat) : Jcr prog (Jy3 F) F 50 0 4 Jf3 (Ktt F) := fun d x KQ => by kernel_rfl
theorem Ktv (F : Nat) : Jkg prog (Jy3 F) F := Jbp (l := Kq2 F) rfl (fa (Jav 0 (by kernel_rfl) (by kernel_rfl) (Jal (Kdm F) (fun _ _ => rfl) (fun _ _ _ _ => rfl))) fz)
theorem K0b (F : Nat) (x : Jbd Kdl) (kend : List BV → ZO) : Jau prog (Jy3 F) F 20 50 (Jag Kdl x) [.d .bool] kend = K5v F x.1 x.2.1 none (fun y0 => kend [BV.d .bool y0]) := by kernel_rfl
theorem J67  : Jaf prog 50 Kji := Ja1 (B0 := J5f) bkN bkG Jax bkT K0b (Jae fz) (by kernel_rfl) (fun _ => rfl) Ktv (fun x h => (Kl9 x.1 x.2.1 h).elim fun F hF => ⟨F, fun kend => hF none _⟩)
@[reducible] def Juq  : List PM := [.d (.slc (.slc (.pair (.int .i64) (.pair (.slc (.int .u8)) .unit)))), .d (.slc (.slc (.pair (.int .i64) (.pair (.slc (.int .u8)) .unit))))]
def Jq3  : Orc := Orc.of Juq true 0 fun x => (Jek x.1 x.2.1, [.d .bool (Jel x.1 x.2.1)])
@[reducible] def Jdg  : Tpl := { cur := ⟨[(0, .var (.slc (.slc (.pair (.int .i64) (.pair (.slc (.int .u8)) .unit))))), (0, .var (.slc (.slc (.pair (.int .i64) (.pair (.slc (.int .u8)) .unit))))), (2, .var .bool), (0, .var (.int .i64))], 21⟩, stk := [⟨[], 0⟩], heap := [] }
def Kdn  : List (FuncId × Orc) := [(50, Kji)]
def Jtf  : Book := { Γ := gam, orc := Jb3 Kdn, hint := Jbe [(21, { keep := some [0, 1, 4, 5], keeps := [(4, [0, 1, 4, 5])], own := [], dat := [], stk := [] })] }
def Kdo (F : Nat) (nx : Jdg.T → ZO) (kq : ZK) (x : Jdg.T) : ZO := Job F none (fun a b s4 i => nx ((a, (b, (s4, (i, ())))), (((), ()), ()))) (fun y0 y1 y2 y3 => kq .ret (Jdg.inst ((y0, (y1, (y2, (y3, ())))), (((), ()), ())))) (fun y0 y1 y2 y3 => kq (.exit 0) (Jdg.inst ((y0, (y1, (y2, (y3, ())))), (((), ()), ())))) x.1.1 x.1.2.1 x.1.2.2.1 x.1.2.2.2.1
def Kdp (F m : Nat) (x : Jdg.T) (kq : ZK) : ZO := Jg9 F none (fun y0 y1 y2 y3 => kq .ret (Jdg.inst ((y0, (y1, (y2, (y3, ())))), (((), ()), ())))) (fun y0 y1 y2 y3 => kq (.exit 0) (Jdg.inst ((y0, (y1, (y2, (y3, ())))), (((), ()), ())))) m x.1.1 x.1.2.1 x.1.2.2.1 x.1.2.2.2.1
def J5g (F : Nat) : List (LoE Unit) := [⟨21, 4, LO.of Jdg (Kdp F F)⟩]
def Joy (F : Nat) : Jck Unit := { toBook := Jtf, lo := Jdq (J5g F), need := Jbf [] }
theorem J0p (F : Nat) : Jcr prog (Joy F) F 21 0 4 Jdg (Kdo F) := fun d x KQ => by kernel_rfl
theorem Kdq (F : Nat) : Jkg prog (Joy F) F := Jbp (l := J5g F) rfl (fa (Jav 0 (by kernel_rfl) (by kernel_rfl) (Jal (J0p F) (fun _ _ => rfl) (fun _ _ _ _ => rfl))) fz)
theorem Kjj (F : Nat) (x : Jbd Juq) (kend : List BV → ZO) : Jau prog (Joy F) F 20 21 (Jag Juq x) [.d .bool] kend = Ka3 F x.1 x.2.1 none (fun y0 => kend [BV.d .bool y0]) := by kernel_rfl
theorem Jnb  : Jaf prog 21 Jq3 := Ja1 (B0 := Jtf) bkN bkG Jax bkT Kjj (Jae (fa J67 fz)) (by kernel_rfl) (fun _ => rfl) Kdq (fun x h => (J54 x.1 x.2.1 h).elim fun F hF => ⟨F, fun kend => hF none _⟩)
end Go.AI
namespace Go.AI
open Go
open Go.Proofs.Tryz (prog)
set_option linter.unusedVariables false
@[reducible] def J5h  : List PM := []
def Jy4  : Orc := Orc.of J5h false 0 fun x => (J1c, [.d (.pair (.slc (.arr 16 (.int .u8))) (.pair (.slc (.pair (.int .i64) (.pair (.arr 16 (.int .u8)) .unit))) .unit)) (Jfg), .d (.pair (.int .i64) (.pair (.int .i64) (.pair (.int .i64) .unit))) (Jd1), .d .bool (Jv0)])
def J5i  : List (FuncId × Orc) := [(12, Jw4), (31, Kqw), (32, J40)]
theorem Ktw (F : Nat) (x : Jbd J5h) (kend : List BV → ZO) : Jau prog (bkZ J5i) F 20 10 (Jag J5h x) [.d (.pair (.slc (.arr 16 (.int .u8))) (.pair (.slc (.pair (.int .i64) (.pair (.arr 16 (.int .u8)) .unit))) .unit)), .d (.pair (.int .i64) (.pair (.int .i64) (.pair (.int .i64) .unit))), .d .bool] kend = Kwo F  none (fun y0 y1 y2 => kend [BV.d (.pair (.slc (.arr 16 (.int .u8))) (.pair (.slc (.pair (.int .i64) (.pair (.arr 16 (.int .u8)) .unit))) .unit)) y0, BV.d (.pair (.int .i64) (.pair (.int .i64) (.pair (.int .i64) .unit))) y1, BV.d .bool y2]) := by kernel_rfl
theorem Jq4  : Jaf prog 10 Jy4 := Ja1 (B0 := bkY J5i) bkN bkG Jax bkT Ktw (Jae (fa Jjw (fa Kc2 (fa J0l fz)))) (by kernel_rfl) (fun _ => rfl) (bkO _) (fun x h => (Kgx  h).elim fun F hF => ⟨F, fun kend => hF none _⟩)
@[reducible] def Joz  : List PM := []
def Jtg  : Orc := Orc.of Joz true 0 fun x => (Jfh, [.d .bool (Jfi)])
def Jq5  : List (FuncId × Orc) := [(10, Jy4), (12, Jw4), (20, Jup), (21, Jq3), (24, Juo)]
theorem J68 (F : Nat) (x : Jbd Joz) (kend : List BV → ZO) : Jau prog (bkZ Jq5) F 20 9 (Jag Joz x) [.d .bool] kend = Jyb F  none (fun y0 => kend [BV.d .bool y0]) := by kernel_rfl
theorem Jur  : Jaf prog 9 Jtg := Ja1 (B0 := bkY Jq5) bkN bkG Jax bkT J68 (Jae (fa Jq4 (fa Jjw (fa Jpf (fa Jnb (fa Jpe fz)))))) (by kernel_rfl) (fun _ => rfl) (bkO _) (fun x h => (J0d  h).elim fun F hF => ⟨F, fun kend => hF none _⟩)
@[reducible] def Jus  : List PM := [.d (.slc (.slc (.pair (.int .i64) (.pair (.slc (.int .u8)) .unit))))]
def Jz1  : Orc := Orc.of Jus true 0 fun x => (Jx5 x.1, [.d .bool (Jj3 x.1)])
@[reducible] def Jdh  : Tpl := { cur := ⟨[(0, .var (.slc (.slc (.pair (.int .i64) (.pair (.slc (.int .u8)) .unit))))), (1, .var .bool), (0, .var (.int .i64))], 19⟩, stk := [⟨[], 0⟩], heap := [] }
def Kdr  : List (FuncId × Orc) := [(47, Kq1)]
def Jth  : Book := { Γ := gam, orc := Jb3 Kdr, hint := Jbe [(23, { keep := some [0, 2, 3], keeps := [(2, [0, 2, 3])], own := [], dat := [], stk := [] })] }
def Kds (F : Nat) (nx : Jdh.T → ZO) (kq : ZK) (x : Jdh.T) : ZO := Joc F none (fun l s2 i => nx ((l, (s2, (i, ()))), (((), ()), ()))) (fun y0 y1 y2 => kq .ret (Jdh.inst ((y0, (y1, (y2, ()))), (((), ()), ())))) (fun y0 y1 y2 => kq (.exit 0) (Jdh.inst ((y0, (y1, (y2, ()))), (((), ()), ())))) x.1.1 x.1.2.1 x.1.2.2.1
def Kdt (F m : Nat) (x : Jdh.T) (kq : ZK) : ZO := Jha F none (fun y0 y1 y2 => kq .ret (Jdh.inst ((y0, (y1, (y2, ()))), (((), ()), ())))) (fun y0 y1 y2 => kq (.exit 0) (Jdh.inst ((y0, (y1, (y2, ()))), (((), ()), ())))) m x.1.1 x.1.2.1 x.1.2.2.1
def J5j (F : Nat) : List (LoE Unit) := [⟨23, 2, LO.of Jdh (Kdt F F)⟩]
def Jo0 (F : Nat) : Jck Unit := { toBook := Jth, lo := Jdq (J5j F), need := Jbf [] }
theorem J0q (F : Nat) : Jcr prog (Jo0 F) F 23 0 2 Jdh (Kds F) := fun d x KQ => by kernel_rfl
theorem Kdu (F : Nat) : Jkg prog (Jo0 F) F := Jbp (l := J5j F) rfl (fa (Jav 0 (by kernel_rfl) (by kernel_rfl) (Jal (J0q F) (fun _ _ => rfl) (fun _ _ _ _ => rfl))) fz)
theorem Kjk (F : Nat) (x : Jbd Jus) (kend : List BV → ZO) : Jau prog (Jo0 F) F 20 23 (Jag Jus x) [.d .bool] kend = Ka4 F x.1 none (fun y0 => kend [BV.d .bool y0]) := by kernel_rfl
theorem Jy5  : Jaf prog 23 Jz1 := Ja1 (B0 := Jth) bkN bkG Jax bkT Kjk (Jae (fa Kdk fz)) (by kernel_rfl) (fun _ => rfl) Kdu (fun x h => (J56 x.1 h).elim fun F hF => ⟨F, fun kend => hF none _⟩)
end Go.AI
namespace Go.AI
open Go
open Go.Proofs.Tryz (prog)
set_option linter.unusedVariables false
@[reducible] def Jf6  : List PM := [.d (.slc (.slc (.pair (.int .i64) (.pair (.slc (.int .u8)) .unit)))), .d (.slc (.int .u8)), .d (.pair (.slc (.int .u8)) (.pair (.slc (.int .i64)) .unit))]
def Jq6  : Orc := Orc.of Jf6 true 0 fun x => (TopCommitsSurvive_P x.1 x.2.1 x.2.2.1, [.d .bool (TopCommitsSurvive_r x.1 x.2.1 x.2.2.1)])
@[reducible] def Jba  : Tpl := { cur := ⟨[(1, .var (.slc (.int .u8))), (3, .ptr 0 []), (0, .var .bool), (0, .ptr 1 []), (0, .ptr 2 []), (1, .row 3), (0, .var (.slc (.int .i64))), (47, .var (.slc (.slc (.pair (.int .i64) (.pair (.slc (.int .u8)) .unit))))), (0, .var (.int .i64)), (0, .var (.int .i64))], 123⟩, stk := [⟨[], 0⟩], heap := [.box (.var (.pair (.slc (.int .u8)) (.pair (.slc (.int .i64)) .unit))), .box (.var (.pair (.slc (.arr 16 (.int .u8))) (.pair (.slc (.pair (.int .i64) (.pair (.arr 16 (.int .u8)) .unit))) .unit))), .box (.var (.pair (.int .i64) (.pair (.int .i64) (.pair (.int .i64) .unit)))), .row 67 (.slc (.pair (.int .i64) (.pair (.slc (.int .u8)) .unit))) false] }
def Jpl  : List (FuncId × Orc) := [(9, Jtg), (10, Jy4), (12, Jw4), (20, Jup), (21, Jq3), (23, Jz1), (24, Juo), (25, Js8)]
def Jhz  : Book := { Γ := gam, orc := Jb3 Jpl, hint := Jbe [(6, { keep := some [1, 5, 6, 7, 8, 10, 11, 59, 60, 61], keeps := [(9, [1, 5, 6, 7, 8, 10, 11, 59, 60, 61])], own := [(10, 49)], dat := [(11, 64)], stk := [] })] }
def Jpm (F : Nat) (nx : Jba.T → ZO) (kq : ZK) (x : Jba.T) : ZO := Jd9 F none (fun key s6 choices s59 s60 s61 x_ d_ now done => nx ((key, ((), (s6, ((), ((), ((), (choices, (s59, (s60, (s61, ())))))))))), (((), ()), (x_, (d_, (now, (done, ()))))))) (fun y0 y1 y2 y3 y4 y5 y6 y7 y8 y9 => kq .ret (Jba.inst ((y0, ((), (y1, ((), ((), ((), (y2, (y3, (y4, (y5, ())))))))))), (((), ()), (y6, (y7, (y8, (y9, ())))))))) (fun y0 y1 y2 y3 y4 y5 y6 y7 y8 y9 => kq (.exit 0) (Jba.inst ((y0, ((), (y1, ((), ((), ((), (y2, (y3, (y4, (y5, ())))))))))), (((), ()), (y6, (y7, (y8, (y9, ())))))))) x.1.1 x.1.2.2.1 x.1.2.2.2.2.2.2.1 x.1.2.2.2.2.2.2.2.1 x.1.2.2.2.2.2.2.2.2.1 x.1.2.2.2.2.2.2.2.2.2.1 x.2.2.1 x.2.2.2.1 x.2.2.2.2.1 x.2.2.2.2.2.1
def Jpn (F m : Nat) (x : Jba.T) (kq : ZK) : ZO := Jca F none (fun y0 y1 y2 y3 y4 y5 y6 y7 y8 y9 => kq .ret (Jba.inst ((y0, ((), (y1, ((), ((), ((), (y2, (y3, (y4, (y5, ())))))))))), (((), ()), (y6, (y7, (y8, (y9, ())))))))) (fun y0 y1 y2 y3 y4 y5 y6 y7 y8 y9 => kq (.exit 0) (Jba.inst ((y0, ((), (y1, ((), ((), ((), (y2, (y3, (y4, (y5, ())))))))))), (((), ()), (y6, (y7, (y8, (y9, ())))))))) m x.1.1 x.1.2.2.1 x.1.2.2.2.2.2.2.1 x.1.2.2.2.2.2.2.2.1 x.1.2.2.2.2.2.2.2.2.1 x.1.2.2.2.2.2.2.2.2.2.1 x.2.2.1 x.2.2.2.1 x.2.2.2.2.1 x.2.2.2.2.2.1
def Jjb (F : Nat) : List (LoE Unit) := [⟨6, 9, LO.of Jba (Jpn F F)⟩]
def Je7 (F : Nat) : Jck Unit := { toBook := Jhz, lo := Jdq (Jjb F), need := Jbf [] }
theorem Jmc (F : Nat) : Jcr prog (Je7 F) F 6 0 9 Jba (Jpm F) := fun d x KQ => by kernel_rfl
theorem Jpo (F : Nat) : Jkg prog (Je7 F) F := Jbp (l := Jjb F) rfl (fa (Jav 0 (by kernel_rfl) (by kernel_rfl) (Jal (Jmc F) (fun _ _ => rfl) (fun _ _ _ _ => rfl))) fz)
theorem Jq7 (F : Nat) (x : Jbd Jf6) (kend : List BV → ZO) : Jau prog (Je7 F) F 20 6 (Jag Jf6 x) [.d .bool] kend = TopCommitsSurvive F x.1 x.2.1 x.2.2.1 none (fun y0 => kend [BV.d .bool y0]) := by kernel_rfl
theorem TopCommitsSurvive_contract  : Jaf prog 6 Jq6 := Ja1 (B0 := Jhz) bkN bkG Jax bkT Jq7 (Jae (fa Jur (fa Jq4 (fa Jjw (fa Jpf (fa Jnb (fa Jy5 (fa Jpe (fa Juk fz))))))))) (by kernel_rfl) (fun _ => rfl) Jpo (fun x h => (Jol x.1 x.2.1 x.2.2.1 h).elim fun F hF => ⟨F, fun kend => hF none _⟩)
end Go.AI
namespace Go.AI
open Go
abbrev raS : Sch := .slc (.slc (.pair (.int .i64) (.pair (.slc (.int .u8)) .unit)))
abbrev crS : Sch := .pair (.slc (.int .u8)) (.pair (.slc (.int .i64)) .unit)
theorem TopCommitsSurvive_wf (x : LawT [raS, .slc (.int .u8), crS]) (_ : WfArgs [raS, .slc (.int .u8), crS] x) : TopCommitsSurvive_P x.1 x.2.1 x.2.2.1 = true := rfl
end Go.AI
