/- Texts of the proof, joined: Types WireM WireM2 DigestM DigestM2 CipherM CipherM2 DiskM LogR LogM TransM TransM4. Names of our own are shortened by program; the long ones stand in wip/. -/
import Derived.Test.YtcdajbmgoafnkaaGreatProg
import Derived.Test.YtcdajbmgoafnkaaGreatQwA5
import Derived.KernelRfl
import Derived.Test.YtcdajbmgoafnkaaGreatQwWireP
import Derived.Test.YtcdajbmgoafnkaaGreatQwWireP2
import Derived.Test.YtcdajbmgoafnkaaGreatQwDigestP3
import Derived.Test.YtcdajbmgoafnkaaGreatQwDigestP4
import Derived.Test.YtcdajbmgoafnkaaGreatQwCipherP4
import Derived.Test.YtcdajbmgoafnkaaGreatQwDiskP3
import Derived.RecoverIn
import Derived.Tactics
import Derived.Tactics2
import Derived.TacticsInMore
import Derived.RegionIn
import Derived.Laws.Pointers
import Derived.Test.YtcdajbmgoafnkaaGreatQwLogP7
import Derived.Test.YtcdajbmgoafnkaaGreatQwTransP
import Derived.Test.YtcdajbmgoafnkaaGreatQwTransP2
set_option maxRecDepth 100000
namespace Go.AI
abbrev ZO := Option Unit
abbrev ZK := Jf7 → ASt → ZO
end Go.AI
namespace Go.AI
open Go
def gam  : Gam := [
 none,
 some ⟨.func, 1, none, false⟩,
 some ⟨.other, 1, some (.int .i64), false⟩,
 some ⟨.other, 1, some (.int .i64), false⟩,
 some ⟨.other, 1, some .bool, false⟩,
 some ⟨.other, 1, some (.int .u8), false⟩,
 some ⟨.other, 1, some (.int .u8), false⟩,
 some ⟨(.struct [(0, 2), (1, 3), (2, 4), (3, 6)]), 4, some (.pair (.int .i64) (.pair (.int .i64) (.pair .bool (.pair (.int .u8) .unit)))), false⟩,
 some ⟨(.struct [(0, 2), (1, 3), (2, 4), (3, 6)]), 4, some (.pair (.int .i64) (.pair (.int .i64) (.pair .bool (.pair (.int .u8) .unit)))), false⟩,
 some ⟨.other, 1, some .str, false⟩,
 some ⟨.other, 1, some .str, false⟩,
 some ⟨.other, 1, some .str, false⟩,
 some ⟨.other, 1, some (.int .u64), false⟩,
 some ⟨(.struct [(0, 9), (1, 12)]), 2, some (.pair .str (.pair (.int .u64) .unit)), false⟩,
 some ⟨(.struct [(0, 9), (1, 12)]), 2, some (.pair .str (.pair (.int .u64) .unit)), false⟩,
 some ⟨(.ptr 250), 1, none, false⟩,
 some ⟨(.ptr 253), 1, none, false⟩,
 some ⟨(.ptr 262), 1, none, false⟩,
 some ⟨(.struct [(0, 17)]), 1, none, false⟩,
 some ⟨(.struct [(0, 17)]), 1, none, false⟩,
 some ⟨.other, 1, none, false⟩,
 some ⟨.other, 1, some (.int .i32), false⟩,
 some ⟨(.struct [(0, 3), (1, 3), (2, 3)]), 3, some (.pair (.int .i64) (.pair (.int .i64) (.pair (.int .i64) .unit))), true⟩,
 some ⟨(.struct [(0, 3), (1, 3), (2, 3)]), 3, some (.pair (.int .i64) (.pair (.int .i64) (.pair (.int .i64) .unit))), true⟩,
 some ⟨(.slice 5), 1, some (.slc (.int .u8)), false⟩,
 some ⟨(.slice 66), 1, some (.slc (.pair (.int .i64) (.pair (.slc (.int .u8)) .unit))), false⟩,
 some ⟨.func, 1, none, false⟩,
 some ⟨.func, 1, none, false⟩,
 some ⟨(.slice 70), 1, some (.slc (.pair (.int .i64) (.pair (.int .i64) (.pair (.slc (.arr 16 (.int .u8))) .unit)))), false⟩,
 some ⟨.other, 1, some (.int .i64), false⟩,
 none,
 some ⟨.func, 1, none, false⟩,
 none,
 some ⟨.func, 1, none, false⟩,
 some ⟨.func, 1, none, false⟩,
 some ⟨.func, 1, none, false⟩,
 some ⟨(.slice 93), 1, some (.slc (.arr 16 (.int .u8))), false⟩,
 some ⟨(.slice 155), 1, some (.slc (.pair (.int .i64) (.pair (.arr 16 (.int .u8)) .unit))), false⟩,
 some ⟨(.struct [(0, 36), (1, 37)]), 2, some (.pair (.slc (.arr 16 (.int .u8))) (.pair (.slc (.pair (.int .i64) (.pair (.arr 16 (.int .u8)) .unit))) .unit)), false⟩,
 some ⟨(.struct [(0, 36), (1, 37)]), 2, some (.pair (.slc (.arr 16 (.int .u8))) (.pair (.slc (.pair (.int .i64) (.pair (.arr 16 (.int .u8)) .unit))) .unit)), false⟩,
 some ⟨.func, 1, none, false⟩,
 some ⟨(.slice 25), 1, some (.slc (.slc (.pair (.int .i64) (.pair (.slc (.int .u8)) .unit)))), false⟩,
 none,
 some ⟨.func, 1, none, false⟩,
 none,
 some ⟨.func, 1, none, false⟩,
 some ⟨.func, 1, none, false⟩,
 some ⟨.func, 1, none, false⟩,
 some ⟨.func, 1, none, false⟩,
 none,
 some ⟨.func, 1, none, false⟩,
 some ⟨(.slice 24), 1, some (.slc (.slc (.int .u8))), false⟩,
 none,
 some ⟨.func, 1, none, false⟩,
 none,
 some ⟨.func, 1, none, false⟩,
 some ⟨.func, 1, none, false⟩,
 some ⟨(.slice 3), 1, some (.slc (.int .i64)), false⟩,
 some ⟨(.struct [(0, 5), (1, 57)]), 2, some (.pair (.int .u8) (.pair (.slc (.int .i64)) .unit)), false⟩,
 some ⟨(.struct [(0, 5), (1, 57)]), 2, some (.pair (.int .u8) (.pair (.slc (.int .i64)) .unit)), false⟩,
 none,
 some ⟨.func, 1, none, false⟩,
 none,
 some ⟨.func, 1, none, false⟩,
 some ⟨.func, 1, none, false⟩,
 some ⟨(.struct [(0, 3), (1, 24)]), 2, some (.pair (.int .i64) (.pair (.slc (.int .u8)) .unit)), false⟩,
 some ⟨(.struct [(0, 3), (1, 24)]), 2, some (.pair (.int .i64) (.pair (.slc (.int .u8)) .unit)), false⟩,
 none,
 some ⟨.func, 1, none, false⟩,
 some ⟨(.struct [(0, 3), (1, 3), (2, 36)]), 3, some (.pair (.int .i64) (.pair (.int .i64) (.pair (.slc (.arr 16 (.int .u8))) .unit))), false⟩,
 some ⟨(.struct [(0, 3), (1, 3), (2, 36)]), 3, some (.pair (.int .i64) (.pair (.int .i64) (.pair (.slc (.arr 16 (.int .u8))) .unit))), false⟩,
 some ⟨.func, 1, none, false⟩,
 some ⟨.func, 1, none, false⟩,
 some ⟨.func, 1, none, false⟩,
 some ⟨.func, 1, none, false⟩,
 some ⟨.func, 1, none, false⟩,
 some ⟨.func, 1, none, false⟩,
 some ⟨.func, 1, none, false⟩,
 some ⟨.func, 1, none, false⟩,
 some ⟨.func, 1, none, false⟩,
 some ⟨.func, 1, none, false⟩,
 none,
 some ⟨.func, 1, none, false⟩,
 none,
 some ⟨.func, 1, none, false⟩,
 none,
 some ⟨.func, 1, none, false⟩,
 some ⟨.func, 1, none, false⟩,
 some ⟨.func, 1, none, false⟩,
 some ⟨.func, 1, none, false⟩,
 none,
 some ⟨.func, 1, none, false⟩,
 some ⟨(.array 16 5), 16, some (.arr 16 (.int .u8)), true⟩,
 some ⟨(.array 16 5), 16, some (.arr 16 (.int .u8)), true⟩,
 some ⟨.func, 1, none, false⟩,
 none,
 some ⟨.func, 1, none, false⟩,
 some ⟨.func, 1, none, false⟩,
 some ⟨(.array 32 5), 32, some (.arr 32 (.int .u8)), true⟩,
 some ⟨(.array 32 5), 32, some (.arr 32 (.int .u8)), true⟩,
 none,
 some ⟨.func, 1, none, false⟩,
 some ⟨.func, 1, none, false⟩,
 some ⟨.func, 1, none, false⟩,
 some ⟨.func, 1, none, false⟩,
 some ⟨.func, 1, none, false⟩,
 some ⟨.func, 1, none, false⟩,
 some ⟨.func, 1, none, false⟩,
 some ⟨(.array 2 107), 2, none, false⟩,
 some ⟨.func, 1, none, false⟩,
 some ⟨(.ptr 39), 1, none, false⟩,
 some ⟨.func, 1, none, false⟩,
 some ⟨.func, 1, none, false⟩,
 some ⟨.func, 1, none, false⟩,
 some ⟨.func, 1, none, false⟩,
 some ⟨.func, 1, none, false⟩,
 some ⟨.func, 1, none, false⟩,
 some ⟨.func, 1, none, false⟩,
 some ⟨.func, 1, none, false⟩,
 some ⟨.func, 1, none, false⟩,
 some ⟨.func, 1, none, false⟩,
 some ⟨.func, 1, none, false⟩,
 some ⟨.func, 1, none, false⟩,
 some ⟨.func, 1, none, false⟩,
 some ⟨.func, 1, none, false⟩,
 some ⟨.func, 1, none, false⟩,
 some ⟨.func, 1, none, false⟩,
 some ⟨.func, 1, none, false⟩,
 some ⟨(.ptr 24), 1, none, false⟩,
 some ⟨.func, 1, none, false⟩,
 some ⟨(.ptr 3), 1, none, false⟩,
 some ⟨.func, 1, none, false⟩,
 some ⟨.func, 1, none, false⟩,
 some ⟨.func, 1, none, false⟩,
 none,
 some ⟨.func, 1, none, false⟩,
 none,
 some ⟨.func, 1, none, false⟩,
 none,
 some ⟨.func, 1, none, false⟩,
 some ⟨.func, 1, none, false⟩,
 none,
 some ⟨.func, 1, none, false⟩,
 some ⟨.func, 1, none, false⟩,
 some ⟨.func, 1, none, false⟩,
 some ⟨.func, 1, none, false⟩,
 some ⟨(.ptr 148), 1, none, false⟩,
 some ⟨(.struct [(0, 36)]), 1, some (.pair (.slc (.arr 16 (.int .u8))) .unit), false⟩,
 some ⟨(.struct [(0, 36)]), 1, some (.pair (.slc (.arr 16 (.int .u8))) .unit), false⟩,
 none,
 some ⟨.func, 1, none, false⟩,
 some ⟨.func, 1, none, false⟩,
 some ⟨.func, 1, none, false⟩,
 some ⟨.func, 1, none, false⟩,
 some ⟨(.struct [(0, 3), (1, 93)]), 17, some (.pair (.int .i64) (.pair (.arr 16 (.int .u8)) .unit)), true⟩,
 some ⟨(.struct [(0, 3), (1, 93)]), 17, some (.pair (.int .i64) (.pair (.arr 16 (.int .u8)) .unit)), true⟩,
 some ⟨.func, 1, none, false⟩,
 some ⟨.func, 1, none, false⟩,
 some ⟨(.map 3 36), 1, none, true⟩,
 none,
 some ⟨.func, 1, none, false⟩,
 some ⟨.func, 1, none, false⟩,
 some ⟨.func, 1, none, false⟩,
 some ⟨.func, 1, none, false⟩,
 some ⟨.func, 1, none, false⟩,
 some ⟨(.struct [(0, 164)]), 1, none, false⟩,
 some ⟨(.struct [(0, 164)]), 1, none, false⟩,
 some ⟨.func, 1, none, false⟩,
 some ⟨.func, 1, none, false⟩,
 some ⟨.func, 1, none, false⟩,
 some ⟨.func, 1, none, false⟩,
 some ⟨.func, 1, none, false⟩,
 some ⟨.func, 1, none, false⟩,
 some ⟨.other, 1, some (.int .u32), false⟩,
 some ⟨.func, 1, none, false⟩,
 some ⟨.func, 1, none, false⟩,
 some ⟨.func, 1, none, false⟩,
 none,
 some ⟨.func, 1, none, false⟩,
 some ⟨.other, 1, some (.int .u64), false⟩,
 none,
 some ⟨.func, 1, none, false⟩,
 some ⟨.func, 1, none, false⟩,
 none,
 some ⟨.func, 1, none, false⟩,
 some ⟨(.struct []), 0, none, false⟩,
 some ⟨(.struct []), 0, none, false⟩,
 none,
 some ⟨.func, 1, none, false⟩,
 some ⟨.func, 1, none, false⟩,
 some ⟨.func, 1, none, false⟩,
 some ⟨.func, 1, none, false⟩,
 some ⟨(.array 64 5), 64, some (.arr 64 (.int .u8)), true⟩,
 some ⟨.func, 1, none, false⟩,
 some ⟨(.slice 173), 1, some (.slc (.int .u32)), false⟩,
 some ⟨.func, 1, none, false⟩,
 some ⟨.func, 1, none, false⟩,
 some ⟨.func, 1, none, false⟩,
 some ⟨.func, 1, none, false⟩,
 some ⟨(.array 8 173), 8, some (.arr 8 (.int .u32)), true⟩,
 some ⟨(.struct [(0, 199), (8, 24), (9, 3)]), 10, some (.pair (.arr 8 (.int .u32)) (.pair (.slc (.int .u8)) (.pair (.int .i64) .unit))), false⟩,
 some ⟨(.struct [(0, 199), (8, 24), (9, 3)]), 10, some (.pair (.arr 8 (.int .u32)) (.pair (.slc (.int .u8)) (.pair (.int .i64) .unit))), false⟩,
 some ⟨.func, 1, none, false⟩,
 some ⟨.func, 1, none, false⟩,
 some ⟨(.array 16 173), 16, some (.arr 16 (.int .u32)), true⟩,
 some ⟨(.array 16 173), 16, some (.arr 16 (.int .u32)), true⟩,
 some ⟨.func, 1, none, false⟩,
 some ⟨.func, 1, none, false⟩,
 some ⟨.func, 1, none, false⟩,
 some ⟨.func, 1, none, false⟩,
 some ⟨.func, 1, none, false⟩,
 none,
 some ⟨.func, 1, none, false⟩,
 some ⟨.func, 1, none, false⟩,
 some ⟨.other, 1, some (.int .u64), false⟩,
 some ⟨.other, 1, some (.int .u32), false⟩,
 some ⟨(.array 8 215), 8, some (.arr 8 (.int .u32)), true⟩,
 some ⟨(.array 8 215), 8, some (.arr 8 (.int .u32)), true⟩,
 some ⟨.func, 1, none, false⟩,
 some ⟨(.ptr 205), 1, none, false⟩,
 some ⟨.func, 1, none, false⟩,
 some ⟨.func, 1, none, false⟩,
 some ⟨.func, 1, none, false⟩,
 some ⟨.func, 1, none, false⟩,
 some ⟨.func, 1, none, false⟩,
 some ⟨.func, 1, none, false⟩,
 some ⟨.func, 1, none, false⟩,
 some ⟨.func, 1, none, false⟩,
 some ⟨.func, 1, none, false⟩,
 some ⟨.func, 1, none, false⟩,
 some ⟨.func, 1, none, false⟩,
 some ⟨.func, 1, none, false⟩,
 some ⟨.func, 1, none, false⟩,
 some ⟨.func, 1, none, false⟩,
 some ⟨.func, 1, none, false⟩,
 some ⟨.func, 1, none, false⟩,
 some ⟨(.struct [(0, 3), (1, 3), (2, 3), (3, 3)]), 4, some (.pair (.int .i64) (.pair (.int .i64) (.pair (.int .i64) (.pair (.int .i64) .unit)))), true⟩,
 some ⟨(.array 4 236), 16, some (.arr 4 (.pair (.int .i64) (.pair (.int .i64) (.pair (.int .i64) (.pair (.int .i64) .unit))))), true⟩,
 some ⟨(.array 256 173), 256, some (.arr 256 (.int .u32)), true⟩,
 some ⟨.func, 1, none, false⟩,
 some ⟨(.array 64 173), 64, some (.arr 64 (.int .u32)), true⟩,
 some ⟨.func, 1, none, false⟩,
 some ⟨.func, 1, none, false⟩,
 some ⟨.func, 1, none, false⟩,
 some ⟨(.array 16 215), 16, some (.arr 16 (.int .u32)), true⟩,
 some ⟨(.array 64 215), 64, some (.arr 64 (.int .u32)), true⟩,
 some ⟨.func, 1, none, false⟩,
 some ⟨.func, 1, none, false⟩,
 some ⟨.func, 1, none, false⟩,
 some ⟨(.struct [(0, 17), (1, 17), (2, 17), (3, 9)]), 4, none, false⟩,
 some ⟨(.struct [(0, 17), (1, 17), (2, 17), (3, 9)]), 4, none, false⟩,
 some ⟨(.array 0 16), 0, none, false⟩,
 some ⟨(.struct [(0, 251)]), 0, none, false⟩,
 some ⟨(.struct [(0, 251)]), 0, none, false⟩,
 some ⟨.func, 1, none, false⟩,
 some ⟨.other, 1, some (.int .u8), false⟩,
 some ⟨.other, 1, some (.int .u8), false⟩,
 some ⟨.func, 1, none, false⟩,
 some ⟨(.ptr 5), 1, none, false⟩,
 some ⟨.other, 1, some (.int .i32), false⟩,
 some ⟨.other, 1, some (.int .i32), false⟩,
 some ⟨(.struct [(0, 12), (1, 12), (2, 173), (3, 255), (4, 5), (5, 5), (6, 256), (7, 257), (8, 258), (9, 259), (10, 260)]), 11, none, false⟩,
 some ⟨(.struct [(0, 12), (1, 12), (2, 173), (3, 255), (4, 5), (5, 5), (6, 256), (7, 257), (8, 258), (9, 259), (10, 260)]), 11, none, false⟩,
 some ⟨.other, 1, none, false⟩]
theorem Qiz  : gamB Go.Proofs.Tryz.prog gam = true := by kernel_rfl
theorem Qi0  : Qc4 Go.Proofs.Tryz.prog = true := by kernel_rfl
theorem Qi1  : K32 Go.Proofs.Tryz.prog = true := by kernel_rfl
theorem Jaq  : Go.Proofs.Tryz.prog.follows .mixedOrders = true := by kernel_rfl
theorem bkN  : Kza Go.Proofs.Tryz.prog := K31 Qi0
theorem bkG  : Jm9 Go.Proofs.Tryz.prog := Kzh Qi1
theorem bkT  : Jcc Go.Proofs.Tryz.prog gam := Qeu Qiz
def bkY (l : List (FuncId × Orc)) : Book := { Γ := gam, orc := Jbk l, hint := Ja0 [] }
def bkZ (l : List (FuncId × Orc)) : Jb3 Unit := { toBook := bkY l, lo := Jct [], need := Ja1 [] }
theorem bkO (l : List (FuncId × Orc)) (F : Nat) : Jip Go.Proofs.Tryz.prog (bkZ l) F := Ja6 (l := []) rfl fz
end Go.AI
namespace Go.AI
open Go
open Go.Proofs.Tryz (prog)
set_option linter.unusedVariables false
@[reducible] def Jqi  : List PM := [.d (.int .u64)]
def Jvh  : Orc := Orc.of Jqi true 0 fun x => (Jnc x.1, [.d (.int .i64) (Jr0 x.1)])
def Jsf  : List (FuncId × Orc) := []
theorem Kap (F : Nat) (x : Ja4 Jqi) (kend : List BV → ZO) : Jan prog (bkZ Jsf) F 20 163 (Jaf Jqi x) [.d (.int .i64)] kend = J0z F x.1 none (fun y0 => kend [BV.d (.int .i64) y0]) := by kernel_rfl
theorem Jwr  : Jae prog 163 Jvh := Jau (B0 := bkY Jsf) bkN bkG Jaq bkT Kap (Jad fz) (by kernel_rfl) (fun _ => rfl) (bkO _) (fun x h => (J3o x.1 h).elim fun F hF => ⟨F, fun kend => hF none _⟩)
@[reducible] def Jsg  : List PM := [.d (.int .u8)]
def Jzd  : Orc := Orc.of Jsg true 0 fun x => (true, [.d (.int .i64) (Jpk x.1)])
def Jvi  : List (FuncId × Orc) := []
theorem Khw (F : Nat) (x : Ja4 Jsg) (kend : List BV → ZO) : Jan prog (bkZ Jvi) F 20 147 (Jaf Jsg x) [.d (.int .i64)] kend = J6v F x.1 none (fun y0 => kend [BV.d (.int .i64) y0]) := by kernel_rfl
theorem Jze  : Jae prog 147 Jzd := Jau (B0 := bkY Jvi) bkN bkG Jaq bkT Khw (Jad fz) (by kernel_rfl) (fun _ => rfl) (bkO _) (fun x _ => (J60 x.1).elim fun F hF => ⟨F, fun kend => hF none _⟩)
@[reducible] def Jws  : List PM := [.d (.int .u64)]
def J2x  : Orc := Orc.of Jws true 0 fun x => (Jts x.1, [.d (.int .i64) (Jtt x.1)])
def Jzf  : List (FuncId × Orc) := [(163, Jvh)]
theorem Kmq (F : Nat) (x : Ja4 Jws) (kend : List BV → ZO) : Jan prog (bkZ Jzf) F 20 148 (Jaf Jws x) [.d (.int .i64)] kend = Kfu F x.1 none (fun y0 => kend [BV.d (.int .i64) y0]) := by kernel_rfl
theorem J1i  : Jae prog 148 J2x := Jau (B0 := bkY Jzf) bkN bkG Jaq bkT Kmq (Jad (fa Jwr fz)) (by kernel_rfl) (fun _ => rfl) (bkO _) (fun x h => (Kaj x.1 h).elim fun F hF => ⟨F, fun kend => hF none _⟩)
@[reducible] def Jfq  : List PM := [.d (.int .u8)]
def Jit  : Orc := Orc.of Jfq true 0 fun x => (true, [.d (.int .i64) (Jav x.1)])
def Jij  : List (FuncId × Orc) := [(147, Jzd)]
theorem Jrf (F : Nat) (x : Ja4 Jfq) (kend : List BV → ZO) : Jan prog (bkZ Jij) F 20 118 (Jaf Jfq x) [.d (.int .i64)] kend = Jid F x.1 none (fun y0 => kend [BV.d (.int .i64) y0]) := by kernel_rfl
theorem Jmd  : Jae prog 118 Jit := Jau (B0 := bkY Jij) bkN bkG Jaq bkT Jrf (Jad (fa Jze fz)) (by kernel_rfl) (fun _ => rfl) (bkO _) (fun x _ => (Jou x.1).elim fun F hF => ⟨F, fun kend => hF none _⟩)
@[reducible] def Jny  : List PM := [.d (.int .i64)]
def Jsh  : Orc := Orc.of Jny true 0 fun x => (true, [.d (.int .i64) (Jbx x.1)])
def Jqy  : List (FuncId × Orc) := []
theorem J7a (F : Nat) (x : Ja4 Jny) (kend : List BV → ZO) : Jan prog (bkZ Jqy) F 20 137 (Jaf Jny x) [.d (.int .i64)] kend = J6w F x.1 none (fun y0 => kend [BV.d (.int .i64) y0]) := by kernel_rfl
theorem Ju6  : Jae prog 137 Jsh := Jau (B0 := bkY Jqy) bkN bkG Jaq bkT J7a (Jad fz) (by kernel_rfl) (fun _ => rfl) (bkO _) (fun x _ => (J06 x.1).elim fun F hF => ⟨F, fun kend => hF none _⟩)
@[reducible] def Jme  : List PM := [.d (.int .i64)]
def Jkc  : Orc := Orc.of Jme true 0 fun x => (Jdi x.1, [.d (.int .i64) (Jbe x.1)])
def Jow  : List (FuncId × Orc) := [(148, J2x)]
theorem J3t (F : Nat) (x : Ja4 Jme) (kend : List BV → ZO) : Jan prog (bkZ Jow) F 20 119 (Jaf Jme x) [.d (.int .i64)] kend = Jr7 F x.1 none (fun y0 => kend [BV.d (.int .i64) y0]) := by kernel_rfl
theorem Jj0  : Jae prog 119 Jkc := Jau (B0 := bkY Jow) bkN bkG Jaq bkT J3t (Jad (fa J1i fz)) (by kernel_rfl) (fun _ => rfl) (bkO _) (fun x h => (Jy2 x.1 h).elim fun F hF => ⟨F, fun kend => hF none _⟩)
@[reducible] def Jqj  : List PM := [.d (.slc (.int .u8))]
def Je9  : Orc := Orc.of Jqj true 1 fun x => (Jbh x.1, [.o 5 (.int .u8) (Jb4 x.1)])
def Jsi  : List (FuncId × Orc) := []
theorem Kaq (F : Nat) (x : Ja4 Jqj) (kend : List BV → ZO) : Jan prog (bkZ Jsi) F 20 100 (Jaf Jqj x) [.o 5 (.int .u8)] kend = Kcz F x.1 none Ju3 (fun y0 => kend [BV.o 5 (.int .u8) y0]) := by kernel_rfl
theorem Jdm  : Jae prog 100 Je9 := Jau (B0 := bkY Jsi) bkN bkG Jaq bkT Kaq (Jad fz) (by kernel_rfl) (fun _ => rfl) (bkO _) (fun x h => (J3p x.1 h).elim fun F hF => ⟨F, fun kend => hF none Ju3 J6g _⟩)
@[reducible] def Jwt  : List PM := [.o 5 (.int .u8), .d (.int .i64)]
def Jsj  : Orc := Orc.of Jwt true 1 fun x => (Jlc x.1 x.2.1, [.o 5 (.int .u8) (Job x.1 x.2.1)])
@[reducible] def Jey  : Tpl := { cur := ⟨[(0, .row 0), (0, .var (.int .i64)), (5, .var (.int .i64))], 32⟩, stk := [⟨[], 0⟩], heap := [.row 5 (.int .u8) false] }
def Khx  : List (FuncId × Orc) := [(119, Jkc), (137, Jsh)]
def Jvj  : Book := { Γ := gam, orc := Jbk Khx, hint := Ja0 [(99, { keep := some [0, 1, 7], keeps := [(6, [0, 1, 7])], own := [], dat := [], stk := [] })] }
def Khy (F : Nat) (nx : Jey.T → ZO) (kq : ZK) (x : Jey.T) : ZO := Jpy F none (fun n i dst => nx (((), (n, (i, ()))), (((), ()), (dst, ())))) (fun y0 y1 y2 => kq (.exit 0) (Jey.inst (((), (y0, (y1, ()))), (((), ()), (y2, ()))))) x.1.2.1 x.1.2.2.1 x.2.2.1
def Khz (F m : Nat) (x : Jey.T) (kq : ZK) : ZO := Jht F none (fun y0 y1 y2 => kq (.exit 0) (Jey.inst (((), (y0, (y1, ()))), (((), ()), (y2, ()))))) m x.1.2.1 x.1.2.2.1 x.2.2.1
def J7b (F : Nat) : List (LoE Unit) := [⟨99, 6, LO.of Jey (Khz F F)⟩]
def Jqk (F : Nat) : Jb3 Unit := { toBook := Jvj, lo := Jct (J7b F), need := Ja1 [] }
theorem J3u (F : Nat) : Jbw prog (Jqk F) F 99 0 6 Jey (Khy F) := fun d x KQ => by kernel_rfl
theorem Kh0 (F : Nat) : Jip prog (Jqk F) F := Ja6 (l := J7b F) rfl (fa (Jal 0 (by kernel_rfl) (by kernel_rfl) (Jah (J3u F) (fun _ _ => rfl) (fun _ _ _ _ => rfl))) fz)
theorem Kmr (F : Nat) (x : Ja4 Jwt) (kend : List BV → ZO) : Jan prog (Jqk F) F 20 99 (Jaf Jwt x) [.o 5 (.int .u8)] kend = Kfv F x.1 x.2.1 none (fun y0 => kend [BV.o 5 (.int .u8) y0]) := by kernel_rfl
theorem Jox  : Jae prog 99 Jsj := Jau (B0 := Jvj) bkN bkG Jaq bkT Kmr (Jad (fa Jj0 (fa Ju6 fz))) (by kernel_rfl) (fun _ => rfl) Kh0 (fun x h => (Kak x.1 x.2.1 h).elim fun F hF => ⟨F, fun kend => hF none _⟩)
@[reducible] def Jnz  : List PM := [.d (.slc (.int .u8)), .d (.int .i64)]
def Jsk  : Orc := Orc.of Jnz true 1 fun x => (Jf9 x.1 x.2.1, [.o 5 (.int .u8) (Jkm x.1 x.2.1)])
def Jqz  : List (FuncId × Orc) := [(99, Jsj), (100, Je9)]
theorem J7c (F : Nat) (x : Ja4 Jnz) (kend : List BV → ZO) : Jan prog (bkZ Jqz) F 20 51 (Jaf Jnz x) [.o 5 (.int .u8)] kend = Jwm F x.1 x.2.1 none (fun y0 => kend [BV.o 5 (.int .u8) y0]) := by kernel_rfl
theorem Ju7  : Jae prog 51 Jsk := Jau (B0 := bkY Jqz) bkN bkG Jaq bkT J7c (Jad (fa Jox (fa Jdm fz))) (by kernel_rfl) (fun _ => rfl) (bkO _) (fun x h => (J07 x.1 x.2.1 h).elim fun F hF => ⟨F, fun kend => hF none _⟩)
@[reducible] def Jql  : List PM := [.d (.slc (.int .u8))]
def Jsl  : Orc := Orc.of Jql false 0 fun x => (Jef x.1, [.d (.int .i64) (Jao x.1), .d (.slc (.int .u8)) (Jam x.1), .d (.int .i64) (Jbb x.1)])
@[reducible] def Jez  : Tpl := { cur := ⟨[(0, .var (.slc (.int .u8))), (4, .var (.int .i64)), (0, .var (.int .i64)), (26, .var (.slc (.int .u8))), (0, .var (.int .i64)), (0, .var (.int .i64))], 23⟩, stk := [⟨[], 0⟩], heap := [] }
def Kh1  : List (FuncId × Orc) := [(100, Je9), (118, Jit), (119, Jkc)]
def Jvk  : Book := { Γ := gam, orc := Jbk Kh1, hint := Ja0 [(72, { keep := some [0, 5, 6, 33, 34, 35], keeps := [(10, [0, 5, 6, 33, 34, 35])], own := [], dat := [], stk := [] })] }
def Kh2 (F : Nat) (nx : Jez.T → ZO) (kq : ZK) (x : Jez.T) : ZO := Jpz F none (fun src k n s33 s34 s35 => nx ((src, (k, (n, (s33, (s34, (s35, ())))))), (((), ()), ()))) (fun y0 y1 y2 y3 y4 y5 => kq (.exit 0) (Jez.inst ((y0, (y1, (y2, (y3, (y4, (y5, ())))))), (((), ()), ())))) x.1.1 x.1.2.1 x.1.2.2.1 x.1.2.2.2.1 x.1.2.2.2.2.1 x.1.2.2.2.2.2.1
def Kh3 (F m : Nat) (x : Jez.T) (kq : ZK) : ZO := Jhu F none (fun y0 y1 y2 y3 y4 y5 => kq (.exit 0) (Jez.inst ((y0, (y1, (y2, (y3, (y4, (y5, ())))))), (((), ()), ())))) m x.1.1 x.1.2.1 x.1.2.2.1 x.1.2.2.2.1 x.1.2.2.2.2.1 x.1.2.2.2.2.2.1
def J7d (F : Nat) : List (LoE Unit) := [⟨72, 10, LO.of Jez (Kh3 F F)⟩]
def Jqm (F : Nat) : Jb3 Unit := { toBook := Jvk, lo := Jct (J7d F), need := Ja1 [] }
theorem J3v (F : Nat) : Jbw prog (Jqm F) F 72 0 10 Jez (Kh2 F) := fun d x KQ => by kernel_rfl
theorem Kh4 (F : Nat) : Jip prog (Jqm F) F := Ja6 (l := J7d F) rfl (fa (Jal 0 (by kernel_rfl) (by kernel_rfl) (Jah (J3v F) (fun _ _ => rfl) (fun _ _ _ _ => rfl))) fz)
theorem Kms (F : Nat) (x : Ja4 Jql) (kend : List BV → ZO) : Jan prog (Jqm F) F 20 72 (Jaf Jql x) [.d (.int .i64), .d (.slc (.int .u8)), .d (.int .i64)] kend = Kfw F x.1 none (fun y0 y1 y2 => kend [BV.d (.int .i64) y0, BV.d (.slc (.int .u8)) y1, BV.d (.int .i64) y2]) := by kernel_rfl
theorem Joy  : Jae prog 72 Jsl := Jau (B0 := Jvk) bkN bkG Jaq bkT Kms (Jad (fa Jdm (fa Jmd (fa Jj0 fz)))) (by kernel_rfl) (fun _ => rfl) Kh4 (fun x h => (Kal x.1 h).elim fun F hF => ⟨F, fun kend => hF none _⟩)
end Go.AI
namespace Go.AI
open Go
open Go.Proofs.Tryz (prog)
set_option linter.unusedVariables false
@[reducible] def Jkd  : List PM := [.d (.slc (.int .u8)), .d (.slc (.int .u8))]
def Joz  : Orc := Orc.of Jkd true 1 fun x => (Jeg x.1 x.2.1, [.o 5 (.int .u8) (Jh8 x.1 x.2.1)])
@[reducible] def Jck  : Tpl := { cur := ⟨[(1, .row 0), (1, .ptr 1 []), (10, .var (.slc (.int .u8))), (0, .var (.int .i64)), (0, .var (.int .i64))], 10⟩, stk := [⟨[], 9⟩, ⟨[], 0⟩], heap := [.row 5 (.int .u8) false, .box (.pr (.fn 101 (.un)) (.var .unit))] }
def Jzg  : List (FuncId × Orc) := [(99, Jsj), (100, Je9)]
def Jmf  : Book := { Γ := gam, orc := Jbk Jzg, hint := Ja0 [(102, { keep := some [1, 3, 14, 15, 16], keeps := [(3, [1, 3, 14, 15, 16])], own := [], dat := [], stk := [[]] })] }
def Jzh (F : Nat) (nx : Jck.T → ZO) (kq : ZK) (x : Jck.T) : ZO := Jgp F none (fun s14 s15 s16 dst => nx (((), ((), (s14, (s15, (s16, ()))))), (((), ((), ())), (dst, (((), ()), ()))))) (fun y0 y1 y2 y3 => kq (.exit 0) (Jck.inst (((), ((), (y0, (y1, (y2, ()))))), (((), ((), ())), (y3, (((), ()), ())))))) x.1.2.2.1 x.1.2.2.2.1 x.1.2.2.2.2.1 x.2.2.1
def Jzi (F m : Nat) (x : Jck.T) (kq : ZK) : ZO := Jdk F none (fun y0 y1 y2 y3 => kq (.exit 0) (Jck.inst (((), ((), (y0, (y1, (y2, ()))))), (((), ((), ())), (y3, (((), ()), ())))))) m x.1.2.2.1 x.1.2.2.2.1 x.1.2.2.2.2.1 x.2.2.1
def Jq0 (F : Nat) : List (LoE Unit) := [⟨102, 3, LO.of Jck (Jzi F F)⟩]
def Jik (F : Nat) : Jb3 Unit := { toBook := Jmf, lo := Jct (Jq0 F), need := Ja1 [(102, 1)] }
theorem Jsm (F : Nat) : Jbw prog (Jik F) F 102 0 3 Jck (Jzh F) := fun d x KQ => by kernel_rfl
theorem Jzj (F : Nat) : Jip prog (Jik F) F := Ja6 (l := Jq0 F) rfl (fa (Jal 0 (by kernel_rfl) (by kernel_rfl) (Jah (Jsm F) (fun _ _ => rfl) (fun _ _ _ _ => rfl))) fz)
theorem J1j (F : Nat) (x : Ja4 Jkd) (kend : List BV → ZO) : Jan prog (Jik F) F 20 53 (Jaf Jkd x) [.o 5 (.int .u8)] kend = Jp0 F x.1 x.2.1 none (fun y0 => kend [BV.o 5 (.int .u8) y0]) := by kernel_rfl
theorem Jrg  : Jae prog 53 Joz := Jau (B0 := Jmf) bkN bkG Jaq bkT J1j (Jad (fa Jox (fa Jdm fz))) (by kernel_rfl) (fun _ => rfl) Jzj (fun x h => (Jwp x.1 x.2.1 h).elim fun F hF => ⟨F, fun kend => hF none _⟩)
@[reducible] def Jk8  : List PM := [.d (.slc (.int .u8))]
def Jvl  : Orc := Orc.of Jk8 false 0 fun x => (Jfl x.1, [.d (.slc (.int .u8)) (Jd0 x.1), .d (.slc (.int .u8)) (Jd1 x.1), .d (.int .i64) (Jci x.1)])
def Jsn  : List (FuncId × Orc) := [(72, Jsl), (100, Je9)]
theorem Kar (F : Nat) (x : Ja4 Jk8) (kend : List BV → ZO) : Jan prog (bkZ Jsn) F 20 75 (Jaf Jk8 x) [.d (.slc (.int .u8)), .d (.slc (.int .u8)), .d (.int .i64)] kend = J00 F x.1 none (fun y0 y1 y2 => kend [BV.d (.slc (.int .u8)) y0, BV.d (.slc (.int .u8)) y1, BV.d (.int .i64) y2]) := by kernel_rfl
theorem Jwu  : Jae prog 75 Jvl := Jau (B0 := bkY Jsn) bkN bkG Jaq bkT Kar (Jad (fa Joy (fa Jdm fz))) (by kernel_rfl) (fun _ => rfl) (bkO _) (fun x h => (J3q x.1 h).elim fun F hF => ⟨F, fun kend => hF none _⟩)
end Go.AI
namespace Go.AI
open Go
open Go.Proofs.Tryz (prog)
set_option linter.unusedVariables false
@[reducible] def Ks6  : List PM := [.d (.int .u32), .d (.int .i64)]
def Kh5  : Orc := Orc.of Ks6 true 0 fun x => (Jve x.1 x.2.1, [.d (.int .u32) (J6m x.1 x.2.1)])
def Kmt  : List (FuncId × Orc) := []
theorem Qce (F : Nat) (x : Ja4 Ks6) (kend : List BV → ZO) : Jan prog (bkZ Kmt) F 20 168 (Jaf Ks6 x) [.d (.int .u32)] kend = rotr F x.1 x.2.1 none (fun y0 => kend [BV.d (.int .u32) y0]) := by kernel_rfl
theorem Jzk  : Jae prog 168 Kh5 := Jau (B0 := bkY Kmt) bkN bkG Jaq bkT Qce (Jad fz) (by kernel_rfl) (fun _ => rfl) (bkO _) (fun x h => (Kzw x.1 x.2.1 h).elim fun F hF => ⟨F, fun kend => hF none _⟩)
@[reducible] def K68  : List PM := [.d (.int .u32), .d (.int .i64)]
def K69  : Orc := Orc.of K68 true 0 fun x => (Qax x.1 x.2.1, [.d (.int .u32) (Qe5 x.1 x.2.1)])
def Kyb  : List (FuncId × Orc) := []
theorem Qgx (F : Nat) (x : Ja4 K68) (kend : List BV → ZO) : Jan prog (bkZ Kyb) F 20 177 (Jaf K68 x) [.d (.int .u32)] kend = shr F x.1 x.2.1 none (fun y0 => kend [BV.d (.int .u32) y0]) := by kernel_rfl
theorem Kmu  : Jae prog 177 K69 := Jau (B0 := bkY Kyb) bkN bkG Jaq bkT Qgx (Jad fz) (by kernel_rfl) (fun _ => rfl) (bkO _) (fun x h => (K5e x.1 x.2.1 h).elim fun F hF => ⟨F, fun kend => hF none _⟩)
def Kmv  : List (FuncId × Orc) := [(168, Kh5)]
def Jzl  : Book := { Γ := gam, orc := Jbk Kmv, hint := Ja0 [] }
def Kdb (F : Nat) : List (LoE Unit) := []
def Jso (F : Nat) : Jb3 Unit := { toBook := Jzl, lo := Jct (Kdb F), need := Ja1 [] }
theorem Kmw (F : Nat) : Jip prog (Jso F) F := Ja6 (l := Kdb F) rfl fz
theorem Ks7 (F : Nat) (x_ : UInt32) (a b c : Int) (kend : List BV → ZO) : Jan prog (Jso F) F 20 167 [.d (.int .u32) x_, .d (.int .i64) a, .d (.int .i64) b, .d (.int .i64) c, .f 168] [.d (.int .u32)] kend = Kri F x_ a b c none (fun y0 => kend [BV.d (.int .u32) y0]) := by kernel_rfl
theorem Jq1  : Jae prog 167 (Orc.of [.d (.int .u32), .d (.int .i64), .d (.int .i64), .d (.int .i64), .f] true 0 fun x => ((Nat.beq x.2.2.2.2.1 168) && Jfj x.1 x.2.1 x.2.2.1 x.2.2.2.1 x.2.2.2.2.1, [.d (.int .u32) (Jd7 x.1 x.2.1 x.2.2.1 x.2.2.2.1 x.2.2.2.2.1)])) := Jdu (B0 := Jzl) bkN bkG Jaq bkT (Jad (fa Jzk fz)) (by kernel_rfl) (fun x h => by
 obtain ⟨x0, x1, x2, x3, x4, _⟩ := x
 simp only [Bool.and_eq_true] at h
 obtain ⟨e, h⟩ := h
 have e := Nat.eq_of_beq_eq_true e
 subst e
 obtain ⟨F, hF⟩ := Kgi x0 x1 x2 x3 h
 exact ⟨F, 20, Jso F, rfl, Kmw F, fun kend => (Ks7 F x0 x1 x2 x3 kend).trans (hF none (fun y0 => kend [BV.d (.int .u32) y0]))⟩)
def Kmx  : List (FuncId × Orc) := [(168, Kh5), (177, K69)]
def Jzm  : Book := { Γ := gam, orc := Jbk Kmx, hint := Ja0 [] }
def Kdc (F : Nat) : List (LoE Unit) := []
def Jsp (F : Nat) : Jb3 Unit := { toBook := Jzm, lo := Jct (Kdc F), need := Ja1 [] }
theorem Kmy (F : Nat) : Jip prog (Jsp F) F := Ja6 (l := Kdc F) rfl fz
theorem Ks8 (F : Nat) (x_ : UInt32) (a b c : Int) (kend : List BV → ZO) : Jan prog (Jsp F) F 20 167 [.d (.int .u32) x_, .d (.int .i64) a, .d (.int .i64) b, .d (.int .i64) c, .f 177] [.d (.int .u32)] kend = Krj F x_ a b c none (fun y0 => kend [BV.d (.int .u32) y0]) := by kernel_rfl
theorem J3w  : Jae prog 167 (Orc.of [.d (.int .u32), .d (.int .i64), .d (.int .i64), .d (.int .i64), .f] true 0 fun x => ((Nat.beq x.2.2.2.2.1 177) && Jfj x.1 x.2.1 x.2.2.1 x.2.2.2.1 x.2.2.2.2.1, [.d (.int .u32) (Jd7 x.1 x.2.1 x.2.2.1 x.2.2.2.1 x.2.2.2.2.1)])) := Jdu (B0 := Jzm) bkN bkG Jaq bkT (Jad (fa Jzk (fa Kmu fz))) (by kernel_rfl) (fun x h => by
 obtain ⟨x0, x1, x2, x3, x4, _⟩ := x
 simp only [Bool.and_eq_true] at h
 obtain ⟨e, h⟩ := h
 have e := Nat.eq_of_beq_eq_true e
 subst e
 obtain ⟨F, hF⟩ := Kgj x0 x1 x2 x3 h
 exact ⟨F, 20, Jsp F, rfl, Kmy F, fun kend => (Ks8 F x0 x1 x2 x3 kend).trans (hF none (fun y0 => kend [BV.d (.int .u32) y0]))⟩)
def Kmz  : Orc := Orc.of [.d (.int .u32), .d (.int .i64), .d (.int .i64), .d (.int .i64), .f] true 0 fun x => ((Nat.beq x.2.2.2.2.1 168 || Nat.beq x.2.2.2.2.1 177) && Jfj x.1 x.2.1 x.2.2.1 x.2.2.2.1 x.2.2.2.2.1, [.d (.int .u32) (Jd7 x.1 x.2.1 x.2.2.1 x.2.2.2.1 x.2.2.2.2.1)])
theorem Kas  : Jae prog 167 Kmz := Jjh Jq1.1 (fun x h => by
 obtain ⟨x0, x1, x2, x3, x4, _⟩ := x
 simp only [Bool.and_eq_true, Bool.or_eq_true] at h
 obtain ⟨e, _⟩ := h
 rcases e with e | e
 ·have e := Nat.eq_of_beq_eq_true e
  subst e
  exact ⟨_, Jq1, rfl⟩
 ·have e := Nat.eq_of_beq_eq_true e
  subst e
  exact ⟨_, J3w, rfl⟩)
@[reducible] def J7e  : List PM := []
def Kdd  : Orc := Orc.of J7e true 0 fun x => (J4m, [.d (.arr 64 (.int .u32)) (Kfk)])
def J7f  : List (FuncId × Orc) := []
theorem K0u (F : Nat) (x : Ja4 J7e) (kend : List BV → ZO) : Jan prog (bkZ J7f) F 20 176 (Jaf J7e x) [.d (.arr 64 (.int .u32))] kend = Qdd F  none (fun y0 => kend [BV.d (.arr 64 (.int .u32)) y0]) := by kernel_rfl
theorem J7g  : Jae prog 176 Kdd := Jau (B0 := bkY J7f) bkN bkG Jaq bkT K0u (Jad fz) (by kernel_rfl) (fun _ => rfl) (bkO _) (fun x h => (Klh  h).elim fun F hF => ⟨F, fun kend => hF none _⟩)
@[reducible] def J7h  : List PM := [.d (.arr 8 (.int .u32)), .d (.slc (.int .u8))]
def Kde  : Orc := Orc.of J7h true 0 fun x => (Jx7 x.1 x.2.1, [.d (.arr 8 (.int .u32)) (Kfl x.1 x.2.1)])
@[reducible] def Jg0  : Tpl := { cur := ⟨[(0, .hnd .yield 0), (0, .ptr 2 []), (1, .ptr 3 []), (0, .var (.int .i64)), (0, .var (.int .u32)), (4, .var (.arr 64 (.int .u32))), (0, .var (.int .i64)), (11, .var (.slc (.int .u8))), (0, .var (.int .i64)), (0, .var (.int .i64))], 50⟩, stk := [⟨[(0, .hnd .yield 0)], 0⟩, ⟨[(2, .ptr 4 []), (1, .ptr 5 []), (0, .ptr 1 [])], 78⟩, ⟨[], 0⟩], heap := [.lp 156 3 ⟨[(5, .ptr 1 [])], 78⟩ .ready, .box (.var (.arr 8 (.int .u32))), .box (.var (.slc (.int .u8))), .box (.var (.arr 16 (.int .u32))), .box (.var (.arr 8 (.int .u32))), .box (.var (.arr 8 (.int .u32)))] }
@[reducible] def Jg1  : Tpl := { cur := ⟨[(0, .hnd .yield 0), (0, .ptr 2 []), (1, .ptr 3 []), (6, .var (.arr 64 (.int .u32))), (0, .var (.int .i64))], 64⟩, stk := [⟨[(0, .hnd .yield 0)], 0⟩, ⟨[(2, .ptr 4 []), (1, .ptr 5 []), (0, .ptr 1 [])], 78⟩, ⟨[], 0⟩], heap := [.lp 156 3 ⟨[(5, .ptr 1 [])], 78⟩ .ready, .box (.var (.arr 8 (.int .u32))), .box (.var (.slc (.int .u8))), .box (.var (.arr 16 (.int .u32))), .box (.var (.arr 8 (.int .u32))), .box (.var (.arr 8 (.int .u32)))] }
@[reducible] def Jg2  : Tpl := { cur := ⟨[(2, .ptr 0 []), (1, .ptr 1 []), (0, .ptr 2 []), (65, .var (.int .i64))], 12⟩, stk := [⟨[], 0⟩], heap := [.box (.var (.arr 8 (.int .u32))), .box (.var (.arr 8 (.int .u32))), .box (.var (.arr 8 (.int .u32)))] }
def Ks9  : List (FuncId × Orc) := [(167, Kmz), (176, Kdd)]
def J2y  : Book := { Γ := gam, orc := Jbk Ks9, hint := Ja0 [(156, { keep := some [2, 4, 5, 71], keeps := [(9, [2, 4, 5, 71])], own := [], dat := [], stk := [] }), (175, { keep := some [0, 1, 3, 4, 5, 10, 11, 23, 24, 25], keeps := [(2, [0, 1, 3, 10, 11]), (6, [0, 1, 3, 4, 5, 10, 11, 23, 24, 25])], own := [], dat := [], stk := [[0], [2, 4, 5, 6, 7, 8, 9, 10, 15, 21]] })] }
def Kta (F : Nat) (nx : Jg0.T → ZO) (kq : ZK) (x : Jg0.T) : ZO := Jyk F none (fun i k s10 s11 s23 s24 s25 x_ s1 w s s4 => nx (((), ((), ((), (i, (k, (s10, (s11, (s23, (s24, (s25, ())))))))))), ((((), ()), (((), ((), ((), ()))), ((), ()))), (((), ()), (x_, (s1, (w, (s, (s4, ()))))))))) (fun y0 y1 y2 y3 y4 y5 y6 y7 y8 y9 y10 y11 => kq (.exit 2) (Jg0.inst (((), ((), ((), (y0, (y1, (y2, (y3, (y4, (y5, (y6, ())))))))))), ((((), ()), (((), ((), ((), ()))), ((), ()))), (((), ()), (y7, (y8, (y9, (y10, (y11, ())))))))))) x.1.2.2.2.1 x.1.2.2.2.2.1 x.1.2.2.2.2.2.1 x.1.2.2.2.2.2.2.1 x.1.2.2.2.2.2.2.2.1 x.1.2.2.2.2.2.2.2.2.1 x.1.2.2.2.2.2.2.2.2.2.1 x.2.2.2.1 x.2.2.2.2.1 x.2.2.2.2.2.1 x.2.2.2.2.2.2.1 x.2.2.2.2.2.2.2.1
def Ktb (F m : Nat) (x : Jg0.T) (kq : ZK) : ZO := Jhr F none (fun y0 y1 y2 y3 y4 y5 y6 y7 y8 y9 y10 y11 => kq (.exit 2) (Jg0.inst (((), ((), ((), (y0, (y1, (y2, (y3, (y4, (y5, (y6, ())))))))))), ((((), ()), (((), ((), ((), ()))), ((), ()))), (((), ()), (y7, (y8, (y9, (y10, (y11, ())))))))))) m x.1.2.2.2.1 x.1.2.2.2.2.1 x.1.2.2.2.2.2.1 x.1.2.2.2.2.2.2.1 x.1.2.2.2.2.2.2.2.1 x.1.2.2.2.2.2.2.2.2.1 x.1.2.2.2.2.2.2.2.2.2.1 x.2.2.2.1 x.2.2.2.2.1 x.2.2.2.2.2.1 x.2.2.2.2.2.2.1 x.2.2.2.2.2.2.2.1
def Ktc (F : Nat) (nx : Jg1.T → ZO) (kq : ZK) (x : Jg1.T) : ZO := Jyl F none (fun s10 s11 x_ s1 w s s4 => nx (((), ((), ((), (s10, (s11, ()))))), ((((), ()), (((), ((), ((), ()))), ((), ()))), (((), ()), (x_, (s1, (w, (s, (s4, ()))))))))) (fun y0 y1 y2 y3 y4 y5 y6 => kq (.exit 0) (Jg1.inst (((), ((), ((), (y0, (y1, ()))))), ((((), ()), (((), ((), ((), ()))), ((), ()))), (((), ()), (y2, (y3, (y4, (y5, (y6, ())))))))))) x.1.2.2.2.1 x.1.2.2.2.2.1 x.2.2.2.1 x.2.2.2.2.1 x.2.2.2.2.2.1 x.2.2.2.2.2.2.1 x.2.2.2.2.2.2.2.1
def Ktd (F m : Nat) (x : Jg1.T) (kq : ZK) : ZO := Jlh F none (fun y0 y1 y2 y3 y4 y5 y6 => kq (.exit 0) (Jg1.inst (((), ((), ((), (y0, (y1, ()))))), ((((), ()), (((), ((), ((), ()))), ((), ()))), (((), ()), (y2, (y3, (y4, (y5, (y6, ())))))))))) m x.1.2.2.2.1 x.1.2.2.2.2.1 x.2.2.2.1 x.2.2.2.2.1 x.2.2.2.2.2.1 x.2.2.2.2.2.2.1 x.2.2.2.2.2.2.2.1
def Kte (F : Nat) (nx : Jg2.T → ZO) (kq : ZK) (x : Jg2.T) : ZO := Kk7 F none (fun s71 s s4 x_ => nx (((), ((), ((), (s71, ())))), (((), ()), (s, (s4, (x_, ())))))) (fun y0 y1 y2 y3 => kq (.exit 2) (Jg2.inst (((), ((), ((), (y0, ())))), (((), ()), (y1, (y2, (y3, ()))))))) x.1.2.2.2.1 x.2.2.1 x.2.2.2.1 x.2.2.2.2.1
def Ktf (F m : Nat) (x : Jg2.T) (kq : ZK) : ZO := Jol F none (fun y0 y1 y2 y3 => kq (.exit 2) (Jg2.inst (((), ((), ((), (y0, ())))), (((), ()), (y1, (y2, (y3, ()))))))) m x.1.2.2.2.1 x.2.2.1 x.2.2.2.1 x.2.2.2.2.1
def Km0 (F : Nat) : List (LoE Unit) := [⟨175, 6, LO.of Jg0 (Ktb F F)⟩,
 ⟨175, 2, LO.of Jg1 (Ktd F F)⟩,
 ⟨156, 9, LO.of Jg2 (Ktf F F)⟩]
def Jmg (F : Nat) : Jb3 Unit := { toBook := J2y, lo := Jct (Km0 F), need := Ja1 [(175, 1)] }
theorem Kat (F : Nat) : Jbw prog (Jmg F) F 175 1 6 Jg0 (Kta F) := fun d x KQ => by kernel_rfl
theorem Kau (F : Nat) : Jbw prog (Jmg F) F 175 0 2 Jg1 (Ktc F) := fun d x KQ => by kernel_rfl
theorem Kav (F : Nat) : Jbw prog (Jmg F) F 156 0 9 Jg2 (Kte F) := fun d x KQ => by kernel_rfl
theorem Ktg (F : Nat) : Jip prog (Jmg F) F := Ja6 (l := Km0 F) rfl (fa (Jal 1 (by kernel_rfl) (by kernel_rfl) (Jah (Kat F) (fun _ _ => rfl) (fun _ _ _ _ => rfl))) (fa (Jal 0 (by kernel_rfl) (by kernel_rfl) (Jah (Kau F) (fun _ _ => rfl) (fun _ _ _ _ => rfl))) (fa (Jal 0 (by kernel_rfl) (by kernel_rfl) (Jah (Kav F) (fun _ _ => rfl) (fun _ _ _ _ => rfl))) fz)))
theorem K0v (F : Nat) (x : Ja4 J7h) (kend : List BV → ZO) : Jan prog (Jmg F) F 20 156 (Jaf J7h x) [.d (.arr 8 (.int .u32))] kend = K4k F x.1 x.2.1 none (fun y0 => kend [BV.d (.arr 8 (.int .u32)) y0]) := by kernel_rfl
theorem J7i  : Jae prog 156 Kde := Jau (B0 := J2y) bkN bkG Jaq bkT K0v (Jad (fa Kas (fa J7g fz))) (by kernel_rfl) (fun _ => rfl) Ktg (fun x h => (Kll x.1 x.2.1 h).elim fun F hF => ⟨F, fun kend => hF none _⟩)
@[reducible] def Kth  : List PM := []
def Kh6  : Orc := Orc.of Kth false 0 fun x => (J2l, [.d (.pair (.arr 8 (.int .u32)) (.pair (.slc (.int .u8)) (.pair (.int .i64) .unit))) (Jgf)])
def Km1  : List (FuncId × Orc) := []
theorem Qcf (F : Nat) (x : Ja4 Kth) (kend : List BV → ZO) : Jan prog (bkZ Km1) F 20 140 (Jaf Kth x) [.d (.pair (.arr 8 (.int .u32)) (.pair (.slc (.int .u8)) (.pair (.int .i64) .unit)))] kend = hNew F  none (fun y0 => kend [BV.d (.pair (.arr 8 (.int .u32)) (.pair (.slc (.int .u8)) (.pair (.int .i64) .unit))) y0]) := by kernel_rfl
theorem Jzn  : Jae prog 140 Kh6 := Jau (B0 := bkY Km1) bkN bkG Jaq bkT Qcf (Jad fz) (by kernel_rfl) (fun _ => rfl) (bkO _) (fun x h => (Kzx  h).elim fun F hF => ⟨F, fun kend => hF none _⟩)
@[reducible] def J7j  : List PM := [.d (.pair (.arr 8 (.int .u32)) (.pair (.slc (.int .u8)) (.pair (.int .i64) .unit))), .d (.slc (.int .u8))]
def Juw  : Orc := Orc.of J7j false 0 fun x => (Jdz x.1 x.2.1, [.d (.pair (.arr 8 (.int .u32)) (.pair (.slc (.int .u8)) (.pair (.int .i64) .unit))) (Jcq x.1 x.2.1)])
@[reducible] def Jg3  : Tpl := { cur := ⟨[(1, .var (.slc (.int .u8))), (0, .ptr 0 []), (1, .ptr 1 []), (0, .ptr 2 []), (7, .var (.arr 8 (.int .u32))), (0, .var (.int .i64))], 45⟩, stk := [⟨[], 0⟩], heap := [.box (.var (.pair (.arr 8 (.int .u32)) (.pair (.slc (.int .u8)) (.pair (.int .i64) .unit)))), .box (.var (.pair (.arr 8 (.int .u32)) (.pair (.slc (.int .u8)) (.pair (.int .i64) .unit)))), .box (.var (.arr 8 (.int .u32)))] }
@[reducible] def Jg4  : Tpl := { cur := ⟨[(1, .var (.slc (.int .u8))), (0, .ptr 0 []), (1, .ptr 1 []), (0, .ptr 2 []), (2, .var (.slc (.int .u8)))], 51⟩, stk := [⟨[], 0⟩], heap := [.box (.var (.pair (.arr 8 (.int .u32)) (.pair (.slc (.int .u8)) (.pair (.int .i64) .unit)))), .box (.var (.pair (.arr 8 (.int .u32)) (.pair (.slc (.int .u8)) (.pair (.int .i64) .unit)))), .box (.var (.arr 8 (.int .u32)))] }
@[reducible] def Jg5  : Tpl := { cur := ⟨[(4, .ptr 0 []), (4, .ptr 1 []), (39, .var (.arr 8 (.int .u32))), (0, .var (.int .i64))], 9⟩, stk := [⟨[], 0⟩], heap := [.box (.var (.pair (.arr 8 (.int .u32)) (.pair (.slc (.int .u8)) (.pair (.int .i64) .unit)))), .box (.pr (.var (.arr 8 (.int .u32))) (.pr (.row 2) (.var (.pair (.int .i64) .unit)))), .row 5 (.int .u8) false] }
def Kti  : List (FuncId × Orc) := [(156, Kde)]
def J2z  : Book := { Γ := gam, orc := Jbk Kti, hint := Ja0 [(139, { keep := some [1, 2, 4, 5, 8, 9, 13, 14, 49, 50], keeps := [(3, [1, 2, 4, 5, 13, 14]), (8, [1, 2, 4, 5, 8]), (13, [4, 9, 49, 50])], own := [], dat := [], stk := [] })] }
def Ktj (F : Nat) (nx : Jg3.T → ZO) (kq : ZK) (x : Jg3.T) : ZO := Kk8 F none (fun b s13 s14 h s4 s => nx ((b, ((), ((), ((), (s13, (s14, ())))))), (((), ()), (h, (s4, (s, ())))))) (fun y0 y1 y2 y3 y4 y5 => kq (.exit 0) (Jg3.inst ((y0, ((), ((), ((), (y1, (y2, ())))))), (((), ()), (y3, (y4, (y5, ()))))))) x.1.1 x.1.2.2.2.2.1 x.1.2.2.2.2.2.1 x.2.2.1 x.2.2.2.1 x.2.2.2.2.1
def Ktk (F m : Nat) (x : Jg3.T) (kq : ZK) : ZO := Jt0 F none (fun y0 y1 y2 y3 y4 y5 => kq (.exit 0) (Jg3.inst ((y0, ((), ((), ((), (y1, (y2, ())))))), (((), ()), (y3, (y4, (y5, ()))))))) m x.1.1 x.1.2.2.2.2.1 x.1.2.2.2.2.2.1 x.2.2.1 x.2.2.2.1 x.2.2.2.2.1
def Ktl (F : Nat) (nx : Jg4.T → ZO) (kq : ZK) (x : Jg4.T) : ZO := Jym F none (fun b all h s4 s => nx ((b, ((), ((), ((), (all, ()))))), (((), ()), (h, (s4, (s, ())))))) (fun y0 y1 y2 y3 y4 => kq (.exit 2) (Jg4.inst ((y0, ((), ((), ((), (y1, ()))))), (((), ()), (y2, (y3, (y4, ()))))))) x.1.1 x.1.2.2.2.2.1 x.2.2.1 x.2.2.2.1 x.2.2.2.2.1
def Ktm (F m : Nat) (x : Jg4.T) (kq : ZK) : ZO := Jli F none (fun y0 y1 y2 y3 y4 => kq (.exit 2) (Jg4.inst ((y0, ((), ((), ((), (y1, ()))))), (((), ()), (y2, (y3, (y4, ()))))))) m x.1.1 x.1.2.2.2.2.1 x.2.2.1 x.2.2.2.1 x.2.2.2.2.1
def Ktn (F : Nat) (nx : Jg5.T → ZO) (kq : ZK) (x : Jg5.T) : ZO := Kk9 F none (fun s49 s50 s4 out out1 h2 => nx (((), ((), (s49, (s50, ())))), (((), ()), (s4, ((out, ((), out1)), (h2, ())))))) (fun y0 y1 y2 y3 y4 y5 => kq (.exit 4) (Jg5.inst (((), ((), (y0, (y1, ())))), (((), ()), (y2, ((y3, ((), y4)), (y5, ()))))))) x.1.2.2.1 x.1.2.2.2.1 x.2.2.1 x.2.2.2.1.1 x.2.2.2.1.2.2 x.2.2.2.2.1
def Kto (F m : Nat) (x : Jg5.T) (kq : ZK) : ZO := Jt1 F none (fun y0 y1 y2 y3 y4 y5 => kq (.exit 4) (Jg5.inst (((), ((), (y0, (y1, ())))), (((), ()), (y2, ((y3, ((), y4)), (y5, ()))))))) m x.1.2.2.1 x.1.2.2.2.1 x.2.2.1 x.2.2.2.1.1 x.2.2.2.1.2.2 x.2.2.2.2.1
def Km2 (F : Nat) : List (LoE Unit) := [⟨139, 3, LO.of Jg3 (Ktk F F)⟩,
 ⟨139, 8, LO.of Jg4 (Ktm F F)⟩,
 ⟨139, 13, LO.of Jg5 (Kto F F)⟩]
def Jmh (F : Nat) : Jb3 Unit := { toBook := J2z, lo := Jct (Km2 F), need := Ja1 [] }
theorem Kaw (F : Nat) : Jbw prog (Jmh F) F 139 0 3 Jg3 (Ktj F) := fun d x KQ => by kernel_rfl
theorem Kax (F : Nat) : Jbw prog (Jmh F) F 139 1 8 Jg4 (Ktl F) := fun d x KQ => by kernel_rfl
theorem Kay (F : Nat) : Jbw prog (Jmh F) F 139 2 13 Jg5 (Ktn F) := fun d x KQ => by kernel_rfl
theorem Ktp (F : Nat) : Jip prog (Jmh F) F := Ja6 (l := Km2 F) rfl (fa (Jal 0 (by kernel_rfl) (by kernel_rfl) (Jah (Kaw F) (fun _ _ => rfl) (fun _ _ _ _ => rfl))) (fa (Jal 1 (by kernel_rfl) (by kernel_rfl) (Jah (Kax F) (fun _ _ => rfl) (fun _ _ _ _ => rfl))) (fa (Jal 2 (by kernel_rfl) (by kernel_rfl) (Jah (Kay F) (fun _ _ => rfl) (fun _ _ _ _ => rfl))) fz)))
theorem K0w (F : Nat) (x : Ja4 J7j) (kend : List BV → ZO) : Jan prog (Jmh F) F 20 139 (Jaf J7j x) [.d (.pair (.arr 8 (.int .u32)) (.pair (.slc (.int .u8)) (.pair (.int .i64) .unit)))] kend = K4l F x.1 x.2.1 none (fun y0 => kend [BV.d (.pair (.arr 8 (.int .u32)) (.pair (.slc (.int .u8)) (.pair (.int .i64) .unit))) y0]) := by kernel_rfl
theorem Jmi  : Jae prog 139 Juw := Jau (B0 := J2z) bkN bkG Jaq bkT K0w (Jad (fa J7i fz)) (by kernel_rfl) (fun _ => rfl) Ktp (fun x h => (Klo x.1 x.2.1 h).elim fun F hF => ⟨F, fun kend => hF none _⟩)
@[reducible] def J1k  : List PM := [.d (.pair (.arr 8 (.int .u32)) (.pair (.slc (.int .u8)) (.pair (.int .i64) .unit)))]
def Jwv  : Orc := Orc.of J1k true 0 fun x => (Jgl x.1, [.d (.arr 32 (.int .u8)) (Jjs x.1)])
@[reducible] def Jfr  : Tpl := { cur := ⟨[(1, .ptr 0 []), (0, .ptr 1 []), (0, .row 2), (0, .var (.int .i64))], 52⟩, stk := [⟨[], 0⟩], heap := [.box (.var (.pair (.arr 8 (.int .u32)) (.pair (.slc (.int .u8)) (.pair (.int .i64) .unit)))), .box (.var (.arr 32 (.int .u8))), .row 5 (.int .u8) false] }
@[reducible] def Jfs  : Tpl := { cur := ⟨[(2, .ptr 0 []), (2, .ptr 1 []), (0, .var (.int .i64)), (0, .var (.int .u32)), (27, .var (.arr 8 (.int .u32))), (0, .var (.int .i64)), (3, .var (.int .i64))], 16⟩, stk := [⟨[], 0⟩], heap := [.box (.var (.arr 32 (.int .u8))), .box (.var (.arr 32 (.int .u8)))] }
@[reducible] def Jft  : Tpl := { cur := ⟨[(2, .ptr 0 []), (2, .ptr 1 []), (29, .var (.arr 8 (.int .u32))), (0, .var (.int .i64))], 20⟩, stk := [⟨[], 0⟩], heap := [.box (.var (.arr 32 (.int .u8))), .box (.var (.arr 32 (.int .u8)))] }
def Km3  : List (FuncId × Orc) := [(139, Juw)]
def Jzo  : Book := { Γ := gam, orc := Jbk Km3, hint := Ja0 [(138, { keep := some [1, 2, 3, 4, 5, 6, 7, 35, 36, 40], keeps := [(4, [1, 2, 3, 4]), (9, [2, 5, 35, 36]), (12, [2, 5, 6, 7, 35, 36, 40])], own := [], dat := [], stk := [] })] }
def Km4 (F : Nat) (nx : Jfr.T → ZO) (kq : ZK) (x : Jfr.T) : ZO := Jt2 F none (fun shift h s2 pad => nx (((), ((), ((), (shift, ())))), (((), ()), (h, (s2, (pad, ())))))) (fun y0 y1 y2 y3 => kq (.exit 0) (Jfr.inst (((), ((), ((), (y0, ())))), (((), ()), (y1, (y2, (y3, ()))))))) x.1.2.2.2.1 x.2.2.1 x.2.2.2.1 x.2.2.2.2.1
def Km5 (F m : Nat) (x : Jfr.T) (kq : ZK) : ZO := Jfm F none (fun y0 y1 y2 y3 => kq (.exit 0) (Jfr.inst (((), ((), ((), (y0, ())))), (((), ()), (y1, (y2, (y3, ()))))))) m x.1.2.2.2.1 x.2.2.1 x.2.2.2.1 x.2.2.2.2.1
def Km6 (F : Nat) (nx : Jfs.T → ZO) (kq : ZK) (x : Jfs.T) : ZO := Kcw F none (fun i x_ s35 s36 s40 s2 out => nx (((), ((), (i, (x_, (s35, (s36, (s40, ()))))))), (((), ()), (s2, (out, ()))))) (fun y0 y1 y2 y3 y4 y5 y6 => kq (.exit 4) (Jfs.inst (((), ((), (y0, (y1, (y2, (y3, (y4, ()))))))), (((), ()), (y5, (y6, ())))))) x.1.2.2.1 x.1.2.2.2.1 x.1.2.2.2.2.1 x.1.2.2.2.2.2.1 x.1.2.2.2.2.2.2.1 x.2.2.1 x.2.2.2.1
def Km7 (F m : Nat) (x : Jfs.T) (kq : ZK) : ZO := Jwl F none (fun y0 y1 y2 y3 y4 y5 y6 => kq (.exit 4) (Jfs.inst (((), ((), (y0, (y1, (y2, (y3, (y4, ()))))))), (((), ()), (y5, (y6, ())))))) m x.1.2.2.1 x.1.2.2.2.1 x.1.2.2.2.2.1 x.1.2.2.2.2.2.1 x.1.2.2.2.2.2.2.1 x.2.2.1 x.2.2.2.1
def Km8 (F : Nat) (nx : Jft.T → ZO) (kq : ZK) (x : Jft.T) : ZO := Kcx F none (fun s35 s36 s2 out => nx (((), ((), (s35, (s36, ())))), (((), ()), (s2, (out, ()))))) (fun y0 y1 y2 y3 => kq (.exit 2) (Jft.inst (((), ((), (y0, (y1, ())))), (((), ()), (y2, (y3, ())))))) x.1.2.2.1 x.1.2.2.2.1 x.2.2.1 x.2.2.2.1
def Km9 (F m : Nat) (x : Jft.T) (kq : ZK) : ZO := Jpw F none (fun y0 y1 y2 y3 => kq (.exit 2) (Jft.inst (((), ((), (y0, (y1, ())))), (((), ()), (y2, (y3, ())))))) m x.1.2.2.1 x.1.2.2.2.1 x.2.2.1 x.2.2.2.1
def Kdf (F : Nat) : List (LoE Unit) := [⟨138, 4, LO.of Jfr (Km5 F F)⟩,
 ⟨138, 12, LO.of Jfs (Km7 F F)⟩,
 ⟨138, 9, LO.of Jft (Km9 F F)⟩]
def Jj1 (F : Nat) : Jb3 Unit := { toBook := Jzo, lo := Jct (Kdf F), need := Ja1 [] }
theorem J7k (F : Nat) : Jbw prog (Jj1 F) F 138 0 4 Jfr (Km4 F) := fun d x KQ => by kernel_rfl
theorem J7l (F : Nat) : Jbw prog (Jj1 F) F 138 2 12 Jfs (Km6 F) := fun d x KQ => by kernel_rfl
theorem J7m (F : Nat) : Jbw prog (Jj1 F) F 138 1 9 Jft (Km8 F) := fun d x KQ => by kernel_rfl
theorem Kna (F : Nat) : Jip prog (Jj1 F) F := Ja6 (l := Kdf F) rfl (fa (Jal 0 (by kernel_rfl) (by kernel_rfl) (Jah (J7k F) (fun _ _ => rfl) (fun _ _ _ _ => rfl))) (fa (Jal 2 (by kernel_rfl) (by kernel_rfl) (Jah (J7l F) (fun _ _ => rfl) (fun _ _ _ _ => rfl))) (fa (Jal 1 (by kernel_rfl) (by kernel_rfl) (Jah (J7m F) (fun _ _ => rfl) (fun _ _ _ _ => rfl))) fz)))
theorem Ktq (F : Nat) (x : Ja4 J1k) (kend : List BV → ZO) : Jan prog (Jj1 F) F 20 138 (Jaf J1k x) [.d (.arr 32 (.int .u8))] kend = Krk F x.1 none (fun y0 => kend [BV.d (.arr 32 (.int .u8)) y0]) := by kernel_rfl
theorem Jq2  : Jae prog 138 Jwv := Jau (B0 := Jzo) bkN bkG Jaq bkT Ktq (Jad (fa Jmi fz)) (by kernel_rfl) (fun _ => rfl) Kna (fun x h => (Kgp x.1 h).elim fun F hF => ⟨F, fun kend => hF none _⟩)
@[reducible] def Ktr  : List PM := [.d (.slc (.int .u8))]
def Kyc  : Orc := Orc.of Ktr true 0 fun x => (Kk2 x.1, [.d (.arr 32 (.int .u8)) (Jvf x.1)])
def Knb  : List (FuncId × Orc) := [(138, Jwv), (139, Juw), (140, Kh6)]
theorem Qcg (F : Nat) (x : Ja4 Ktr) (kend : List BV → ZO) : Jan prog (bkZ Knb) F 20 157 (Jaf Ktr x) [.d (.arr 32 (.int .u8))] kend = dSum F x.1 none (fun y0 => kend [BV.d (.arr 32 (.int .u8)) y0]) := by kernel_rfl
theorem Kh7  : Jae prog 157 Kyc := Jau (B0 := bkY Knb) bkN bkG Jaq bkT Qcg (Jad (fa Jq2 (fa Jmi (fa Jzn fz)))) (by kernel_rfl) (fun _ => rfl) (bkO _) (fun x h => (Kzz x.1 h).elim fun F hF => ⟨F, fun kend => hF none _⟩)
@[reducible] def J1l  : List PM := []
def J7n  : Orc := Orc.of J1l true 0 fun x => (Jx8, [.d (.arr 64 (.int .u32)) (Jx9)])
def J20  : List (FuncId × Orc) := []
theorem Kts (F : Nat) (x : Ja4 J1l) (kend : List BV → ZO) : Jan prog (bkZ J20) F 20 173 (Jaf J1l x) [.d (.arr 64 (.int .u32))] kend = K4m F  none (fun y0 => kend [BV.d (.arr 64 (.int .u32)) y0]) := by kernel_rfl
theorem J3x  : Jae prog 173 J7n := Jau (B0 := bkY J20) bkN bkG Jaq bkT Kts (Jad fz) (by kernel_rfl) (fun _ => rfl) (bkO _) (fun x h => (Kgk  h).elim fun F hF => ⟨F, fun kend => hF none _⟩)
@[reducible] def Kh8  : List PM := [.d (.int .u32), .d (.int .i64)]
def J7o  : Orc := Orc.of Kh8 true 0 fun x => (Jdl x.1 x.2.1, [.d (.int .u32) (Jgi x.1 x.2.1)])
def Kdg  : List (FuncId × Orc) := []
theorem K7a (F : Nat) (x : Ja4 Kh8) (kend : List BV → ZO) : Jan prog (bkZ Kdg) F 20 174 (Jaf Kh8 x) [.d (.int .u32)] kend = Qe8 F x.1 x.2.1 none (fun y0 => kend [BV.d (.int .u32) y0]) := by kernel_rfl
theorem Jvm  : Jae prog 174 J7o := Jau (B0 := bkY Kdg) bkN bkG Jaq bkT K7a (Jad fz) (by kernel_rfl) (fun _ => rfl) (bkO _) (fun x h => (Ksa x.1 x.2.1 h).elim fun F hF => ⟨F, fun kend => hF none _⟩)
@[reducible] def J7p  : List PM := [.d (.slc (.int .u8))]
def Kdh  : Orc := Orc.of J7p true 0 fun x => (Jya x.1, [.d (.arr 64 (.int .u32)) (J4n x.1)])
@[reducible] def Jg6  : Tpl := { cur := ⟨[(0, .var (.slc (.int .u8))), (1, .ptr 0 []), (0, .ptr 1 []), (0, .var (.int .i64)), (0, .var (.int .i64))], 80⟩, stk := [⟨[], 0⟩], heap := [.box (.var (.arr 64 (.int .u32))), .box (.var (.arr 64 (.int .u32)))] }
@[reducible] def Jg7  : Tpl := { cur := ⟨[(0, .var (.slc (.int .u8))), (1, .ptr 0 []), (0, .ptr 1 []), (0, .var (.int .i64))], 81⟩, stk := [⟨[], 0⟩], heap := [.box (.var (.arr 64 (.int .u32))), .box (.var (.arr 64 (.int .u32)))] }
@[reducible] def Jg8  : Tpl := { cur := ⟨[(2, .ptr 0 []), (0, .ptr 1 []), (2, .var (.int .i64))], 79⟩, stk := [⟨[], 0⟩], heap := [.box (.var (.arr 64 (.int .u32))), .box (.var (.arr 64 (.int .u32)))] }
def Ktt  : List (FuncId × Orc) := [(174, J7o)]
def J21  : Book := { Γ := gam, orc := Jbk Ktt, hint := Ja0 [(172, { keep := some [0, 2, 3, 4, 5, 6], keeps := [(3, [0, 2, 3, 4]), (6, [0, 2, 3, 4, 5]), (10, [2, 3, 6])], own := [], dat := [], stk := [] })] }
def Ktu (F : Nat) (nx : Jg6.T → ZO) (kq : ZK) (x : Jg6.T) : ZO := Jyn F none (fun block i k s2 w => nx ((block, ((), ((), (i, (k, ()))))), (((), ()), (s2, (w, ()))))) (fun y0 y1 y2 y3 y4 => kq (.exit 2) (Jg6.inst ((y0, ((), ((), (y1, (y2, ()))))), (((), ()), (y3, (y4, ())))))) x.1.1 x.1.2.2.2.1 x.1.2.2.2.2.1 x.2.2.1 x.2.2.2.1
def Ktv (F m : Nat) (x : Jg6.T) (kq : ZK) : ZO := Jhs F none (fun y0 y1 y2 y3 y4 => kq (.exit 2) (Jg6.inst ((y0, ((), ((), (y1, (y2, ()))))), (((), ()), (y3, (y4, ())))))) m x.1.1 x.1.2.2.2.1 x.1.2.2.2.2.1 x.2.2.1 x.2.2.2.1
def Ktw (F : Nat) (nx : Jg7.T → ZO) (kq : ZK) (x : Jg7.T) : ZO := Jyo F none (fun block i s2 w => nx ((block, ((), ((), (i, ())))), (((), ()), (s2, (w, ()))))) (fun y0 y1 y2 y3 => kq (.exit 0) (Jg7.inst ((y0, ((), ((), (y1, ())))), (((), ()), (y2, (y3, ())))))) x.1.1 x.1.2.2.2.1 x.2.2.1 x.2.2.2.1
def Ktx (F m : Nat) (x : Jg7.T) (kq : ZK) : ZO := Jlj F none (fun y0 y1 y2 y3 => kq (.exit 0) (Jg7.inst ((y0, ((), ((), (y1, ())))), (((), ()), (y2, (y3, ())))))) m x.1.1 x.1.2.2.2.1 x.2.2.1 x.2.2.2.1
def Kty (F : Nat) (nx : Jg8.T → ZO) (kq : ZK) (x : Jg8.T) : ZO := Jyp F none (fun i s2 w => nx (((), ((), (i, ()))), (((), ()), (s2, (w, ()))))) (fun y0 y1 y2 => kq (.exit 4) (Jg8.inst (((), ((), (y0, ()))), (((), ()), (y1, (y2, ())))))) x.1.2.2.1 x.2.2.1 x.2.2.2.1
def Ktz (F m : Nat) (x : Jg8.T) (kq : ZK) : ZO := Jlk F none (fun y0 y1 y2 => kq (.exit 4) (Jg8.inst (((), ((), (y0, ()))), (((), ()), (y1, (y2, ())))))) m x.1.2.2.1 x.2.2.1 x.2.2.2.1
def Knc (F : Nat) : List (LoE Unit) := [⟨172, 6, LO.of Jg6 (Ktv F F)⟩,
 ⟨172, 3, LO.of Jg7 (Ktx F F)⟩,
 ⟨172, 10, LO.of Jg8 (Ktz F F)⟩]
def Jmj (F : Nat) : Jb3 Unit := { toBook := J21, lo := Jct (Knc F), need := Ja1 [] }
theorem Kaz (F : Nat) : Jbw prog (Jmj F) F 172 1 6 Jg6 (Ktu F) := fun d x KQ => by kernel_rfl
theorem Ka0 (F : Nat) : Jbw prog (Jmj F) F 172 0 3 Jg7 (Ktw F) := fun d x KQ => by kernel_rfl
theorem Ka1 (F : Nat) : Jbw prog (Jmj F) F 172 2 10 Jg8 (Kty F) := fun d x KQ => by kernel_rfl
theorem Kt0 (F : Nat) : Jip prog (Jmj F) F := Ja6 (l := Knc F) rfl (fa (Jal 1 (by kernel_rfl) (by kernel_rfl) (Jah (Kaz F) (fun _ _ => rfl) (fun _ _ _ _ => rfl))) (fa (Jal 0 (by kernel_rfl) (by kernel_rfl) (Jah (Ka0 F) (fun _ _ => rfl) (fun _ _ _ _ => rfl))) (fa (Jal 2 (by kernel_rfl) (by kernel_rfl) (Jah (Ka1 F) (fun _ _ => rfl) (fun _ _ _ _ => rfl))) fz)))
theorem K0x (F : Nat) (x : Ja4 J7p) (kend : List BV → ZO) : Jan prog (Jmj F) F 20 172 (Jaf J7p x) [.d (.arr 64 (.int .u32))] kend = K4n F x.1 none (fun y0 => kend [BV.d (.arr 64 (.int .u32)) y0]) := by kernel_rfl
theorem J7q  : Jae prog 172 Kdh := Jau (B0 := J21) bkN bkG Jaq bkT K0x (Jad (fa Jvm fz)) (by kernel_rfl) (fun _ => rfl) Kt0 (fun x h => (Klm x.1 h).elim fun F hF => ⟨F, fun kend => hF none _⟩)
@[reducible] def J1m  : List PM := [.d (.arr 8 (.int .u32)), .d (.slc (.int .u8))]
def J7r  : Orc := Orc.of J1m true 0 fun x => (Jry x.1 x.2.1, [.d (.arr 8 (.int .u32)) (Jn8 x.1 x.2.1)])
@[reducible] def Jfu  : Tpl := { cur := ⟨[(2, .ptr 0 []), (1, .ptr 1 []), (0, .ptr 2 []), (0, .ptr 3 []), (0, .var (.int .u32)), (0, .var (.int .u32)), (0, .var (.int .u32)), (0, .var (.int .u32)), (0, .var (.int .u32)), (0, .var (.int .u32)), (0, .var (.int .u32)), (0, .var (.int .u32)), (0, .var (.int .i64))], 117⟩, stk := [⟨[], 0⟩], heap := [.box (.var (.arr 8 (.int .u32))), .box (.var (.arr 8 (.int .u32))), .box (.var (.arr 64 (.int .u32))), .box (.var (.arr 64 (.int .u32)))] }
def Knd  : List (FuncId × Orc) := [(172, Kdh), (173, J7n), (174, J7o)]
def Jzp  : Book := { Γ := gam, orc := Jbk Knd, hint := Ja0 [(165, { keep := some [2, 4, 5, 6, 7, 8, 9, 10, 11, 12, 13, 14, 15], keeps := [(4, [2, 4, 5, 6, 7, 8, 9, 10, 11, 12, 13, 14, 15])], own := [], dat := [], stk := [] })] }
def Kne (F : Nat) (nx : Jfu.T → ZO) (kq : ZK) (x : Jfu.T) : ZO := Jt3 F none (fun a b c d_ e_ f g h i state s4 w k => nx (((), ((), ((), ((), (a, (b, (c, (d_, (e_, (f, (g, (h, (i, ()))))))))))))), (((), ()), (state, (s4, (w, (k, ()))))))) (fun y0 y1 y2 y3 y4 y5 y6 y7 y8 y9 y10 y11 y12 => kq (.exit 0) (Jfu.inst (((), ((), ((), ((), (y0, (y1, (y2, (y3, (y4, (y5, (y6, (y7, (y8, ()))))))))))))), (((), ()), (y9, (y10, (y11, (y12, ())))))))) x.1.2.2.2.2.1 x.1.2.2.2.2.2.1 x.1.2.2.2.2.2.2.1 x.1.2.2.2.2.2.2.2.1 x.1.2.2.2.2.2.2.2.2.1 x.1.2.2.2.2.2.2.2.2.2.1 x.1.2.2.2.2.2.2.2.2.2.2.1 x.1.2.2.2.2.2.2.2.2.2.2.2.1 x.1.2.2.2.2.2.2.2.2.2.2.2.2.1 x.2.2.1 x.2.2.2.1 x.2.2.2.2.1 x.2.2.2.2.2.1
def Knf (F m : Nat) (x : Jfu.T) (kq : ZK) : ZO := Ji3 F none (fun y0 y1 y2 y3 y4 y5 y6 y7 y8 y9 y10 y11 y12 => kq (.exit 0) (Jfu.inst (((), ((), ((), ((), (y0, (y1, (y2, (y3, (y4, (y5, (y6, (y7, (y8, ()))))))))))))), (((), ()), (y9, (y10, (y11, (y12, ())))))))) m x.1.2.2.2.2.1 x.1.2.2.2.2.2.1 x.1.2.2.2.2.2.2.1 x.1.2.2.2.2.2.2.2.1 x.1.2.2.2.2.2.2.2.2.1 x.1.2.2.2.2.2.2.2.2.2.1 x.1.2.2.2.2.2.2.2.2.2.2.1 x.1.2.2.2.2.2.2.2.2.2.2.2.1 x.1.2.2.2.2.2.2.2.2.2.2.2.2.1 x.2.2.1 x.2.2.2.1 x.2.2.2.2.1 x.2.2.2.2.2.1
def Kdi (F : Nat) : List (LoE Unit) := [⟨165, 4, LO.of Jfu (Knf F F)⟩]
def Jsq (F : Nat) : Jb3 Unit := { toBook := Jzp, lo := Jct (Kdi F), need := Ja1 [] }
theorem J7s (F : Nat) : Jbw prog (Jsq F) F 165 0 4 Jfu (Kne F) := fun d x KQ => by kernel_rfl
theorem Kng (F : Nat) : Jip prog (Jsq F) F := Ja6 (l := Kdi F) rfl (fa (Jal 0 (by kernel_rfl) (by kernel_rfl) (Jah (J7s F) (fun _ _ => rfl) (fun _ _ _ _ => rfl))) fz)
theorem Kt1 (F : Nat) (x : Ja4 J1m) (kend : List BV → ZO) : Jan prog (Jsq F) F 20 165 (Jaf J1m x) [.d (.arr 8 (.int .u32))] kend = Krl F x.1 x.2.1 none (fun y0 => kend [BV.d (.arr 8 (.int .u32)) y0]) := by kernel_rfl
theorem J3y  : Jae prog 165 J7r := Jau (B0 := Jzp) bkN bkG Jaq bkT Kt1 (Jad (fa J7q (fa J3x (fa Jvm fz)))) (by kernel_rfl) (fun _ => rfl) Kng (fun x h => (Kgm x.1 x.2.1 h).elim fun F hF => ⟨F, fun kend => hF none _⟩)
@[reducible] def Kt2  : List PM := []
def Kyd  : Orc := Orc.of Kt2 false 0 fun x => (Kwx, [.d (.pair (.arr 8 (.int .u32)) (.pair (.slc (.int .u8)) (.pair (.int .i64) .unit))) (J2n)])
def Knh  : List (FuncId × Orc) := []
theorem Qch (F : Nat) (x : Ja4 Kt2) (kend : List BV → ZO) : Jan prog (bkZ Knh) F 20 154 (Jaf Kt2 x) [.d (.pair (.arr 8 (.int .u32)) (.pair (.slc (.int .u8)) (.pair (.int .i64) .unit)))] kend = sNew F  none (fun y0 => kend [BV.d (.pair (.arr 8 (.int .u32)) (.pair (.slc (.int .u8)) (.pair (.int .i64) .unit))) y0]) := by kernel_rfl
theorem Kh9  : Jae prog 154 Kyd := Jau (B0 := bkY Knh) bkN bkG Jaq bkT Qch (Jad fz) (by kernel_rfl) (fun _ => rfl) (bkO _) (fun x h => (Kzy  h).elim fun F hF => ⟨F, fun kend => hF none _⟩)
@[reducible] def J7t  : List PM := [.d (.pair (.arr 8 (.int .u32)) (.pair (.slc (.int .u8)) (.pair (.int .i64) .unit)))]
def Kdj  : Orc := Orc.of J7t true 0 fun x => (true, [.d (.int .i64) (Jyb x.1)])
def J7u  : List (FuncId × Orc) := []
theorem K0y (F : Nat) (x : Ja4 J7t) (kend : List BV → ZO) : Jan prog (bkZ J7u) F 20 164 (Jaf J7t x) [.d (.int .i64)] kend = K4o F x.1 none (fun y0 => kend [BV.d (.int .i64) y0]) := by kernel_rfl
theorem J7v  : Jae prog 164 Kdj := Jau (B0 := bkY J7u) bkN bkG Jaq bkT K0y (Jad fz) (by kernel_rfl) (fun _ => rfl) (bkO _) (fun x _ => (Kln x.1).elim fun F hF => ⟨F, fun kend => hF none _⟩)
@[reducible] def J1n  : List PM := [.d (.pair (.arr 8 (.int .u32)) (.pair (.slc (.int .u8)) (.pair (.int .i64) .unit))), .d (.slc (.int .u8))]
def Jww  : Orc := Orc.of J1n false 0 fun x => (Jh7 x.1 x.2.1, [.d (.pair (.arr 8 (.int .u32)) (.pair (.slc (.int .u8)) (.pair (.int .i64) .unit))) (Jn9 x.1 x.2.1)])
@[reducible] def Jfv  : Tpl := { cur := ⟨[(2, .ptr 0 []), (1, .ptr 1 []), (0, .var (.slc (.int .u8)))], 26⟩, stk := [⟨[], 0⟩], heap := [.box (.var (.pair (.arr 8 (.int .u32)) (.pair (.slc (.int .u8)) (.pair (.int .i64) .unit)))), .box (.var (.pair (.arr 8 (.int .u32)) (.pair (.slc (.int .u8)) (.pair (.int .i64) .unit))))] }
def Kni  : List (FuncId × Orc) := [(165, J7r)]
def Jzq  : Book := { Γ := gam, orc := Jbk Kni, hint := Ja0 [(153, { keep := some [2, 4, 5], keeps := [(3, [2, 4, 5])], own := [], dat := [(5, 24)], stk := [] })] }
def Knj (F : Nat) (nx : Jfv.T → ZO) (kq : ZK) (x : Jfv.T) : ZO := Jt4 F none (fun all h s4 => nx (((), ((), (all, ()))), (((), ()), (h, (s4, ()))))) (fun y0 y1 y2 => kq (.exit 0) (Jfv.inst (((), ((), (y0, ()))), (((), ()), (y1, (y2, ())))))) x.1.2.2.1 x.2.2.1 x.2.2.2.1
def Knk (F m : Nat) (x : Jfv.T) (kq : ZK) : ZO := Ji4 F none (fun y0 y1 y2 => kq (.exit 0) (Jfv.inst (((), ((), (y0, ()))), (((), ()), (y1, (y2, ())))))) m x.1.2.2.1 x.2.2.1 x.2.2.2.1
def Kdk (F : Nat) : List (LoE Unit) := [⟨153, 3, LO.of Jfv (Knk F F)⟩]
def Jsr (F : Nat) : Jb3 Unit := { toBook := Jzq, lo := Jct (Kdk F), need := Ja1 [] }
theorem J7w (F : Nat) : Jbw prog (Jsr F) F 153 0 3 Jfv (Knj F) := fun d x KQ => by kernel_rfl
theorem Knl (F : Nat) : Jip prog (Jsr F) F := Ja6 (l := Kdk F) rfl (fa (Jal 0 (by kernel_rfl) (by kernel_rfl) (Jah (J7w F) (fun _ _ => rfl) (fun _ _ _ _ => rfl))) fz)
theorem Kt3 (F : Nat) (x : Ja4 J1n) (kend : List BV → ZO) : Jan prog (Jsr F) F 20 153 (Jaf J1n x) [.d (.pair (.arr 8 (.int .u32)) (.pair (.slc (.int .u8)) (.pair (.int .i64) .unit)))] kend = Krm F x.1 x.2.1 none (fun y0 => kend [BV.d (.pair (.arr 8 (.int .u32)) (.pair (.slc (.int .u8)) (.pair (.int .i64) .unit))) y0]) := by kernel_rfl
theorem Jq3  : Jae prog 153 Jww := Jau (B0 := Jzq) bkN bkG Jaq bkT Kt3 (Jad (fa J3y fz)) (by kernel_rfl) (fun _ => rfl) Knl (fun x h => (Kgn x.1 x.2.1 h).elim fun F hF => ⟨F, fun kend => hF none _⟩)
@[reducible] def J1o  : List PM := [.d (.pair (.arr 8 (.int .u32)) (.pair (.slc (.int .u8)) (.pair (.int .i64) .unit)))]
def J7x  : Orc := Orc.of J1o true 0 fun x => (Jrz x.1, [.d (.arr 32 (.int .u8)) (Jtr x.1), .d (.int .i64) (J0s x.1)])
@[reducible] def Jfw  : Tpl := { cur := ⟨[(1, .ptr 0 []), (0, .ptr 1 []), (1, .var (.int .u64)), (0, .row 2)], 56⟩, stk := [⟨[], 0⟩], heap := [.box (.var (.pair (.arr 8 (.int .u32)) (.pair (.slc (.int .u8)) (.pair (.int .i64) .unit)))), .box (.var (.arr 32 (.int .u8))), .row 5 (.int .u8) false] }
@[reducible] def Jfx  : Tpl := { cur := ⟨[(1, .ptr 0 []), (0, .ptr 1 []), (1, .var (.int .u64)), (0, .row 2), (0, .var (.int .i64))], 55⟩, stk := [⟨[], 0⟩], heap := [.box (.var (.pair (.arr 8 (.int .u32)) (.pair (.slc (.int .u8)) (.pair (.int .i64) .unit)))), .box (.var (.arr 32 (.int .u8))), .row 5 (.int .u8) false] }
@[reducible] def Jfy  : Tpl := { cur := ⟨[(1, .ptr 0 []), (0, .ptr 1 []), (4, .ptr 2 []), (0, .var (.int .i64))], 53⟩, stk := [⟨[], 0⟩], heap := [.box (.var (.pair (.arr 8 (.int .u32)) (.pair (.slc (.int .u8)) (.pair (.int .i64) .unit)))), .box (.var (.arr 32 (.int .u8))), .box (.var (.arr 32 (.int .u8)))] }
def Knm  : List (FuncId × Orc) := [(153, Jww), (164, Kdj)]
def Jzr  : Book := { Γ := gam, orc := Jbk Knm, hint := Ja0 [(152, { keep := some [1, 2, 4, 5, 6, 7, 8], keeps := [(5, [1, 2, 4, 5]), (8, [1, 2, 4, 5, 6]), (14, [1, 2, 7, 8])], own := [], dat := [], stk := [] })] }
def Knn (F : Nat) (nx : Jfw.T → ZO) (kq : ZK) (x : Jfw.T) : ZO := Jt5 F none (fun bits h s2 pad => nx (((), ((), (bits, ((), ())))), (((), ()), (h, (s2, (pad, ())))))) (fun y0 y1 y2 y3 => kq (.exit 0) (Jfw.inst (((), ((), (y0, ((), ())))), (((), ()), (y1, (y2, (y3, ()))))))) x.1.2.2.1 x.2.2.1 x.2.2.2.1 x.2.2.2.2.1
def Kno (F m : Nat) (x : Jfw.T) (kq : ZK) : ZO := Ji5 F none (fun y0 y1 y2 y3 => kq (.exit 0) (Jfw.inst (((), ((), (y0, ((), ())))), (((), ()), (y1, (y2, (y3, ()))))))) m x.1.2.2.1 x.2.2.1 x.2.2.2.1 x.2.2.2.2.1
def Knp (F : Nat) (nx : Jfx.T → ZO) (kq : ZK) (x : Jfx.T) : ZO := Jt6 F none (fun bits i h s2 pad => nx (((), ((), (bits, ((), (i, ()))))), (((), ()), (h, (s2, (pad, ())))))) (fun y0 y1 y2 y3 y4 => kq (.exit 2) (Jfx.inst (((), ((), (y0, ((), (y1, ()))))), (((), ()), (y2, (y3, (y4, ()))))))) x.1.2.2.1 x.1.2.2.2.2.1 x.2.2.1 x.2.2.2.1 x.2.2.2.2.1
def Knq (F m : Nat) (x : Jfx.T) (kq : ZK) : ZO := Jfn F none (fun y0 y1 y2 y3 y4 => kq (.exit 2) (Jfx.inst (((), ((), (y0, ((), (y1, ()))))), (((), ()), (y2, (y3, (y4, ()))))))) m x.1.2.2.1 x.1.2.2.2.2.1 x.2.2.1 x.2.2.2.1 x.2.2.2.2.1
def Knr (F : Nat) (nx : Jfy.T → ZO) (kq : ZK) (x : Jfy.T) : ZO := Kcy F none (fun i h s2 out => nx (((), ((), ((), (i, ())))), (((), ()), (h, (s2, (out, ())))))) (fun y0 y1 y2 y3 => kq (.exit 4) (Jfy.inst (((), ((), ((), (y0, ())))), (((), ()), (y1, (y2, (y3, ()))))))) x.1.2.2.2.1 x.2.2.1 x.2.2.2.1 x.2.2.2.2.1
def Kns (F m : Nat) (x : Jfy.T) (kq : ZK) : ZO := Jpx F none (fun y0 y1 y2 y3 => kq (.exit 4) (Jfy.inst (((), ((), ((), (y0, ())))), (((), ()), (y1, (y2, (y3, ()))))))) m x.1.2.2.2.1 x.2.2.1 x.2.2.2.1 x.2.2.2.2.1
def Kdl (F : Nat) : List (LoE Unit) := [⟨152, 5, LO.of Jfw (Kno F F)⟩,
 ⟨152, 8, LO.of Jfx (Knq F F)⟩,
 ⟨152, 14, LO.of Jfy (Kns F F)⟩]
def Jj2 (F : Nat) : Jb3 Unit := { toBook := Jzr, lo := Jct (Kdl F), need := Ja1 [] }
theorem J7y (F : Nat) : Jbw prog (Jj2 F) F 152 0 5 Jfw (Knn F) := fun d x KQ => by kernel_rfl
theorem J7z (F : Nat) : Jbw prog (Jj2 F) F 152 1 8 Jfx (Knp F) := fun d x KQ => by kernel_rfl
theorem J70 (F : Nat) : Jbw prog (Jj2 F) F 152 2 14 Jfy (Knr F) := fun d x KQ => by kernel_rfl
theorem Knt (F : Nat) : Jip prog (Jj2 F) F := Ja6 (l := Kdl F) rfl (fa (Jal 0 (by kernel_rfl) (by kernel_rfl) (Jah (J7y F) (fun _ _ => rfl) (fun _ _ _ _ => rfl))) (fa (Jal 1 (by kernel_rfl) (by kernel_rfl) (Jah (J7z F) (fun _ _ => rfl) (fun _ _ _ _ => rfl))) (fa (Jal 2 (by kernel_rfl) (by kernel_rfl) (Jah (J70 F) (fun _ _ => rfl) (fun _ _ _ _ => rfl))) fz)))
theorem Kt4 (F : Nat) (x : Ja4 J1o) (kend : List BV → ZO) : Jan prog (Jj2 F) F 20 152 (Jaf J1o x) [.d (.arr 32 (.int .u8)), .d (.int .i64)] kend = Krn F x.1 none (fun y0 y1 => kend [BV.d (.arr 32 (.int .u8)) y0, BV.d (.int .i64) y1]) := by kernel_rfl
theorem J3z  : Jae prog 152 J7x := Jau (B0 := Jzr) bkN bkG Jaq bkT Kt4 (Jad (fa Jq3 (fa J7v fz))) (by kernel_rfl) (fun _ => rfl) Knt (fun x h => (Kgq x.1 h).elim fun F hF => ⟨F, fun kend => hF none _⟩)
@[reducible] def Kt5  : List PM := [.d (.slc (.int .u8))]
def Kye  : Orc := Orc.of Kt5 true 0 fun x => (Joa x.1, [.d (.arr 32 (.int .u8)) (Jgm x.1)])
def Knu  : List (FuncId × Orc) := [(152, J7x), (153, Jww), (154, Kyd)]
theorem Qci (F : Nat) (x : Ja4 Kt5) (kend : List BV → ZO) : Jan prog (bkZ Knu) F 20 133 (Jaf Kt5 x) [.d (.arr 32 (.int .u8))] kend = rSum F x.1 none (fun y0 => kend [BV.d (.arr 32 (.int .u8)) y0]) := by kernel_rfl
theorem Kia  : Jae prog 133 Kye := Jau (B0 := bkY Knu) bkN bkG Jaq bkT Qci (Jad (fa J3z (fa Jq3 (fa Kh9 fz)))) (by kernel_rfl) (fun _ => rfl) (bkO _) (fun x h => (Kz0 x.1 h).elim fun F hF => ⟨F, fun kend => hF none _⟩)
end Go.AI
namespace Go.AI
open Go
open Go.Proofs.Tryz (prog)
set_option linter.unusedVariables false
@[reducible] def J71  : List PM := [.d (.slc (.int .u8)), .d (.int .u8)]
def Kdm  : Orc := Orc.of J71 true 1 fun x => (Jtq x.1 x.2.1, [.o 5 (.int .u8) (Jd9 x.1 x.2.1)])
@[reducible] def Jg9  : Tpl := { cur := ⟨[(1, .var (.int .u8)), (4, .row 0), (12, .var (.int .i64)), (0, .var (.int .i64))], 11⟩, stk := [⟨[], 0⟩], heap := [.row 5 (.int .u8) false] }
def Kt6  : List (FuncId × Orc) := [(157, Kyc)]
def J22  : Book := { Γ := gam, orc := Jbk Kt6, hint := Ja0 [(141, { keep := some [1, 6, 19, 20], keeps := [(7, [1, 6, 19, 20])], own := [], dat := [], stk := [] })] }
def Kt7 (F : Nat) (nx : Jg9.T → ZO) (kq : ZK) (x : Jg9.T) : ZO := Jyq F none (fun by_ s19 s20 out => nx ((by_, ((), (s19, (s20, ())))), (((), ()), (out, ())))) (fun y0 y1 y2 y3 => kq (.exit 0) (Jg9.inst ((y0, ((), (y1, (y2, ())))), (((), ()), (y3, ()))))) x.1.1 x.1.2.2.1 x.1.2.2.2.1 x.2.2.1
def Kt8 (F m : Nat) (x : Jg9.T) (kq : ZK) : ZO := Ji6 F none (fun y0 y1 y2 y3 => kq (.exit 0) (Jg9.inst ((y0, ((), (y1, (y2, ())))), (((), ()), (y3, ()))))) m x.1.1 x.1.2.2.1 x.1.2.2.2.1 x.2.2.1
def Knv (F : Nat) : List (LoE Unit) := [⟨141, 7, LO.of Jg9 (Kt8 F F)⟩]
def Jwx (F : Nat) : Jb3 Unit := { toBook := J22, lo := Jct (Knv F), need := Ja1 [] }
theorem Ka2 (F : Nat) : Jbw prog (Jwx F) F 141 0 7 Jg9 (Kt7 F) := fun d x KQ => by kernel_rfl
theorem Kt9 (F : Nat) : Jip prog (Jwx F) F := Ja6 (l := Knv F) rfl (fa (Jal 0 (by kernel_rfl) (by kernel_rfl) (Jah (Ka2 F) (fun _ _ => rfl) (fun _ _ _ _ => rfl))) fz)
theorem K0z (F : Nat) (x : Ja4 J71) (kend : List BV → ZO) : Jan prog (Jwx F) F 20 141 (Jaf J71 x) [.o 5 (.int .u8)] kend = K4p F x.1 x.2.1 none (fun y0 => kend [BV.o 5 (.int .u8) y0]) := by kernel_rfl
theorem J72  : Jae prog 141 Kdm := Jau (B0 := J22) bkN bkG Jaq bkT K0z (Jad (fa Kh7 fz)) (by kernel_rfl) (fun _ => rfl) Kt9 (fun x h => (Klv x.1 x.2.1 h).elim fun F hF => ⟨F, fun kend => hF none _⟩)
@[reducible] def Kua  : List PM := [.d (.slc (.int .u8)), .d (.slc (.int .u8))]
def J5b  : Orc := Orc.of Kua true 0 fun x => (Jrx x.1 x.2.1, [.d (.arr 32 (.int .u8)) (J2m x.1 x.2.1)])
def Knw  : List (FuncId × Orc) := [(138, Jwv), (139, Juw), (140, Kh6), (141, Kdm)]
theorem Qcj (F : Nat) (x : Ja4 Kua) (kend : List BV → ZO) : Jan prog (bkZ Knw) F 20 103 (Jaf Kua x) [.d (.arr 32 (.int .u8))] kend = dMac F x.1 x.2.1 none (fun y0 => kend [BV.d (.arr 32 (.int .u8)) y0]) := by kernel_rfl
theorem Jqn  : Jae prog 103 J5b := Jau (B0 := bkY Knw) bkN bkG Jaq bkT Qcj (Jad (fa Jq2 (fa Jmi (fa Jzn (fa J72 fz))))) (by kernel_rfl) (fun _ => rfl) (bkO _) (fun x h => (Kz3 x.1 x.2.1 h).elim fun F hF => ⟨F, fun kend => hF none _⟩)
@[reducible] def Kub  : List PM := [.d (.slc (.int .u8)), .d (.slc (.int .u8))]
def Kib  : Orc := Orc.of Kub true 0 fun x => (Jyc x.1 x.2.1, [.d (.arr 32 (.int .u8)) (Kcp x.1 x.2.1)])
@[reducible] def Jmk  : Tpl := { cur := ⟨[(1, .var (.slc (.int .u8))), (2, .ptr 0 []), (0, .ptr 1 []), (1, .row 2), (0, .row 3), (0, .var (.int .i64))], 38⟩, stk := [⟨[], 0⟩], heap := [.box (.var (.arr 32 (.int .u8))), .box (.var (.arr 64 (.int .u8))), .row 5 (.int .u8) false, .row 5 (.int .u8) false] }
def K7b  : List (FuncId × Orc) := [(133, Kye)]
def Kdn  : Book := { Γ := gam, orc := Jbk K7b, hint := Ja0 [(89, { keep := some [1, 4, 5, 7, 8, 9], keeps := [(8, [1, 4, 5, 7, 8, 9])], own := [(7, 24), (8, 24)], dat := [], stk := [] })] }
def K7c (F : Nat) (nx : Jmk.T → ZO) (kq : ZK) (x : Jmk.T) : ZO := Kfx F none (fun b i s4 k inner outer => nx ((b, ((), ((), ((), ((), (i, ())))))), (((), ()), (s4, (k, (inner, (outer, ()))))))) (fun y0 y1 y2 y3 y4 y5 => kq (.exit 0) (Jmk.inst ((y0, ((), ((), ((), ((), (y1, ())))))), (((), ()), (y2, (y3, (y4, (y5, ())))))))) x.1.1 x.1.2.2.2.2.2.1 x.2.2.1 x.2.2.2.1 x.2.2.2.2.1 x.2.2.2.2.2.1
def K7d (F m : Nat) (x : Jmk.T) (kq : ZK) : ZO := Jp1 F none (fun y0 y1 y2 y3 y4 y5 => kq (.exit 0) (Jmk.inst ((y0, ((), ((), ((), ((), (y1, ())))))), (((), ()), (y2, (y3, (y4, (y5, ())))))))) m x.1.1 x.1.2.2.2.2.2.1 x.2.2.1 x.2.2.2.1 x.2.2.2.2.1 x.2.2.2.2.2.1
def K7e (F : Nat) : List (LoE Unit) := [⟨89, 8, LO.of Jmk (K7d F F)⟩]
def J73 (F : Nat) : Jb3 Unit := { toBook := Kdn, lo := Jct (K7e F), need := Ja1 [] }
theorem Knx (F : Nat) : Jbw prog (J73 F) F 89 0 8 Jmk (K7c F) := fun d x KQ => by kernel_rfl
theorem K7f (F : Nat) : Jip prog (J73 F) F := Ja6 (l := K7e F) rfl (fa (Jal 0 (by kernel_rfl) (by kernel_rfl) (Jah (Knx F) (fun _ _ => rfl) (fun _ _ _ _ => rfl))) fz)
theorem Qck (F : Nat) (x : Ja4 Kub) (kend : List BV → ZO) : Jan prog (J73 F) F 20 89 (Jaf Kub x) [.d (.arr 32 (.int .u8))] kend = rMac F x.1 x.2.1 none (fun y0 => kend [BV.d (.arr 32 (.int .u8)) y0]) := by kernel_rfl
theorem Jzs  : Jae prog 89 Kib := Jau (B0 := Kdn) bkN bkG Jaq bkT Qck (Jad (fa Kia fz)) (by kernel_rfl) (fun _ => rfl) K7f (fun x h => (Kz4 x.1 x.2.1 h).elim fun F hF => ⟨F, fun kend => hF none _⟩)
end Go.AI
namespace Go.AI
open Go
open Go.Proofs.Tryz (prog)
set_option linter.unusedVariables false
@[reducible] def Kic  : List PM := [.d (.int .u32), .d (.int .i64)]
def Kny  : Orc := Orc.of Kic true 0 fun x => (J0t x.1 x.2.1, [.d (.int .u32) (J6n x.1 x.2.1)])
def Kdo  : List (FuncId × Orc) := []
theorem K7g (F : Nat) (x : Ja4 Kic) (kend : List BV → ZO) : Jan prog (bkZ Kdo) F 20 169 (Jaf Kic x) [.d (.int .u32)] kend = Qfe F x.1 x.2.1 none (fun y0 => kend [BV.d (.int .u32) y0]) := by kernel_rfl
theorem Ka3  : Jae prog 169 Kny := Jau (B0 := bkY Kdo) bkN bkG Jaq bkT K7g (Jad fz) (by kernel_rfl) (fun _ => rfl) (bkO _) (fun x h => (Ksf x.1 x.2.1 h).elim fun F hF => ⟨F, fun kend => hF none _⟩)
@[reducible] def J74  : List PM := [.d (.arr 32 (.int .u8)), .d (.int .i64), .d (.int .i64)]
def Kdp  : Orc := Orc.of J74 true 0 fun x => (J4p x.1 x.2.1 x.2.2.1, [.d (.arr 16 (.int .u32)) (J4q x.1 x.2.1 x.2.2.1)])
@[reducible] def Jha  : Tpl := { cur := ⟨[(1, .var (.int .i64)), (0, .var (.int .i64)), (0, .ptr 0 []), (2, .ptr 1 []), (0, .ptr 2 []), (0, .var (.int .i64)), (2, .var (.int .i64)), (2, .var (.int .i64))], 31⟩, stk := [⟨[], 0⟩], heap := [.box (.var (.arr 32 (.int .u8))), .box (.var (.arr 16 (.int .u32))), .box (.var (.arr 16 (.int .u32)))] }
@[reducible] def Jhb  : Tpl := { cur := ⟨[(1, .var (.int .i64)), (0, .var (.int .i64)), (0, .ptr 0 []), (2, .ptr 1 []), (0, .ptr 2 []), (3, .var (.int .i64))], 34⟩, stk := [⟨[], 0⟩], heap := [.box (.var (.arr 32 (.int .u8))), .box (.var (.arr 16 (.int .u32))), .box (.var (.arr 16 (.int .u32)))] }
def Kuc  : List (FuncId × Orc) := []
def J23  : Book := { Γ := gam, orc := Jbk Kuc, hint := Ja0 [(143, { keep := some [1, 2, 3, 6, 7, 8, 11, 14], keeps := [(3, [1, 2, 3, 6, 7, 11]), (6, [1, 2, 3, 6, 7, 8, 11, 14])], own := [], dat := [], stk := [] })] }
def Kud (F : Nat) (nx : Jha.T → ZO) (kq : ZK) (x : Jha.T) : ZO := Jyr F none (fun nonce counter i s11 s14 key s6 w => nx ((nonce, (counter, ((), ((), ((), (i, (s11, (s14, ())))))))), (((), ()), (key, (s6, (w, ())))))) (fun y0 y1 y2 y3 y4 y5 y6 y7 => kq (.exit 2) (Jha.inst ((y0, (y1, ((), ((), ((), (y2, (y3, (y4, ())))))))), (((), ()), (y5, (y6, (y7, ()))))))) x.1.1 x.1.2.1 x.1.2.2.2.2.2.1 x.1.2.2.2.2.2.2.1 x.1.2.2.2.2.2.2.2.1 x.2.2.1 x.2.2.2.1 x.2.2.2.2.1
def Kue (F m : Nat) (x : Jha.T) (kq : ZK) : ZO := Jhv F none (fun y0 y1 y2 y3 y4 y5 y6 y7 => kq (.exit 2) (Jha.inst ((y0, (y1, ((), ((), ((), (y2, (y3, (y4, ())))))))), (((), ()), (y5, (y6, (y7, ()))))))) m x.1.1 x.1.2.1 x.1.2.2.2.2.2.1 x.1.2.2.2.2.2.2.1 x.1.2.2.2.2.2.2.2.1 x.2.2.1 x.2.2.2.1 x.2.2.2.2.1
def Kuf (F : Nat) (nx : Jhb.T → ZO) (kq : ZK) (x : Jhb.T) : ZO := Jys F none (fun nonce counter s11 key s6 w => nx ((nonce, (counter, ((), ((), ((), (s11, ())))))), (((), ()), (key, (s6, (w, ())))))) (fun y0 y1 y2 y3 y4 y5 => kq (.exit 0) (Jhb.inst ((y0, (y1, ((), ((), ((), (y2, ())))))), (((), ()), (y3, (y4, (y5, ()))))))) x.1.1 x.1.2.1 x.1.2.2.2.2.2.1 x.2.2.1 x.2.2.2.1 x.2.2.2.2.1
def Kug (F m : Nat) (x : Jhb.T) (kq : ZK) : ZO := Jll F none (fun y0 y1 y2 y3 y4 y5 => kq (.exit 0) (Jhb.inst ((y0, (y1, ((), ((), ((), (y2, ())))))), (((), ()), (y3, (y4, (y5, ()))))))) m x.1.1 x.1.2.1 x.1.2.2.2.2.2.1 x.2.2.1 x.2.2.2.1 x.2.2.2.2.1
def Knz (F : Nat) : List (LoE Unit) := [⟨143, 6, LO.of Jha (Kue F F)⟩,
 ⟨143, 3, LO.of Jhb (Kug F F)⟩]
def Jqo (F : Nat) : Jb3 Unit := { toBook := J23, lo := Jct (Knz F), need := Ja1 [] }
theorem Ka4 (F : Nat) : Jbw prog (Jqo F) F 143 1 6 Jha (Kud F) := fun d x KQ => by kernel_rfl
theorem Ka5 (F : Nat) : Jbw prog (Jqo F) F 143 0 3 Jhb (Kuf F) := fun d x KQ => by kernel_rfl
theorem Kuh (F : Nat) : Jip prog (Jqo F) F := Ja6 (l := Knz F) rfl (fa (Jal 1 (by kernel_rfl) (by kernel_rfl) (Jah (Ka4 F) (fun _ _ => rfl) (fun _ _ _ _ => rfl))) (fa (Jal 0 (by kernel_rfl) (by kernel_rfl) (Jah (Ka5 F) (fun _ _ => rfl) (fun _ _ _ _ => rfl))) fz))
theorem K00 (F : Nat) (x : Ja4 J74) (kend : List BV → ZO) : Jan prog (Jqo F) F 20 143 (Jaf J74 x) [.d (.arr 16 (.int .u32))] kend = K4q F x.1 x.2.1 x.2.2.1 none (fun y0 => kend [BV.d (.arr 16 (.int .u32)) y0]) := by kernel_rfl
theorem J75  : Jae prog 143 Kdp := Jau (B0 := J23) bkN bkG Jaq bkT K00 (Jad fz) (by kernel_rfl) (fun _ => rfl) Kuh (fun x h => (Klx x.1 x.2.1 x.2.2.1 h).elim fun F hF => ⟨F, fun kend => hF none _⟩)
@[reducible] def Kui  : List PM := [.d (.arr 32 (.int .u8)), .d (.int .i64), .d (.int .i64)]
def Kyf  : Orc := Orc.of Kui true 1 fun x => (Kwz x.1 x.2.1 x.2.2.1, [.o 5 (.int .u8) (Kw0 x.1 x.2.1 x.2.2.1)])
@[reducible] def Jml  : Tpl := { cur := ⟨[(0, .ptr 0 []), (29, .var (.arr 4 (.pair (.int .i64) (.pair (.int .i64) (.pair (.int .i64) (.pair (.int .i64) .unit)))))), (0, .var (.int .i64))], 39⟩, stk := [⟨[(2, .mv 158 (.pr (.ptr 0 []) (.un))), (4, .var (.int .i64)), (1, .var (.int .i64))], 32⟩, ⟨[(7, .ptr 1 []), (0, .ptr 0 [])], 35⟩, ⟨[], 0⟩], heap := [.box (.var (.arr 16 (.int .u32))), .box (.var (.arr 16 (.int .u32)))] }
@[reducible] def Jmm  : Tpl := { cur := ⟨[(2, .mv 158 (.pr (.ptr 0 []) (.un))), (4, .var (.int .i64)), (1, .var (.int .i64))], 32⟩, stk := [⟨[(7, .ptr 1 []), (0, .ptr 0 [])], 35⟩, ⟨[], 0⟩], heap := [.box (.var (.arr 16 (.int .u32))), .box (.var (.arr 16 (.int .u32)))] }
@[reducible] def Jmn  : Tpl := { cur := ⟨[(0, .ptr 0 []), (29, .var (.arr 4 (.pair (.int .i64) (.pair (.int .i64) (.pair (.int .i64) (.pair (.int .i64) .unit)))))), (0, .var (.int .i64))], 39⟩, stk := [⟨[(2, .mv 158 (.pr (.ptr 0 []) (.un))), (4, .var (.int .i64)), (14, .var (.int .i64))], 19⟩, ⟨[(7, .ptr 1 []), (0, .ptr 0 [])], 35⟩, ⟨[], 0⟩], heap := [.box (.var (.arr 16 (.int .u32))), .box (.var (.arr 16 (.int .u32)))] }
@[reducible] def Jmo  : Tpl := { cur := ⟨[(2, .mv 158 (.pr (.ptr 0 []) (.un))), (4, .var (.int .i64)), (14, .var (.int .i64))], 19⟩, stk := [⟨[(7, .ptr 1 []), (0, .ptr 0 [])], 35⟩, ⟨[], 0⟩], heap := [.box (.var (.arr 16 (.int .u32))), .box (.var (.arr 16 (.int .u32)))] }
@[reducible] def Jmp  : Tpl := { cur := ⟨[(2, .mv 158 (.pr (.ptr 0 []) (.un))), (4, .var (.int .i64))], 34⟩, stk := [⟨[(7, .ptr 1 []), (0, .ptr 0 [])], 35⟩, ⟨[], 0⟩], heap := [.box (.var (.arr 16 (.int .u32))), .box (.var (.arr 16 (.int .u32)))] }
@[reducible] def Jmq  : Tpl := { cur := ⟨[(7, .ptr 0 []), (1, .row 1), (8, .var (.arr 16 (.int .u32))), (0, .var (.int .i64))], 24⟩, stk := [⟨[], 0⟩], heap := [.box (.var (.arr 16 (.int .u32))), .row 5 (.int .u8) false] }
def K7h  : List (FuncId × Orc) := [(143, Kdp), (169, Kny)]
def Kdq  : Book := { Γ := gam, orc := Jbk K7h, hint := Ja0 [(106, { keep := some [7, 9, 18, 19], keeps := [(6, [7, 9, 18, 19])], own := [(9, 24)], dat := [], stk := [] }), (144, { keep := some [2, 7, 9, 22], keeps := [(2, [2, 7]), (4, [2, 7, 9]), (9, [2, 7, 22])], own := [], dat := [], stk := [[7, 8]] }), (158, { keep := some [0, 30, 31], keeps := [(2, [0, 30, 31])], own := [], dat := [], stk := [[2, 7, 9, 22], [7, 8]] })] }
def K7i (F : Nat) (nx : Jml.T → ZO) (kq : ZK) (x : Jml.T) : ZO := Kf1 F none (fun s30 s31 s7 s9 w w1 => nx (((), (s30, (s31, ()))), (((((), ()), (s7, (s9, ()))), (((), ((), ())), ((), ()))), (w, (w1, ()))))) (fun y0 y1 y2 y3 y4 y5 => kq (.exit 0) (Jml.inst (((), (y0, (y1, ()))), (((((), ()), (y2, (y3, ()))), (((), ((), ())), ((), ()))), (y4, (y5, ())))))) x.1.2.1 x.1.2.2.1 x.2.1.1.2.1 x.2.1.1.2.2.1 x.2.2.1 x.2.2.2.1
def K7j (F m : Nat) (x : Jml.T) (kq : ZK) : ZO := Jky F none (fun y0 y1 y2 y3 y4 y5 => kq (.exit 0) (Jml.inst (((), (y0, (y1, ()))), (((((), ()), (y2, (y3, ()))), (((), ((), ())), ((), ()))), (y4, (y5, ())))))) m x.1.2.1 x.1.2.2.1 x.2.1.1.2.1 x.2.1.1.2.2.1 x.2.2.1 x.2.2.2.1
def K7k (F : Nat) (nx : Jmm.T → ZO) (kq : ZK) (x : Jmm.T) : ZO := Kf2 F none (fun s7 s9 change w => nx ((((), ()), (s7, (s9, ()))), ((((), ((), ())), ((), ())), (change, (w, ()))))) (fun y0 y1 y2 y3 => kq (.exit 2) (Jmm.inst ((((), ()), (y0, (y1, ()))), ((((), ((), ())), ((), ())), (y2, (y3, ())))))) x.1.2.1 x.1.2.2.1 x.2.2.1 x.2.2.2.1
def K7l (F m : Nat) (x : Jmm.T) (kq : ZK) : ZO := Jp2 F none (fun y0 y1 y2 y3 => kq (.exit 2) (Jmm.inst ((((), ()), (y0, (y1, ()))), ((((), ((), ())), ((), ())), (y2, (y3, ())))))) m x.1.2.1 x.1.2.2.1 x.2.2.1 x.2.2.2.1
def K7m (F : Nat) (nx : Jmn.T → ZO) (kq : ZK) (x : Jmn.T) : ZO := Kf3 F none (fun s30 s31 s7 s22 w w1 => nx (((), (s30, (s31, ()))), (((((), ()), (s7, (s22, ()))), (((), ((), ())), ((), ()))), (w, (w1, ()))))) (fun y0 y1 y2 y3 y4 y5 => kq (.exit 0) (Jmn.inst (((), (y0, (y1, ()))), (((((), ()), (y2, (y3, ()))), (((), ((), ())), ((), ()))), (y4, (y5, ())))))) x.1.2.1 x.1.2.2.1 x.2.1.1.2.1 x.2.1.1.2.2.1 x.2.2.1 x.2.2.2.1
def K7n (F m : Nat) (x : Jmn.T) (kq : ZK) : ZO := Jkz F none (fun y0 y1 y2 y3 y4 y5 => kq (.exit 0) (Jmn.inst (((), (y0, (y1, ()))), (((((), ()), (y2, (y3, ()))), (((), ((), ())), ((), ()))), (y4, (y5, ())))))) m x.1.2.1 x.1.2.2.1 x.2.1.1.2.1 x.2.1.1.2.2.1 x.2.2.1 x.2.2.2.1
def K7o (F : Nat) (nx : Jmo.T → ZO) (kq : ZK) (x : Jmo.T) : ZO := Kf4 F none (fun s7 s22 change w => nx ((((), ()), (s7, (s22, ()))), ((((), ((), ())), ((), ())), (change, (w, ()))))) (fun y0 y1 y2 y3 => kq (.exit 4) (Jmo.inst ((((), ()), (y0, (y1, ()))), ((((), ((), ())), ((), ())), (y2, (y3, ())))))) x.1.2.1 x.1.2.2.1 x.2.2.1 x.2.2.2.1
def K7p (F m : Nat) (x : Jmo.T) (kq : ZK) : ZO := Jp3 F none (fun y0 y1 y2 y3 => kq (.exit 4) (Jmo.inst ((((), ()), (y0, (y1, ()))), ((((), ((), ())), ((), ())), (y2, (y3, ())))))) m x.1.2.1 x.1.2.2.1 x.2.2.1 x.2.2.2.1
def K7q (F : Nat) (nx : Jmp.T → ZO) (kq : ZK) (x : Jmp.T) : ZO := Kf5 F none (fun s7 change w => nx ((((), ()), (s7, ())), ((((), ((), ())), ((), ())), (change, (w, ()))))) (fun y0 y1 y2 => kq (.exit 0) (Jmp.inst ((((), ()), (y0, ())), ((((), ((), ())), ((), ())), (y1, (y2, ())))))) x.1.2.1 x.2.2.1 x.2.2.2.1
def K7r (F m : Nat) (x : Jmp.T) (kq : ZK) : ZO := Jua F none (fun y0 y1 y2 => kq (.exit 0) (Jmp.inst ((((), ()), (y0, ())), ((((), ((), ())), ((), ())), (y1, (y2, ())))))) m x.1.2.1 x.2.2.1 x.2.2.2.1
def K7s (F : Nat) (nx : Jmq.T → ZO) (kq : ZK) (x : Jmq.T) : ZO := Kf6 F none (fun s18 s19 w out => nx (((), ((), (s18, (s19, ())))), (((), ()), (w, (out, ()))))) (fun y0 y1 y2 y3 => kq (.exit 0) (Jmq.inst (((), ((), (y0, (y1, ())))), (((), ()), (y2, (y3, ())))))) x.1.2.2.1 x.1.2.2.2.1 x.2.2.1 x.2.2.2.1
def K7t (F m : Nat) (x : Jmq.T) (kq : ZK) : ZO := Jub F none (fun y0 y1 y2 y3 => kq (.exit 0) (Jmq.inst (((), ((), (y0, (y1, ())))), (((), ()), (y2, (y3, ())))))) m x.1.2.2.1 x.1.2.2.2.1 x.2.2.1 x.2.2.2.1
def K7u (F : Nat) : List (LoE Unit) := [⟨158, 2, LO.orT Jml (K7j F F) (LO.of Jmn (K7n F F))⟩,
 ⟨144, 4, LO.of Jmm (K7l F F)⟩,
 ⟨144, 9, LO.of Jmo (K7p F F)⟩,
 ⟨144, 2, LO.of Jmp (K7r F F)⟩,
 ⟨106, 6, LO.of Jmq (K7t F F)⟩]
def Jj3 (F : Nat) : Jb3 Unit := { toBook := Kdq, lo := Jct (K7u F), need := Ja1 [(144, 1)] }
theorem Kn0 (F : Nat) : Jbw prog (Jj3 F) F 158 0 2 Jml (K7i F) := fun d x KQ => by kernel_rfl
theorem Kn1 (F : Nat) : Jbw prog (Jj3 F) F 144 1 4 Jmm (K7k F) := fun d x KQ => by kernel_rfl
theorem Kn2 (F : Nat) : Jbw prog (Jj3 F) F 158 0 2 Jmn (K7m F) := fun d x KQ => by kernel_rfl
theorem Kn3 (F : Nat) : Jbw prog (Jj3 F) F 144 2 9 Jmo (K7o F) := fun d x KQ => by kernel_rfl
theorem Kn4 (F : Nat) : Jbw prog (Jj3 F) F 144 0 2 Jmp (K7q F) := fun d x KQ => by kernel_rfl
theorem Kn5 (F : Nat) : Jbw prog (Jj3 F) F 106 0 6 Jmq (K7s F) := fun d x KQ => by kernel_rfl
theorem K7v (F : Nat) : Jip prog (Jj3 F) F := Ja6 (l := K7u F) rfl (fa (Jal 0 (by kernel_rfl) (by kernel_rfl) (Kfd (Jah (Kn0 F) (fun _ _ => rfl) (fun _ _ _ _ => rfl)) (Jah (Kn2 F) (fun _ _ => rfl) (fun _ _ _ _ => rfl)))) (fa (Jal 1 (by kernel_rfl) (by kernel_rfl) (Jah (Kn1 F) (fun _ _ => rfl) (fun _ _ _ _ => rfl))) (fa (Jal 2 (by kernel_rfl) (by kernel_rfl) (Jah (Kn3 F) (fun _ _ => rfl) (fun _ _ _ _ => rfl))) (fa (Jal 0 (by kernel_rfl) (by kernel_rfl) (Jah (Kn4 F) (fun _ _ => rfl) (fun _ _ _ _ => rfl))) (fa (Jal 0 (by kernel_rfl) (by kernel_rfl) (Jah (Kn5 F) (fun _ _ => rfl) (fun _ _ _ _ => rfl))) fz)))))
theorem Qcl (F : Nat) (x : Ja4 Kui) (kend : List BV → ZO) : Jan prog (Jj3 F) F 20 106 (Jaf Kui x) [.o 5 (.int .u8)] kend = cBlk F x.1 x.2.1 x.2.2.1 none (fun y0 => kend [BV.o 5 (.int .u8) y0]) := by kernel_rfl
theorem Kid  : Jae prog 106 Kyf := Jau (B0 := Kdq) bkN bkG Jaq bkT Qcl (Jad (fa J75 (fa Ka3 fz))) (by kernel_rfl) (fun _ => rfl) K7v (fun x h => (Kz5 x.1 x.2.1 x.2.2.1 h).elim fun F hF => ⟨F, fun kend => hF none _⟩)
@[reducible] def J76  : List PM := [.d (.int .i64)]
def J1p  : Orc := Orc.of J76 true 0 fun x => (true, [.d .bool (Jpl x.1)])
def J77  : List (FuncId × Orc) := []
theorem K01 (F : Nat) (x : Ja4 J76) (kend : List BV → ZO) : Jan prog (bkZ J77) F 20 104 (Jaf J76 x) [.d .bool] kend = K4r F x.1 none (fun y0 => kend [BV.d .bool y0]) := by kernel_rfl
theorem Jss  : Jae prog 104 J1p := Jau (B0 := bkY J77) bkN bkG Jaq bkT K01 (Jad fz) (by kernel_rfl) (fun _ => rfl) (bkO _) (fun x _ => (Klz x.1).elim fun F hF => ⟨F, fun kend => hF none _⟩)
@[reducible] def Kie  : List PM := [.d (.int .u32), .d (.int .i64)]
def Kn6  : Orc := Orc.of Kie true 0 fun x => (Jgw x.1 x.2.1, [.d (.int .u32) (Jiz x.1 x.2.1)])
@[reducible] def Jjc  : Tpl := { cur := ⟨[(0, .var (.int .u32)), (0, .var (.int .i64)), (3, .var (.int .i64))], 11⟩, stk := [⟨[], 0⟩], heap := [] }
def K02  : List (FuncId × Orc) := []
def J78  : Book := { Γ := gam, orc := Jbk K02, hint := Ja0 [(155, { keep := some [0, 1, 5], keeps := [(2, [0, 1, 5])], own := [], dat := [], stk := [] })] }
def K03 (F : Nat) (nx : Jjc.T → ZO) (kq : ZK) (x : Jjc.T) : ZO := J4x F none (fun x_ n i => nx ((x_, (n, (i, ()))), (((), ()), ()))) (fun y0 y1 y2 => kq (.exit 0) (Jjc.inst ((y0, (y1, (y2, ()))), (((), ()), ())))) x.1.1 x.1.2.1 x.1.2.2.1
def K04 (F m : Nat) (x : Jjc.T) (kq : ZK) : ZO := Joo F none (fun y0 y1 y2 => kq (.exit 0) (Jjc.inst ((y0, (y1, (y2, ()))), (((), ()), ())))) m x.1.1 x.1.2.1 x.1.2.2.1
def Kyg (F : Nat) : List (LoE Unit) := [⟨155, 2, LO.of Jjc (K04 F F)⟩]
def J1q (F : Nat) : Jb3 Unit := { toBook := J78, lo := Jct (Kyg F), need := Ja1 [] }
theorem Kif (F : Nat) : Jbw prog (J1q F) F 155 0 2 Jjc (K03 F) := fun d x KQ => by kernel_rfl
theorem K05 (F : Nat) : Jip prog (J1q F) F := Ja6 (l := Kyg F) rfl (fa (Jal 0 (by kernel_rfl) (by kernel_rfl) (Jah (Kif F) (fun _ _ => rfl) (fun _ _ _ _ => rfl))) fz)
theorem K7w (F : Nat) (x : Ja4 Kie) (kend : List BV → ZO) : Jan prog (J1q F) F 20 155 (Jaf Kie x) [.d (.int .u32)] kend = Qff F x.1 x.2.1 none (fun y0 => kend [BV.d (.int .u32) y0]) := by kernel_rfl
theorem Ka6  : Jae prog 155 Kn6 := Jau (B0 := J78) bkN bkG Jaq bkT K7w (Jad fz) (by kernel_rfl) (fun _ => rfl) K05 (fun x h => (Kse x.1 x.2.1 h).elim fun F hF => ⟨F, fun kend => hF none _⟩)
@[reducible] def J79  : List PM := [.d (.arr 32 (.int .u8)), .d (.int .i64), .d (.int .i64)]
def Kdr  : Orc := Orc.of J79 true 1 fun x => (Jtv x.1 x.2.1 x.2.2.1, [.o 173 (.int .u32) (J4r x.1 x.2.1 x.2.2.1)])
@[reducible] def Jhc  : Tpl := { cur := ⟨[(1, .var (.int .i64)), (0, .var (.int .i64)), (0, .ptr 0 []), (3, .row 1), (0, .var (.int .i64))], 48⟩, stk := [⟨[], 0⟩], heap := [.box (.var (.arr 32 (.int .u8))), .row 173 (.int .u32) false] }
def Kuj  : List (FuncId × Orc) := []
def J24  : Book := { Γ := gam, orc := Jbk Kuj, hint := Ja0 [(134, { keep := some [1, 2, 3, 7, 8], keeps := [(3, [1, 2, 3, 7, 8])], own := [], dat := [], stk := [] })] }
def Kuk (F : Nat) (nx : Jhc.T → ZO) (kq : ZK) (x : Jhc.T) : ZO := Jyt F none (fun nonce counter i key w => nx ((nonce, (counter, ((), ((), (i, ()))))), (((), ()), (key, (w, ()))))) (fun y0 y1 y2 y3 y4 => kq (.exit 0) (Jhc.inst ((y0, (y1, ((), ((), (y2, ()))))), (((), ()), (y3, (y4, ())))))) x.1.1 x.1.2.1 x.1.2.2.2.2.1 x.2.2.1 x.2.2.2.1
def Kul (F m : Nat) (x : Jhc.T) (kq : ZK) : ZO := Jlm F none (fun y0 y1 y2 y3 y4 => kq (.exit 0) (Jhc.inst ((y0, (y1, ((), ((), (y2, ()))))), (((), ()), (y3, (y4, ())))))) m x.1.1 x.1.2.1 x.1.2.2.2.2.1 x.2.2.1 x.2.2.2.1
def Kn7 (F : Nat) : List (LoE Unit) := [⟨134, 3, LO.of Jhc (Kul F F)⟩]
def Jwy (F : Nat) : Jb3 Unit := { toBook := J24, lo := Jct (Kn7 F), need := Ja1 [] }
theorem Ka7 (F : Nat) : Jbw prog (Jwy F) F 134 0 3 Jhc (Kuk F) := fun d x KQ => by kernel_rfl
theorem Kum (F : Nat) : Jip prog (Jwy F) F := Ja6 (l := Kn7 F) rfl (fa (Jal 0 (by kernel_rfl) (by kernel_rfl) (Jah (Ka7 F) (fun _ _ => rfl) (fun _ _ _ _ => rfl))) fz)
theorem K06 (F : Nat) (x : Ja4 J79) (kend : List BV → ZO) : Jan prog (Jwy F) F 20 134 (Jaf J79 x) [.o 173 (.int .u32)] kend = K4s F x.1 x.2.1 x.2.2.1 none (fun y0 => kend [BV.o 173 (.int .u32) y0]) := by kernel_rfl
theorem J8a  : Jae prog 134 Kdr := Jau (B0 := J24) bkN bkG Jaq bkT K06 (Jad fz) (by kernel_rfl) (fun _ => rfl) Kum (fun x h => (Kly x.1 x.2.1 x.2.2.1 h).elim fun F hF => ⟨F, fun kend => hF none _⟩)
@[reducible] def J1r  : List PM := [.d (.int .i64), .d (.int .i64)]
def Jwz  : Orc := Orc.of J1r true 1 fun x => (Jl6 x.1 x.2.1, [.o 5 (.int .u8) (Jia x.1 x.2.1)])
@[reducible] def Jfz  : Tpl := { cur := ⟨[(0, .var (.int .i64)), (0, .var (.int .i64)), (3, .row 0), (0, .var (.int .i64))], 14⟩, stk := [⟨[], 0⟩], heap := [.row 5 (.int .u8) false] }
def Kn8  : List (FuncId × Orc) := []
def Jzt  : Book := { Γ := gam, orc := Jbk Kn8, hint := Ja0 [(90, { keep := some [0, 1, 5, 6], keeps := [(3, [0, 1, 5, 6])], own := [(5, 24)], dat := [], stk := [] })] }
def Kn9 (F : Nat) (nx : Jfz.T → ZO) (kq : ZK) (x : Jfz.T) : ZO := Jud F none (fun n bytes i out => nx ((n, (bytes, ((), (i, ())))), (((), ()), (out, ())))) (fun y0 y1 y2 y3 => kq (.exit 0) (Jfz.inst ((y0, (y1, ((), (y2, ())))), (((), ()), (y3, ()))))) x.1.1 x.1.2.1 x.1.2.2.2.1 x.2.2.1
def Koa (F m : Nat) (x : Jfz.T) (kq : ZK) : ZO := Ji8 F none (fun y0 y1 y2 y3 => kq (.exit 0) (Jfz.inst ((y0, (y1, ((), (y2, ())))), (((), ()), (y3, ()))))) m x.1.1 x.1.2.1 x.1.2.2.2.1 x.2.2.1
def Kds (F : Nat) : List (LoE Unit) := [⟨90, 3, LO.of Jfz (Koa F F)⟩]
def Jst (F : Nat) : Jb3 Unit := { toBook := Jzt, lo := Jct (Kds F), need := Ja1 [] }
theorem J8b (F : Nat) : Jbw prog (Jst F) F 90 0 3 Jfz (Kn9 F) := fun d x KQ => by kernel_rfl
theorem Kob (F : Nat) : Jip prog (Jst F) F := Ja6 (l := Kds F) rfl (fa (Jal 0 (by kernel_rfl) (by kernel_rfl) (Jah (J8b F) (fun _ _ => rfl) (fun _ _ _ _ => rfl))) fz)
theorem Kun (F : Nat) (x : Ja4 J1r) (kend : List BV → ZO) : Jan prog (Jst F) F 20 90 (Jaf J1r x) [.o 5 (.int .u8)] kend = Krq F x.1 x.2.1 none (fun y0 => kend [BV.o 5 (.int .u8) y0]) := by kernel_rfl
theorem Jq4  : Jae prog 90 Jwz := Jau (B0 := Jzt) bkN bkG Jaq bkT Kun (Jad fz) (by kernel_rfl) (fun _ => rfl) Kob (fun x h => (Kg1 x.1 x.2.1 h).elim fun F hF => ⟨F, fun kend => hF none _⟩)
@[reducible] def J1s  : List PM := [.d (.int .i64)]
def Jqp  : Orc := Orc.of J1s true 0 fun x => (true, [.d .bool (Jib x.1)])
def J25  : List (FuncId × Orc) := []
theorem Kuo (F : Nat) (x : Ja4 J1s) (kend : List BV → ZO) : Jan prog (bkZ J25) F 20 42 (Jaf J1s x) [.d .bool] kend = Krr F x.1 none (fun y0 => kend [BV.d .bool y0]) := by kernel_rfl
theorem Jke  : Jae prog 42 Jqp := Jau (B0 := bkY J25) bkN bkG Jaq bkT Kuo (Jad fz) (by kernel_rfl) (fun _ => rfl) (bkO _) (fun x _ => (Kgz x.1).elim fun F hF => ⟨F, fun kend => hF none _⟩)
@[reducible] def J8c  : List PM := [.d (.arr 32 (.int .u8)), .d (.int .i64), .d (.int .i64)]
def Kdt  : Orc := Orc.of J8c true 1 fun x => (J4s x.1 x.2.1 x.2.2.1, [.o 5 (.int .u8) (Jic x.1 x.2.1 x.2.2.1), .d (.int .i64) (J6o x.1 x.2.1 x.2.2.1)])
@[reducible] def Jhd  : Tpl := { cur := ⟨[(8, .row 0), (0, .row 1), (0, .var (.int .i64)), (0, .var (.int .i64))], 76⟩, stk := [⟨[], 0⟩], heap := [.row 173 (.int .u32) false, .row 173 (.int .u32) false] }
@[reducible] def Jhe  : Tpl := { cur := ⟨[(8, .row 0), (0, .row 1), (0, .var (.int .i64)), (1, .var (.int .i64))], 75⟩, stk := [⟨[], 0⟩], heap := [.row 173 (.int .u32) false, .row 173 (.int .u32) false] }
@[reducible] def Jhf  : Tpl := { cur := ⟨[(8, .row 0), (0, .row 1), (0, .var (.int .i64))], 77⟩, stk := [⟨[], 0⟩], heap := [.row 173 (.int .u32) false, .row 173 (.int .u32) false] }
@[reducible] def Jhg  : Tpl := { cur := ⟨[(8, .row 0), (0, .row 1), (3, .row 2), (0, .var (.int .i64))], 73⟩, stk := [⟨[], 0⟩], heap := [.row 173 (.int .u32) false, .row 173 (.int .u32) false, .row 5 (.int .u8) false] }
def Kup  : List (FuncId × Orc) := [(42, Jqp), (90, Jwz), (134, Kdr), (155, Kn6)]
def J26  : Book := { Γ := gam, orc := Jbk Kup, hint := Ja0 [(91, { keep := some [8, 9, 10, 11, 12, 13, 14], keeps := [(5, [8, 9, 10]), (8, [8, 9, 10, 11]), (12, [8, 9, 10, 12]), (17, [8, 9, 13, 14])], own := [(13, 24)], dat := [], stk := [] })] }
def Kuq (F : Nat) (nx : Jhd.T → ZO) (kq : ZK) (x : Jhd.T) : ZO := Jyu F none (fun i k before w => nx (((), ((), (i, (k, ())))), (((), ()), (before, (w, ()))))) (fun y0 y1 y2 y3 => kq (.exit 2) (Jhd.inst (((), ((), (y0, (y1, ())))), (((), ()), (y2, (y3, ())))))) x.1.2.2.1 x.1.2.2.2.1 x.2.2.1 x.2.2.2.1
def Kur (F m : Nat) (x : Jhd.T) (kq : ZK) : ZO := Jhw F none (fun y0 y1 y2 y3 => kq (.exit 2) (Jhd.inst (((), ((), (y0, (y1, ())))), (((), ()), (y2, (y3, ())))))) m x.1.2.2.1 x.1.2.2.2.1 x.2.2.1 x.2.2.2.1
def Kus (F : Nat) (nx : Jhe.T → ZO) (kq : ZK) (x : Jhe.T) : ZO := Jyv F none (fun i k before w => nx (((), ((), (i, (k, ())))), (((), ()), (before, (w, ()))))) (fun y0 y1 y2 y3 => kq (.exit 4) (Jhe.inst (((), ((), (y0, (y1, ())))), (((), ()), (y2, (y3, ())))))) x.1.2.2.1 x.1.2.2.2.1 x.2.2.1 x.2.2.2.1
def Kut (F m : Nat) (x : Jhe.T) (kq : ZK) : ZO := Jhx F none (fun y0 y1 y2 y3 => kq (.exit 4) (Jhe.inst (((), ((), (y0, (y1, ())))), (((), ()), (y2, (y3, ())))))) m x.1.2.2.1 x.1.2.2.2.1 x.2.2.1 x.2.2.2.1
def Kuu (F : Nat) (nx : Jhf.T → ZO) (kq : ZK) (x : Jhf.T) : ZO := Jyw F none (fun i before w => nx (((), ((), (i, ()))), (((), ()), (before, (w, ()))))) (fun y0 y1 y2 => kq (.exit 0) (Jhf.inst (((), ((), (y0, ()))), (((), ()), (y1, (y2, ())))))) x.1.2.2.1 x.2.2.1 x.2.2.2.1
def Kuv (F m : Nat) (x : Jhf.T) (kq : ZK) : ZO := Jln F none (fun y0 y1 y2 => kq (.exit 0) (Jhf.inst (((), ((), (y0, ()))), (((), ()), (y1, (y2, ())))))) m x.1.2.2.1 x.2.2.1 x.2.2.2.1
def Kuw (F : Nat) (nx : Jhg.T → ZO) (kq : ZK) (x : Jhg.T) : ZO := Jyx F none (fun i before w out => nx (((), ((), ((), (i, ())))), (((), ()), (before, (w, (out, ())))))) (fun y0 y1 y2 y3 => kq (.exit 6) (Jhg.inst (((), ((), ((), (y0, ())))), (((), ()), (y1, (y2, (y3, ()))))))) x.1.2.2.2.1 x.2.2.1 x.2.2.2.1 x.2.2.2.2.1
def Kux (F m : Nat) (x : Jhg.T) (kq : ZK) : ZO := Jlo F none (fun y0 y1 y2 y3 => kq (.exit 6) (Jhg.inst (((), ((), ((), (y0, ())))), (((), ()), (y1, (y2, (y3, ()))))))) m x.1.2.2.2.1 x.2.2.1 x.2.2.2.1 x.2.2.2.2.1
def Koc (F : Nat) : List (LoE Unit) := [⟨91, 8, LO.of Jhd (Kur F F)⟩,
 ⟨91, 12, LO.of Jhe (Kut F F)⟩,
 ⟨91, 5, LO.of Jhf (Kuv F F)⟩,
 ⟨91, 17, LO.of Jhg (Kux F F)⟩]
def Jjd (F : Nat) : Jb3 Unit := { toBook := J26, lo := Jct (Koc F), need := Ja1 [(91, 1)] }
theorem Ka8 (F : Nat) : Jbw prog (Jjd F) F 91 1 8 Jhd (Kuq F) := fun d x KQ => by kernel_rfl
theorem Ka9 (F : Nat) : Jbw prog (Jjd F) F 91 2 12 Jhe (Kus F) := fun d x KQ => by kernel_rfl
theorem Kba (F : Nat) : Jbw prog (Jjd F) F 91 0 5 Jhf (Kuu F) := fun d x KQ => by kernel_rfl
theorem Kbb (F : Nat) : Jbw prog (Jjd F) F 91 3 17 Jhg (Kuw F) := fun d x KQ => by kernel_rfl
theorem Kuy (F : Nat) : Jip prog (Jjd F) F := Ja6 (l := Koc F) rfl (fa (Jal 1 (by kernel_rfl) (by kernel_rfl) (Jah (Ka8 F) (fun _ _ => rfl) (fun _ _ _ _ => rfl))) (fa (Jal 2 (by kernel_rfl) (by kernel_rfl) (Jah (Ka9 F) (fun _ _ => rfl) (fun _ _ _ _ => rfl))) (fa (Jal 0 (by kernel_rfl) (by kernel_rfl) (Jah (Kba F) (fun _ _ => rfl) (fun _ _ _ _ => rfl))) (fa (Jal 3 (by kernel_rfl) (by kernel_rfl) (Jah (Kbb F) (fun _ _ => rfl) (fun _ _ _ _ => rfl))) fz))))
theorem K07 (F : Nat) (x : Ja4 J8c) (kend : List BV → ZO) : Jan prog (Jjd F) F 20 91 (Jaf J8c x) [.o 5 (.int .u8), .d (.int .i64)] kend = K4t F x.1 x.2.1 x.2.2.1 none (fun y0 y1 => kend [BV.o 5 (.int .u8) y0, BV.d (.int .i64) y1]) := by kernel_rfl
theorem J8d  : Jae prog 91 Kdt := Jau (B0 := J26) bkN bkG Jaq bkT K07 (Jad (fa Jke (fa Jq4 (fa J8a (fa Ka6 fz))))) (by kernel_rfl) (fun _ => rfl) Kuy (fun x h => (Kl0 x.1 x.2.1 x.2.2.1 h).elim fun F hF => ⟨F, fun kend => hF none _⟩)
end Go.AI
namespace Go.AI
open Go
open Go.Proofs.Tryz (prog)
set_option linter.unusedVariables false
@[reducible] def Jqq  : List PM := [.d (.slc (.int .u8)), .d (.slc (.int .u8))]
def Jvn  : Orc := Orc.of Jqq true 0 fun x => (Jhn x.1 x.2.1, [.d .bool (Jho x.1 x.2.1)])
@[reducible] def Jcl  : Tpl := { cur := ⟨[(0, .var (.slc (.int .u8))), (0, .var (.slc (.int .u8))), (2, .var .bool), (7, .var (.int .i64)), (0, .var (.int .i64))], 12⟩, stk := [⟨[], 0⟩], heap := [] }
def J8e  : List (FuncId × Orc) := []
def Jq5  : Book := { Γ := gam, orc := Jbk J8e, hint := Ja0 [(117, { keep := some [0, 1, 4, 12, 13], keeps := [(4, [0, 1, 4, 12, 13])], own := [], dat := [], stk := [] })] }
def J8f (F : Nat) (nx : Jcl.T → ZO) (kq : ZK) (x : Jcl.T) : ZO := Jkx F none (fun s1 s2 s4 s12 s13 => nx ((s1, (s2, (s4, (s12, (s13, ()))))), (((), ()), ()))) (fun y0 y1 y2 y3 y4 => kq .ret (Jcl.inst ((y0, (y1, (y2, (y3, (y4, ()))))), (((), ()), ())))) (fun y0 y1 y2 y3 y4 => kq (.exit 0) (Jcl.inst ((y0, (y1, (y2, (y3, (y4, ()))))), (((), ()), ())))) x.1.1 x.1.2.1 x.1.2.2.1 x.1.2.2.2.1 x.1.2.2.2.2.1
def J8g (F m : Nat) (x : Jcl.T) (kq : ZK) : ZO := Je7 F none (fun y0 y1 y2 y3 y4 => kq .ret (Jcl.inst ((y0, (y1, (y2, (y3, (y4, ()))))), (((), ()), ())))) (fun y0 y1 y2 y3 y4 => kq (.exit 0) (Jcl.inst ((y0, (y1, (y2, (y3, (y4, ()))))), (((), ()), ())))) m x.1.1 x.1.2.1 x.1.2.2.1 x.1.2.2.2.1 x.1.2.2.2.2.1
def Jzu (F : Nat) : List (LoE Unit) := [⟨117, 4, LO.of Jcl (J8g F F)⟩]
def Jmr (F : Nat) : Jb3 Unit := { toBook := Jq5, lo := Jct (Jzu F), need := Ja1 [] }
theorem Jzv (F : Nat) : Jbw prog (Jmr F) F 117 0 4 Jcl (J8f F) := fun d x KQ => by kernel_rfl
theorem J8h (F : Nat) : Jip prog (Jmr F) F := Ja6 (l := Jzu F) rfl (fa (Jal 0 (by kernel_rfl) (by kernel_rfl) (Jah (Jzv F) (fun _ _ => rfl) (fun _ _ _ _ => rfl))) fz)
theorem Kbc (F : Nat) (x : Ja4 Jqq) (kend : List BV → ZO) : Jan prog (Jmr F) F 20 117 (Jaf Jqq x) [.d .bool] kend = J01 F x.1 x.2.1 none (fun y0 => kend [BV.d .bool y0]) := by kernel_rfl
theorem Jw0  : Jae prog 117 Jvn := Jau (B0 := Jq5) bkN bkG Jaq bkT Kbc (Jad fz) (by kernel_rfl) (fun _ => rfl) J8h (fun x h => (J3r x.1 x.2.1 h).elim fun F hF => ⟨F, fun kend => hF none _⟩)
@[reducible] def J1t  : List PM := [.d (.arr 32 (.int .u8)), .d (.int .i64), .d (.slc (.int .u8))]
def Jw1  : Orc := Orc.of J1t true 1 fun x => (Jl4 x.1 x.2.1 x.2.2.1, [.o 5 (.int .u8) (Jiy x.1 x.2.1 x.2.2.1), .d (.int .i64) (Jga x.1 x.2.1 x.2.2.1)])
@[reducible] def Jf0  : Tpl := { cur := ⟨[(9, .ptr 0 []), (0, .sl 1), (0, .row 2), (19, .var (.int .i64)), (0, .var (.int .i64))], 16⟩, stk := [⟨[(0, .hnd .yield 3)], 0⟩, ⟨[(0, .hnd .yield 3), (0, .ptr 6 []), (0, .ptr 7 []), (1, .var (.int .i64))], 26⟩, ⟨[(0, .hnd .yield 3)], 0⟩, ⟨[(2, .var (.slc (.int .u8))), (0, .ptr 4 []), (0, .ptr 5 []), (1, .nils), (0, .var (.int .i64)), (0, .row 1), (0, .ptr 0 [])], 39⟩, ⟨[], 0⟩], heap := [.box (.var (.int .i64)), .row 5 (.int .u8) false, .row 5 (.int .u8) false, .lp 56 8 ⟨[(3, .ptr 4 []), (0, .ptr 5 []), (4, .ptr 0 [])], 39⟩ .busy, .box (.var (.arr 32 (.int .u8))), .box (.var (.int .i64)), .box (.row 1), .box (.var (.int .i64))] }
@[reducible] def Jf1  : Tpl := { cur := ⟨[(0, .hnd .yield 0), (0, .ptr 4 []), (0, .ptr 6 []), (1, .var (.int .i64))], 26⟩, stk := [⟨[(0, .hnd .yield 0)], 0⟩, ⟨[(2, .var (.slc (.int .u8))), (0, .ptr 1 []), (0, .ptr 2 []), (1, .nils), (0, .var (.int .i64)), (0, .row 5), (0, .ptr 3 [])], 39⟩, ⟨[], 0⟩], heap := [.lp 56 8 ⟨[(3, .ptr 1 []), (0, .ptr 2 []), (4, .ptr 3 [])], 39⟩ .ready, .box (.var (.arr 32 (.int .u8))), .box (.var (.int .i64)), .box (.var (.int .i64)), .box (.row 5), .row 5 (.int .u8) false, .box (.var (.int .i64))] }
def Kod  : List (FuncId × Orc) := [(100, Je9), (104, J1p), (106, Kyf)]
def Jzw  : Book := { Γ := gam, orc := Jbk Kod, hint := Ja0 [(56, { keep := some [9, 10, 11, 31, 32], keeps := [(11, [9, 10, 11, 31, 32])], own := [], dat := [], stk := [[0], [0, 1, 2, 4], [0], [2, 3, 4, 6, 7, 8, 9, 10, 11, 12, 25, 31, 32, 33]] }), (142, { keep := some [0, 1, 2, 4], keeps := [(1, [0, 1, 2, 4])], own := [], dat := [], stk := [[0], [2, 3, 4, 6, 7, 8, 9, 10, 11, 12, 25, 31, 32, 33]] })] }
def Koe (F : Nat) (nx : Jf0.T → ZO) (kq : ZK) (x : Jf0.T) : ZO := Juc F none (fun part_i part_n s31 s32 i b s7 counter part s key nonce s2 => nx (((), ((part_i, part_n), ((), (s31, (s32, ()))))), ((((), ()), (((), ((), ((), (i, ())))), (((), ()), ((b, ((), ((), ((), (s7, ((), ((), ()))))))), ((), ()))))), (counter, (part, (s, (((), ((), ((), ()))), (key, (nonce, ((), (s2, ()))))))))))) (fun y0 y1 y2 y3 y4 y5 y6 y7 y8 y9 y10 y11 y12 => kq (.exit 3) (Jf0.inst (((), ((y0, y1), ((), (y2, (y3, ()))))), ((((), ()), (((), ((), ((), (y4, ())))), (((), ()), ((y5, ((), ((), ((), (y6, ((), ((), ()))))))), ((), ()))))), (y7, (y8, (y9, (((), ((), ((), ()))), (y10, (y11, ((), (y12, ())))))))))))) x.1.2.1.1 x.1.2.1.2 x.1.2.2.2.1 x.1.2.2.2.2.1 x.2.1.2.1.2.2.2.1 x.2.1.2.2.2.1.1 x.2.1.2.2.2.1.2.2.2.2.1 x.2.2.1 x.2.2.2.1 x.2.2.2.2.1 x.2.2.2.2.2.2.1 x.2.2.2.2.2.2.2.1 x.2.2.2.2.2.2.2.2.2.1
def Kof (F m : Nat) (x : Jf0.T) (kq : ZK) : ZO := Ji7 F none (fun y0 y1 y2 y3 y4 y5 y6 y7 y8 y9 y10 y11 y12 => kq (.exit 3) (Jf0.inst (((), ((y0, y1), ((), (y2, (y3, ()))))), ((((), ()), (((), ((), ((), (y4, ())))), (((), ()), ((y5, ((), ((), ((), (y6, ((), ((), ()))))))), ((), ()))))), (y7, (y8, (y9, (((), ((), ((), ()))), (y10, (y11, ((), (y12, ())))))))))))) m x.1.2.1.1 x.1.2.1.2 x.1.2.2.2.1 x.1.2.2.2.2.1 x.2.1.2.1.2.2.2.1 x.2.1.2.2.2.1.1 x.2.1.2.2.2.1.2.2.2.2.1 x.2.2.1 x.2.2.2.1 x.2.2.2.2.1 x.2.2.2.2.2.2.1 x.2.2.2.2.2.2.2.1 x.2.2.2.2.2.2.2.2.2.1
def Kog (F : Nat) (nx : Jf1.T → ZO) (kq : ZK) (x : Jf1.T) : ZO := Jon F none (fun i b s7 key nonce counter out s2 => nx (((), ((), ((), (i, ())))), ((((), ()), ((b, ((), ((), ((), (s7, ((), ((), ()))))))), ((), ()))), (((), ((), ((), ()))), (key, (nonce, (counter, ((), (out, (s2, ())))))))))) (fun y0 y1 y2 y3 y4 y5 y6 y7 => kq (.exit 0) (Jf1.inst (((), ((), ((), (y0, ())))), ((((), ()), ((y1, ((), ((), ((), (y2, ((), ((), ()))))))), ((), ()))), (((), ((), ((), ()))), (y3, (y4, (y5, ((), (y6, (y7, ()))))))))))) x.1.2.2.2.1 x.2.1.2.1.1 x.2.1.2.1.2.2.2.2.1 x.2.2.2.1 x.2.2.2.2.1 x.2.2.2.2.2.1 x.2.2.2.2.2.2.2.1 x.2.2.2.2.2.2.2.2.1
def Koh (F m : Nat) (x : Jf1.T) (kq : ZK) : ZO := Jgx F none (fun y0 y1 y2 y3 y4 y5 y6 y7 => kq (.exit 0) (Jf1.inst (((), ((), ((), (y0, ())))), ((((), ()), ((y1, ((), ((), ((), (y2, ((), ((), ()))))))), ((), ()))), (((), ((), ((), ()))), (y3, (y4, (y5, ((), (y6, (y7, ()))))))))))) m x.1.2.2.2.1 x.2.1.2.1.1 x.2.1.2.1.2.2.2.2.1 x.2.2.2.1 x.2.2.2.2.1 x.2.2.2.2.2.1 x.2.2.2.2.2.2.2.1 x.2.2.2.2.2.2.2.2.1
def Kdu (F : Nat) : List (LoE Unit) := [⟨56, 11, LO.of Jf0 (Kof F F)⟩,
 ⟨142, 1, LO.of Jf1 (Koh F F)⟩]
def Jnq (F : Nat) : Jb3 Unit := { toBook := Jzw, lo := Jct (Kdu F), need := Ja1 [(142, 1)] }
theorem J8i (F : Nat) : Jbw prog (Jnq F) F 56 0 11 Jf0 (Koe F) := fun d x KQ => by kernel_rfl
theorem J8j (F : Nat) : Jbw prog (Jnq F) F 142 0 1 Jf1 (Kog F) := fun d x KQ => by kernel_rfl
theorem Koi (F : Nat) : Jip prog (Jnq F) F := Ja6 (l := Kdu F) rfl (fa (Jal 0 (by kernel_rfl) (by kernel_rfl) (Jah (J8i F) (fun _ _ => rfl) (fun _ _ _ _ => rfl))) (fa (Jal 0 (by kernel_rfl) (by kernel_rfl) (Jah (J8j F) (fun _ _ => rfl) (fun _ _ _ _ => rfl))) fz))
theorem Kuz (F : Nat) (x : Ja4 J1t) (kend : List BV → ZO) : Jan prog (Jnq F) F 20 56 (Jaf J1t x) [.o 5 (.int .u8), .d (.int .i64)] kend = Krp F x.1 x.2.1 x.2.2.1 none (fun y0 y1 => kend [BV.o 5 (.int .u8) y0, BV.d (.int .i64) y1]) := by kernel_rfl
theorem Jq6  : Jae prog 56 Jw1 := Jau (B0 := Jzw) bkN bkG Jaq bkT Kuz (Jad (fa Jdm (fa Jss (fa Kid fz)))) (by kernel_rfl) (fun _ => rfl) Koi (fun x h => (Kg3 x.1 x.2.1 x.2.2.1 h).elim fun F hF => ⟨F, fun kend => hF none _⟩)
@[reducible] def Kig  : List PM := [.d (.slc (.int .u8))]
def J8k  : Orc := Orc.of Kig true 0 fun x => (Jpm x.1, [.d (.arr 32 (.int .u8)) (Jfb x.1), .d (.arr 32 (.int .u8)) (Jgo x.1)])
def Kdv  : List (FuncId × Orc) := [(103, J5b)]
theorem K7x (F : Nat) (x : Ja4 Kig) (kend : List BV → ZO) : Jan prog (bkZ Kdv) F 20 55 (Jaf Kig x) [.d (.arr 32 (.int .u8)), .d (.arr 32 (.int .u8))] kend = Qe9 F x.1 none (fun y0 y1 => kend [BV.d (.arr 32 (.int .u8)) y0, BV.d (.arr 32 (.int .u8)) y1]) := by kernel_rfl
theorem Jvo  : Jae prog 55 J8k := Jau (B0 := bkY Kdv) bkN bkG Jaq bkT K7x (Jad (fa Jqn fz)) (by kernel_rfl) (fun _ => rfl) (bkO _) (fun x h => (Ksh x.1 h).elim fun F hF => ⟨F, fun kend => hF none _⟩)
@[reducible] def Ku0  : List PM := [.d (.arr 32 (.int .u8)), .d (.int .i64), .d (.slc (.int .u8))]
def Kyh  : Orc := Orc.of Ku0 false 0 fun x => (J2o x.1 x.2.1 x.2.2.1, [.d (.slc (.int .u8)) (J2p x.1 x.2.1 x.2.2.1)])
@[reducible] def Jms  : Tpl := { cur := ⟨[(1, .var (.int .i64)), (0, .var (.slc (.int .u8))), (0, .ptr 0 []), (3, .row 1), (2, .var (.int .i64))], 17⟩, stk := [⟨[], 0⟩], heap := [.box (.var (.arr 32 (.int .u8))), .row 5 (.int .u8) false] }
def K7y  : List (FuncId × Orc) := [(103, J5b)]
def Kdw  : Book := { Γ := gam, orc := Jbk K7y, hint := Ja0 [(57, { keep := some [1, 2, 3, 7, 10], keeps := [(3, [1, 2, 3, 7, 10])], own := [(7, 24)], dat := [], stk := [] })] }
def K7z (F : Nat) (nx : Jms.T → ZO) (kq : ZK) (x : Jms.T) : ZO := Kfy F none (fun nonce b s10 key l => nx ((nonce, (b, ((), ((), (s10, ()))))), (((), ()), (key, (l, ()))))) (fun y0 y1 y2 y3 y4 => kq (.exit 0) (Jms.inst ((y0, (y1, ((), ((), (y2, ()))))), (((), ()), (y3, (y4, ())))))) x.1.1 x.1.2.1 x.1.2.2.2.2.1 x.2.2.1 x.2.2.2.1
def K70 (F m : Nat) (x : Jms.T) (kq : ZK) : ZO := Jt7 F none (fun y0 y1 y2 y3 y4 => kq (.exit 0) (Jms.inst ((y0, (y1, ((), ((), (y2, ()))))), (((), ()), (y3, (y4, ())))))) m x.1.1 x.1.2.1 x.1.2.2.2.2.1 x.2.2.1 x.2.2.2.1
def K71 (F : Nat) : List (LoE Unit) := [⟨57, 3, LO.of Jms (K70 F F)⟩]
def J8l (F : Nat) : Jb3 Unit := { toBook := Kdw, lo := Jct (K71 F), need := Ja1 [] }
theorem Koj (F : Nat) : Jbw prog (J8l F) F 57 0 3 Jms (K7z F) := fun d x KQ => by kernel_rfl
theorem K72 (F : Nat) : Jip prog (J8l F) F := Ja6 (l := K71 F) rfl (fa (Jal 0 (by kernel_rfl) (by kernel_rfl) (Jah (Koj F) (fun _ _ => rfl) (fun _ _ _ _ => rfl))) fz)
theorem Qcm (F : Nat) (x : Ja4 Ku0) (kend : List BV → ZO) : Jan prog (J8l F) F 20 57 (Jaf Ku0 x) [.d (.slc (.int .u8))] kend = cTag F x.1 x.2.1 x.2.2.1 none (fun y0 => kend [BV.d (.slc (.int .u8)) y0]) := by kernel_rfl
theorem Kih  : Jae prog 57 Kyh := Jau (B0 := Kdw) bkN bkG Jaq bkT Qcm (Jad (fa Jqn fz)) (by kernel_rfl) (fun _ => rfl) K72 (fun x h => (Kz9 x.1 x.2.1 x.2.2.1 h).elim fun F hF => ⟨F, fun kend => hF none _⟩)
@[reducible] def J1u  : List PM := [.d (.slc (.int .u8))]
def Jw2  : Orc := Orc.of J1u true 0 fun x => (true, [.d .bool (Jl5 x.1)])
def J27  : List (FuncId × Orc) := []
theorem Ku1 (F : Nat) (x : Ja4 J1u) (kend : List BV → ZO) : Jan prog (bkZ J27) F 20 54 (Jaf J1u x) [.d .bool] kend = Kro F x.1 none (fun y0 => kend [BV.d .bool y0]) := by kernel_rfl
theorem Jq7  : Jae prog 54 Jw2 := Jau (B0 := bkY J27) bkN bkG Jaq bkT Ku1 (Jad fz) (by kernel_rfl) (fun _ => rfl) (bkO _) (fun x _ => (Kg5 x.1).elim fun F hF => ⟨F, fun kend => hF none _⟩)
@[reducible] def Kii  : List PM := [.d (.slc (.int .u8)), .d (.int .i64), .d (.slc (.int .u8))]
def Kok  : Orc := Orc.of Kii true 1 fun x => (Kfo x.1 x.2.1 x.2.2.1, [.o 5 (.int .u8) (Jpn x.1 x.2.1 x.2.2.1), .d (.int .i64) (Jtu x.1 x.2.1 x.2.2.1)])
@[reducible] def Jje  : Tpl := { cur := ⟨[(1, .var (.int .i64)), (0, .row 0), (0, .ptr 1 []), (3, .row 2), (2, .var (.int .i64))], 17⟩, stk := [⟨[(0, .var (.slc (.int .u8))), (0, .var (.int .i64)), (0, .var (.slc (.int .u8))), (6, .ptr 3 []), (25, .row 0)], 5⟩, ⟨[], 0⟩], heap := [.row 5 (.int .u8) false, .box (.var (.arr 32 (.int .u8))), .row 5 (.int .u8) false, .box (.var (.arr 32 (.int .u8)))] }
def K08  : List (FuncId × Orc) := [(54, Jw2), (55, J8k), (56, Jw1), (103, J5b)]
def J8m  : Book := { Γ := gam, orc := Jbk K08, hint := Ja0 [(57, { keep := some [1, 2, 3, 7, 10], keeps := [(3, [1, 2, 3, 7, 10])], own := [(7, 24)], dat := [], stk := [[0, 1, 2, 9, 35]] })] }
def K09 (F : Nat) (nx : Jje.T → ZO) (kq : ZK) (x : Jje.T) : ZO := J4w F none (fun nonce s10 key nonce1 b b1 Jn2 l authenticate => nx ((nonce, ((), ((), ((), (s10, ()))))), (((key, (nonce1, (b, ((), ((), ()))))), ((), ())), (b1, (Jn2, (l, (authenticate, ()))))))) (fun y0 y1 y2 y3 y4 y5 y6 y7 y8 => kq (.exit 0) (Jje.inst ((y0, ((), ((), ((), (y1, ()))))), (((y2, (y3, (y4, ((), ((), ()))))), ((), ())), (y5, (y6, (y7, (y8, ())))))))) x.1.1 x.1.2.2.2.2.1 x.2.1.1.1 x.2.1.1.2.1 x.2.1.1.2.2.1 x.2.2.1 x.2.2.2.1 x.2.2.2.2.1 x.2.2.2.2.2.1
def K1a (F m : Nat) (x : Jje.T) (kq : ZK) : ZO := Jom F none (fun y0 y1 y2 y3 y4 y5 y6 y7 y8 => kq (.exit 0) (Jje.inst ((y0, ((), ((), ((), (y1, ()))))), (((y2, (y3, (y4, ((), ((), ()))))), ((), ())), (y5, (y6, (y7, (y8, ())))))))) m x.1.1 x.1.2.2.2.2.1 x.2.1.1.1 x.2.1.1.2.1 x.2.1.1.2.2.1 x.2.2.1 x.2.2.2.1 x.2.2.2.2.1 x.2.2.2.2.2.1
def Kyi (F : Nat) : List (LoE Unit) := [⟨57, 3, LO.of Jje (K1a F F)⟩]
def J1v (F : Nat) : Jb3 Unit := { toBook := J8m, lo := Jct (Kyi F), need := Ja1 [] }
theorem Kij (F : Nat) : Jbw prog (J1v F) F 57 0 3 Jje (K09 F) := fun d x KQ => by kernel_rfl
theorem K1b (F : Nat) : Jip prog (J1v F) F := Ja6 (l := Kyi F) rfl (fa (Jal 0 (by kernel_rfl) (by kernel_rfl) (Jah (Kij F) (fun _ _ => rfl) (fun _ _ _ _ => rfl))) fz)
theorem K73 (F : Nat) (x : Ja4 Kii) (kend : List BV → ZO) : Jan prog (J1v F) F 20 25 (Jaf Kii x) [.o 5 (.int .u8), .d (.int .i64)] kend = Qfa F x.1 x.2.1 x.2.2.1 none (fun y0 y1 => kend [BV.o 5 (.int .u8) y0, BV.d (.int .i64) y1]) := by kernel_rfl
theorem Kbd  : Jae prog 25 Kok := Jau (B0 := J8m) bkN bkG Jaq bkT K73 (Jad (fa Jq7 (fa Jvo (fa Jq6 (fa Jqn fz))))) (by kernel_rfl) (fun _ => rfl) K1b (fun x h => (Ksl x.1 x.2.1 x.2.2.1 h).elim fun F hF => ⟨F, fun kend => hF none _⟩)
@[reducible] def J5c  : List PM := [.d (.slc (.int .u8)), .d (.int .i64), .d (.slc (.int .u8))]
def Kol  : Orc := Orc.of J5c true 1 fun x => (J0u x.1 x.2.1 x.2.2.1, [.o 5 (.int .u8) (Jh9 x.1 x.2.1 x.2.2.1), .d (.int .i64) (Jkn x.1 x.2.1 x.2.2.1)])
def Kdx  : List (FuncId × Orc) := [(54, Jw2), (55, J8k), (56, Jw1), (57, Kyh), (104, J1p), (117, Jvn)]
theorem K74 (F : Nat) (x : Ja4 J5c) (kend : List BV → ZO) : Jan prog (bkZ Kdx) F 20 70 (Jaf J5c x) [.o 5 (.int .u8), .d (.int .i64)] kend = Qfb F x.1 x.2.1 x.2.2.1 none (fun y0 y1 => kend [BV.o 5 (.int .u8) y0, BV.d (.int .i64) y1]) := by kernel_rfl
theorem Kbe  : Jae prog 70 Kol := Jau (B0 := bkY Kdx) bkN bkG Jaq bkT K74 (Jad (fa Jq7 (fa Jvo (fa Jq6 (fa Kih (fa Jss (fa Jw0 fz))))))) (by kernel_rfl) (fun _ => rfl) (bkO _) (fun x h => (Ksm x.1 x.2.1 x.2.2.1 h).elim fun F hF => ⟨F, fun kend => hF none _⟩)
@[reducible] def J1w  : List PM := [.d (.arr 32 (.int .u8)), .d (.int .i64), .d (.slc (.int .u8))]
def J8n  : Orc := Orc.of J1w true 1 fun x => (Jyd x.1 x.2.1 x.2.2.1, [.o 5 (.int .u8) (Joc x.1 x.2.1 x.2.2.1), .d (.int .i64) (Jod x.1 x.2.1 x.2.2.1)])
@[reducible] def Jf2  : Tpl := { cur := ⟨[(1, .var (.int .i64)), (0, .var (.slc (.int .u8))), (0, .ptr 0 []), (4, .row 1), (0, .row 2), (0, .var (.int .i64))], 38⟩, stk := [⟨[], 0⟩], heap := [.box (.var (.arr 32 (.int .u8))), .row 5 (.int .u8) false, .row 5 (.int .u8) false] }
def Kom  : List (FuncId × Orc) := [(42, Jqp), (91, Kdt)]
def Jzx  : Book := { Γ := gam, orc := Jbk Kom, hint := Ja0 [(45, { keep := some [1, 2, 3, 8, 9, 10], keeps := [(7, [1, 2, 3, 8, 9, 10])], own := [(8, 24), (9, 24)], dat := [], stk := [] })] }
def Kon (F : Nat) (nx : Jf2.T → ZO) (kq : ZK) (x : Jf2.T) : ZO := Jue F none (fun nonce b i key out block => nx ((nonce, (b, ((), ((), ((), (i, ())))))), (((), ()), (key, (out, (block, ())))))) (fun y0 y1 y2 y3 y4 y5 => kq (.exit 0) (Jf2.inst ((y0, (y1, ((), ((), ((), (y2, ())))))), (((), ()), (y3, (y4, (y5, ()))))))) x.1.1 x.1.2.1 x.1.2.2.2.2.2.1 x.2.2.1 x.2.2.2.1 x.2.2.2.2.1
def Koo (F m : Nat) (x : Jf2.T) (kq : ZK) : ZO := Ji9 F none (fun y0 y1 y2 y3 y4 y5 => kq (.exit 0) (Jf2.inst ((y0, (y1, ((), ((), ((), (y2, ())))))), (((), ()), (y3, (y4, (y5, ()))))))) m x.1.1 x.1.2.1 x.1.2.2.2.2.2.1 x.2.2.1 x.2.2.2.1 x.2.2.2.2.1
def Kdy (F : Nat) : List (LoE Unit) := [⟨45, 7, LO.of Jf2 (Koo F F)⟩]
def Jsu (F : Nat) : Jb3 Unit := { toBook := Jzx, lo := Jct (Kdy F), need := Ja1 [] }
theorem J8o (F : Nat) : Jbw prog (Jsu F) F 45 0 7 Jf2 (Kon F) := fun d x KQ => by kernel_rfl
theorem Kop (F : Nat) : Jip prog (Jsu F) F := Ja6 (l := Kdy F) rfl (fa (Jal 0 (by kernel_rfl) (by kernel_rfl) (Jah (J8o F) (fun _ _ => rfl) (fun _ _ _ _ => rfl))) fz)
theorem Ku2 (F : Nat) (x : Ja4 J1w) (kend : List BV → ZO) : Jan prog (Jsu F) F 20 45 (Jaf J1w x) [.o 5 (.int .u8), .d (.int .i64)] kend = Krs F x.1 x.2.1 x.2.2.1 none (fun y0 y1 => kend [BV.o 5 (.int .u8) y0, BV.d (.int .i64) y1]) := by kernel_rfl
theorem J30  : Jae prog 45 J8n := Jau (B0 := Jzx) bkN bkG Jaq bkT Ku2 (Jad (fa Jke (fa J8d fz))) (by kernel_rfl) (fun _ => rfl) Kop (fun x h => (Kg4 x.1 x.2.1 x.2.2.1 h).elim fun F hF => ⟨F, fun kend => hF none _⟩)
@[reducible] def Kik  : List PM := [.d (.slc (.int .u8))]
def Koq  : Orc := Orc.of Kik true 0 fun x => (J0v x.1, [.d (.arr 32 (.int .u8)) (Jpo x.1), .d (.arr 32 (.int .u8)) (Jtw x.1)])
def Kdz  : List (FuncId × Orc) := [(89, Kib)]
theorem K75 (F : Nat) (x : Ja4 Kik) (kend : List BV → ZO) : Jan prog (bkZ Kdz) F 20 43 (Jaf Kik x) [.d (.arr 32 (.int .u8)), .d (.arr 32 (.int .u8))] kend = Qfc F x.1 none (fun y0 y1 => kend [BV.d (.arr 32 (.int .u8)) y0, BV.d (.arr 32 (.int .u8)) y1]) := by kernel_rfl
theorem Kbf  : Jae prog 43 Koq := Jau (B0 := bkY Kdz) bkN bkG Jaq bkT K75 (Jad (fa Jzs fz)) (by kernel_rfl) (fun _ => rfl) (bkO _) (fun x h => (Ksi x.1 h).elim fun F hF => ⟨F, fun kend => hF none _⟩)
@[reducible] def Ku3  : List PM := [.d (.arr 32 (.int .u8)), .d (.int .i64), .d (.slc (.int .u8))]
def Kyj  : Orc := Orc.of Ku3 true 1 fun x => (J2q x.1 x.2.1 x.2.2.1, [.o 5 (.int .u8) (Kk4 x.1 x.2.1 x.2.2.1)])
@[reducible] def Jmt  : Tpl := { cur := ⟨[(1, .var (.int .i64)), (0, .var (.slc (.int .u8))), (0, .ptr 0 []), (3, .row 1), (0, .var (.int .i64))], 30⟩, stk := [⟨[], 0⟩], heap := [.box (.var (.arr 32 (.int .u8))), .row 5 (.int .u8) false] }
@[reducible] def Jmu  : Tpl := { cur := ⟨[(9, .ptr 0 []), (0, .row 1), (0, .var (.int .i64))], 27⟩, stk := [⟨[], 0⟩], heap := [.box (.var (.arr 32 (.int .u8))), .row 5 (.int .u8) false] }
def K76  : List (FuncId × Orc) := [(89, Kib), (90, Jwz)]
def Kd0  : Book := { Γ := gam, orc := Jbk K76, hint := Ja0 [(44, { keep := some [1, 2, 3, 7, 8, 9, 10, 11], keeps := [(3, [1, 2, 3, 7, 8]), (9, [9, 10, 11])], own := [(7, 24), (10, 24)], dat := [], stk := [] })] }
def K77 (F : Nat) (nx : Jmt.T → ZO) (kq : ZK) (x : Jmt.T) : ZO := Kfz F none (fun nonce b i key k => nx ((nonce, (b, ((), ((), (i, ()))))), (((), ()), (key, (k, ()))))) (fun y0 y1 y2 y3 y4 => kq (.exit 0) (Jmt.inst ((y0, (y1, ((), ((), (y2, ()))))), (((), ()), (y3, (y4, ())))))) x.1.1 x.1.2.1 x.1.2.2.2.2.1 x.2.2.1 x.2.2.2.1
def K78 (F m : Nat) (x : Jmt.T) (kq : ZK) : ZO := Jt8 F none (fun y0 y1 y2 y3 y4 => kq (.exit 0) (Jmt.inst ((y0, (y1, ((), ((), (y2, ()))))), (((), ()), (y3, (y4, ())))))) m x.1.1 x.1.2.1 x.1.2.2.2.2.1 x.2.2.1 x.2.2.2.1
def K79 (F : Nat) (nx : Jmu.T → ZO) (kq : ZK) (x : Jmu.T) : ZO := Kf0 F none (fun i d_ out => nx (((), ((), (i, ()))), (((), ()), (d_, (out, ()))))) (fun y0 y1 y2 => kq (.exit 2) (Jmu.inst (((), ((), (y0, ()))), (((), ()), (y1, (y2, ())))))) x.1.2.2.1 x.2.2.1 x.2.2.2.1
def K8a (F m : Nat) (x : Jmu.T) (kq : ZK) : ZO := Jt9 F none (fun y0 y1 y2 => kq (.exit 2) (Jmu.inst (((), ((), (y0, ()))), (((), ()), (y1, (y2, ())))))) m x.1.2.2.1 x.2.2.1 x.2.2.2.1
def K8b (F : Nat) : List (LoE Unit) := [⟨44, 3, LO.of Jmt (K78 F F)⟩,
 ⟨44, 9, LO.of Jmu (K8a F F)⟩]
def Jzy (F : Nat) : Jb3 Unit := { toBook := Kd0, lo := Jct (K8b F), need := Ja1 [] }
theorem Kor (F : Nat) : Jbw prog (Jzy F) F 44 0 3 Jmt (K77 F) := fun d x KQ => by kernel_rfl
theorem Kos (F : Nat) : Jbw prog (Jzy F) F 44 1 9 Jmu (K79 F) := fun d x KQ => by kernel_rfl
theorem K8c (F : Nat) : Jip prog (Jzy F) F := Ja6 (l := K8b F) rfl (fa (Jal 0 (by kernel_rfl) (by kernel_rfl) (Jah (Kor F) (fun _ _ => rfl) (fun _ _ _ _ => rfl))) (fa (Jal 1 (by kernel_rfl) (by kernel_rfl) (Jah (Kos F) (fun _ _ => rfl) (fun _ _ _ _ => rfl))) fz))
theorem Qcn (F : Nat) (x : Ja4 Ku3) (kend : List BV → ZO) : Jan prog (Jzy F) F 20 44 (Jaf Ku3 x) [.o 5 (.int .u8)] kend = rTag F x.1 x.2.1 x.2.2.1 none (fun y0 => kend [BV.o 5 (.int .u8) y0]) := by kernel_rfl
theorem Kil  : Jae prog 44 Kyj := Jau (B0 := Kd0) bkN bkG Jaq bkT Qcn (Jad (fa Jzs (fa Jq4 fz))) (by kernel_rfl) (fun _ => rfl) K8c (fun x h => (K0b x.1 x.2.1 x.2.2.1 h).elim fun F hF => ⟨F, fun kend => hF none _⟩)
@[reducible] def Kim  : List PM := [.d (.slc (.int .u8)), .d (.int .i64), .d (.slc (.int .u8))]
def Kot  : Orc := Orc.of Kim true 1 fun x => (Krf x.1 x.2.1 x.2.2.1, [.o 5 (.int .u8) (Kfp x.1 x.2.1 x.2.2.1), .d (.int .i64) (Jye x.1 x.2.1 x.2.2.1)])
def Kd1  : List (FuncId × Orc) := [(42, Jqp), (43, Koq), (44, Kyj), (45, J8n)]
theorem K8d (F : Nat) (x : Ja4 Kim) (kend : List BV → ZO) : Jan prog (bkZ Kd1) F 20 20 (Jaf Kim x) [.o 5 (.int .u8), .d (.int .i64)] kend = Qfd F x.1 x.2.1 x.2.2.1 none (fun y0 y1 => kend [BV.o 5 (.int .u8) y0, BV.d (.int .i64) y1]) := by kernel_rfl
theorem Kbg  : Jae prog 20 Kot := Jau (B0 := bkY Kd1) bkN bkG Jaq bkT K8d (Jad (fa Jke (fa Kbf (fa Kil (fa J30 fz))))) (by kernel_rfl) (fun _ => rfl) (bkO _) (fun x h => (Ksn x.1 x.2.1 x.2.2.1 h).elim fun F hF => ⟨F, fun kend => hF none _⟩)
end Go.AI
namespace Go.AI
open Go
open Go.Proofs.Tryz (prog)
set_option linter.unusedVariables false
@[reducible] def J8p  : List PM := [.d (.slc (.arr 16 (.int .u8)))]
def Jux  : Orc := Orc.of J8p true 1 fun x => (Jkk x.1, [.o 93 (.arr 16 (.int .u8)) (Jtn x.1)])
def J8q  : List (FuncId × Orc) := []
theorem K1c (F : Nat) (x : Ja4 J8p) (kend : List BV → ZO) : Jan prog (bkZ J8q) F 20 86 (Jaf J8p x) [.o 93 (.arr 16 (.int .u8))] kend = K4h F x.1 none Ju3 (fun y0 => kend [BV.o 93 (.arr 16 (.int .u8)) y0]) := by kernel_rfl
theorem Jmv  : Jae prog 86 Jux := Jau (B0 := bkY J8q) bkN bkG Jaq bkT K1c (Jad fz) (by kernel_rfl) (fun _ => rfl) (bkO _) (fun x h => (Kla x.1 h).elim fun F hF => ⟨F, fun kend => hF none Ju3 J6g _⟩)
@[reducible] def J8r  : List PM := [.d (.slc (.pair (.int .i64) (.pair (.arr 16 (.int .u8)) .unit)))]
def Kd2  : Orc := Orc.of J8r true 1 fun x => (Jx6 x.1, [.o 155 (.pair (.int .i64) (.pair (.arr 16 (.int .u8)) .unit)) (J4l x.1)])
def J8s  : List (FuncId × Orc) := []
theorem K1d (F : Nat) (x : Ja4 J8r) (kend : List BV → ZO) : Jan prog (bkZ J8s) F 20 96 (Jaf J8r x) [.o 155 (.pair (.int .i64) (.pair (.arr 16 (.int .u8)) .unit))] kend = K4i F x.1 none Ju3 (fun y0 => kend [BV.o 155 (.pair (.int .i64) (.pair (.arr 16 (.int .u8)) .unit)) y0]) := by kernel_rfl
theorem J8t  : Jae prog 96 Kd2 := Jau (B0 := bkY J8s) bkN bkG Jaq bkT K1d (Jad fz) (by kernel_rfl) (fun _ => rfl) (bkO _) (fun x h => (Klb x.1 h).elim fun F hF => ⟨F, fun kend => hF none Ju3 J6g _⟩)
@[reducible] def Kin  : List PM := [.d (.pair (.slc (.arr 16 (.int .u8))) (.pair (.slc (.pair (.int .i64) (.pair (.arr 16 (.int .u8)) .unit))) .unit)), .d (.int .i64), .d (.int .i64)]
def J8u  : Orc := Orc.of Kin true 0 fun x => (J0r x.1 x.2.1 x.2.2.1, [.d .bool (Jrw x.1 x.2.1 x.2.2.1)])
def Kd3  : List (FuncId × Orc) := []
theorem K8e (F : Nat) (x : Ja4 Kin) (kend : List BV → ZO) : Jan prog (bkZ Kd3) F 20 85 (Jaf Kin x) [.d .bool] kend = Qe6 F x.1 x.2.1 x.2.2.1 none (fun y0 => kend [BV.d .bool y0]) := by kernel_rfl
theorem Jvp  : Jae prog 85 J8u := Jau (B0 := bkY Kd3) bkN bkG Jaq bkT K8e (Jad fz) (by kernel_rfl) (fun _ => rfl) (bkO _) (fun x h => (Kr3 x.1 x.2.1 x.2.2.1 h).elim fun F hF => ⟨F, fun kend => hF none _⟩)
@[reducible] def Ku4  : List PM := [.d (.int .i64)]
def Kyk  : Orc := Orc.of Ku4 false 0 fun x => (K38 x.1, [.d (.pair (.slc (.arr 16 (.int .u8))) (.pair (.slc (.pair (.int .i64) (.pair (.arr 16 (.int .u8)) .unit))) .unit)) (Jl3 x.1), .d (.int .i64) (J6l x.1)])
def Kou  : List (FuncId × Orc) := []
theorem Qco (F : Nat) (x : Ja4 Ku4) (kend : List BV → ZO) : Jan prog (bkZ Kou) F 20 84 (Jaf Ku4 x) [.d (.pair (.slc (.arr 16 (.int .u8))) (.pair (.slc (.pair (.int .i64) (.pair (.arr 16 (.int .u8)) .unit))) .unit)), .d (.int .i64)] kend = dNew F x.1 none (fun y0 y1 => kend [BV.d (.pair (.slc (.arr 16 (.int .u8))) (.pair (.slc (.pair (.int .i64) (.pair (.arr 16 (.int .u8)) .unit))) .unit)) y0, BV.d (.int .i64) y1]) := by kernel_rfl
theorem Kio  : Jae prog 84 Kyk := Jau (B0 := bkY Kou) bkN bkG Jaq bkT Qco (Jad fz) (by kernel_rfl) (fun _ => rfl) (bkO _) (fun x h => (Kzt x.1 h).elim fun F hF => ⟨F, fun kend => hF none _⟩)
@[reducible] def J8v  : List PM := [.d (.pair (.slc (.arr 16 (.int .u8))) (.pair (.slc (.pair (.int .i64) (.pair (.arr 16 (.int .u8)) .unit))) .unit))]
def J1x  : Orc := Orc.of J8v true 0 fun x => (Jto x.1, [.d (.int .i64) (Jkl x.1)])
@[reducible] def Je0  : Tpl := { cur := ⟨[(0, .var (.slc (.pair (.int .i64) (.pair (.arr 16 (.int .u8)) .unit)))), (0, .fn 92 (.pr (.ptr 0 []) (.un))), (2, .var (.int .i64)), (2, .var (.int .i64)), (0, .var (.int .i64))], 10⟩, stk := [⟨[], 9⟩, ⟨[(11, .lit false), (3, .lit false)], 5⟩, ⟨[], 0⟩], heap := [.box (.var (.pair (.slc (.arr 16 (.int .u8))) (.pair (.slc (.pair (.int .i64) (.pair (.arr 16 (.int .u8)) .unit))) .unit)))] }
def Ku5  : List (FuncId × Orc) := []
def J28  : Book := { Γ := gam, orc := Jbk Ku5, hint := Ja0 [(136, { keep := some [0, 1, 4, 7, 8], keeps := [(2, [0, 1, 4, 7, 8])], own := [], dat := [], stk := [[], [11, 15]] })] }
def Ku6 (F : Nat) (nx : Je0.T → ZO) (kq : ZK) (x : Je0.T) : ZO := Jyj F none (fun s s4 s7 s8 f => nx ((s, (((), ()), (s4, (s7, (s8, ()))))), (((), (((), ((), ())), ((), ()))), (f, ())))) (fun y0 y1 y2 y3 y4 => kq .ret (Je0.inst ((y0, (((), ()), (y1, (y2, (y3, ()))))), (((), (((), ((), ())), ((), ()))), (y4, ()))))) (fun y0 y1 y2 y3 y4 => kq (.exit 0) (Je0.inst ((y0, (((), ()), (y1, (y2, (y3, ()))))), (((), (((), ((), ())), ((), ()))), (y4, ()))))) x.1.1 x.1.2.2.1 x.1.2.2.2.1 x.1.2.2.2.2.1 x.2.2.1
def Ku7 (F m : Nat) (x : Je0.T) (kq : ZK) : ZO := Jlg F none (fun y0 y1 y2 y3 y4 => kq .ret (Je0.inst ((y0, (((), ()), (y1, (y2, (y3, ()))))), (((), (((), ((), ())), ((), ()))), (y4, ()))))) (fun y0 y1 y2 y3 y4 => kq (.exit 0) (Je0.inst ((y0, (((), ()), (y1, (y2, (y3, ()))))), (((), (((), ((), ())), ((), ()))), (y4, ()))))) m x.1.1 x.1.2.2.1 x.1.2.2.2.1 x.1.2.2.2.2.1 x.2.2.1
def Kov (F : Nat) : List (LoE Unit) := [⟨136, 2, LO.of Je0 (Ku7 F F)⟩]
def Jw3 (F : Nat) : Jb3 Unit := { toBook := J28, lo := Jct (Kov F), need := Ja1 [(136, 1)] }
theorem Kbh (F : Nat) : Jbw prog (Jw3 F) F 136 0 2 Je0 (Ku6 F) := fun d x KQ => by kernel_rfl
theorem Ku8 (F : Nat) : Jip prog (Jw3 F) F := Ja6 (l := Kov F) rfl (fa (Jal 0 (by kernel_rfl) (by kernel_rfl) (Jah (Kbh F) (fun _ _ => rfl) (fun _ _ _ _ => rfl))) fz)
theorem K1e (F : Nat) (x : Ja4 J8v) (kend : List BV → ZO) : Jan prog (Jw3 F) F 20 46 (Jaf J8v x) [.d (.int .i64)] kend = K4j F x.1 none (fun y0 => kend [BV.d (.int .i64) y0]) := by kernel_rfl
theorem Jsv  : Jae prog 46 J1x := Jau (B0 := J28) bkN bkG Jaq bkT K1e (Jad fz) (by kernel_rfl) (fun _ => rfl) Ku8 (fun x h => (Klc x.1 h).elim fun F hF => ⟨F, fun kend => hF none _⟩)
@[reducible] def Jw4  : List PM := [.d (.pair (.slc (.arr 16 (.int .u8))) (.pair (.slc (.pair (.int .i64) (.pair (.arr 16 (.int .u8)) .unit))) .unit))]
def Jsw  : Orc := Orc.of Jw4 true 1 fun x => (Jhm x.1, [.o 93 (.arr 16 (.int .u8)) (Jix x.1)])
@[reducible] def Je1  : Tpl := { cur := ⟨[(3, .row 0), (6, .var (.slc (.pair (.int .i64) (.pair (.arr 16 (.int .u8)) .unit)))), (0, .var (.int .i64)), (0, .var (.int .i64))], 11⟩, stk := [⟨[], 0⟩], heap := [.row 93 (.arr 16 (.int .u8)) false] }
def Kip  : List (FuncId × Orc) := [(86, Jux)]
def Jvq  : Book := { Γ := gam, orc := Jbk Kip, hint := Ja0 [(87, { keep := some [3, 10, 11, 12], keeps := [(3, [3, 10, 11, 12])], own := [], dat := [], stk := [] })] }
def Kiq (F : Nat) (nx : Je1.T → ZO) (kq : ZK) (x : Je1.T) : ZO := Jpu F none (fun s10 s11 s12 out => nx (((), (s10, (s11, (s12, ())))), (((), ()), (out, ())))) (fun y0 y1 y2 y3 => kq (.exit 0) (Je1.inst (((), (y0, (y1, (y2, ())))), (((), ()), (y3, ()))))) x.1.2.1 x.1.2.2.1 x.1.2.2.2.1 x.2.2.1
def Kir (F m : Nat) (x : Je1.T) (kq : ZK) : ZO := Jhq F none (fun y0 y1 y2 y3 => kq (.exit 0) (Je1.inst (((), (y0, (y1, (y2, ())))), (((), ()), (y3, ()))))) m x.1.2.1 x.1.2.2.1 x.1.2.2.2.1 x.2.2.1
def J8w (F : Nat) : List (LoE Unit) := [⟨87, 3, LO.of Je1 (Kir F F)⟩]
def Jqr (F : Nat) : Jb3 Unit := { toBook := Jvq, lo := Jct (J8w F), need := Ja1 [] }
theorem J31 (F : Nat) : Jbw prog (Jqr F) F 87 0 3 Je1 (Kiq F) := fun d x KQ => by kernel_rfl
theorem Kis (F : Nat) : Jip prog (Jqr F) F := Ja6 (l := J8w F) rfl (fa (Jal 0 (by kernel_rfl) (by kernel_rfl) (Jah (J31 F) (fun _ _ => rfl) (fun _ _ _ _ => rfl))) fz)
theorem Kow (F : Nat) (x : Ja4 Jw4) (kend : List BV → ZO) : Jan prog (Jqr F) F 20 87 (Jaf Jw4 x) [.o 93 (.arr 16 (.int .u8))] kend = Kfr F x.1 none (fun y0 => kend [BV.o 93 (.arr 16 (.int .u8)) y0]) := by kernel_rfl
theorem Jo0  : Jae prog 87 Jsw := Jau (B0 := Jvq) bkN bkG Jaq bkT Kow (Jad (fa Jmv fz)) (by kernel_rfl) (fun _ => rfl) Kis (fun x h => (Kai x.1 h).elim fun F hF => ⟨F, fun kend => hF none _⟩)
@[reducible] def Kit  : List PM := [.d (.pair (.slc (.arr 16 (.int .u8))) (.pair (.slc (.pair (.int .i64) (.pair (.arr 16 (.int .u8)) .unit))) .unit)), .d (.int .i64), .d (.int .i64)]
def Kox  : Orc := Orc.of Kit true 1 fun x => (Kfj x.1 x.2.1 x.2.2.1, [.o 93 (.arr 16 (.int .u8)) (Jdy x.1 x.2.1 x.2.2.1), .d (.int .i64) (Jtp x.1 x.2.1 x.2.2.1)])
def Kd4  : List (FuncId × Orc) := [(46, J1x), (85, J8u), (86, Jux), (87, Jsw)]
theorem K8f (F : Nat) (x : Ja4 Kit) (kend : List BV → ZO) : Jan prog (bkZ Kd4) F 20 39 (Jaf Kit x) [.o 93 (.arr 16 (.int .u8)), .d (.int .i64)] kend = Qe7 F x.1 x.2.1 x.2.2.1 none (fun y0 y1 => kend [BV.o 93 (.arr 16 (.int .u8)) y0, BV.d (.int .i64) y1]) := by kernel_rfl
theorem Kbi  : Jae prog 39 Kox := Jau (B0 := bkY Kd4) bkN bkG Jaq bkT K8f (Jad (fa Jsv (fa Jvp (fa Jmv (fa Jo0 fz))))) (by kernel_rfl) (fun _ => rfl) (bkO _) (fun x h => (Kr4 x.1 x.2.1 x.2.2.1 h).elim fun F hF => ⟨F, fun kend => hF none _⟩)
@[reducible] def Ku9  : List PM := [.d (.pair (.slc (.arr 16 (.int .u8))) (.pair (.slc (.pair (.int .i64) (.pair (.arr 16 (.int .u8)) .unit))) .unit)), .d (.slc (.pair (.int .i64) (.pair (.int .i64) (.pair (.slc (.arr 16 (.int .u8))) .unit))))]
def Kiu  : Orc := Orc.of Ku9 false 0 fun x => (Kk0 x.1 x.2.1, [.d (.pair (.slc (.arr 16 (.int .u8))) (.pair (.slc (.pair (.int .i64) (.pair (.arr 16 (.int .u8)) .unit))) .unit)) (Jnw x.1 x.2.1), .d (.int .i64) (Krd x.1 x.2.1), .d (.int .i64) (Jwj x.1 x.2.1)])
@[reducible] def Jmw  : Tpl := { cur := ⟨[(0, .ptr 0 []), (2, .ptr 3 []), (14, .var (.slc (.arr 16 (.int .u8)))), (0, .var (.int .i64)), (0, .var (.int .i64))], 20⟩, stk := [⟨[(1, .var (.slc (.pair (.int .i64) (.pair (.int .i64) (.pair (.slc (.arr 16 (.int .u8))) .unit))))), (2, .ptr 4 []), (0, .var (.int .i64)), (0, .var (.int .i64)), (1, .ptr 0 []), (0, .ptr 5 []), (0, .var (.int .i64)), (11, .var (.slc (.pair (.int .i64) (.pair (.int .i64) (.pair (.slc (.arr 16 (.int .u8))) .unit))))), (0, .var (.int .i64)), (0, .var (.int .i64))], 27⟩, ⟨[], 0⟩], heap := [.box (.pr (.row 1) (.pr (.row 2) (.var .unit))), .row 93 (.arr 16 (.int .u8)) false, .row 155 (.pair (.int .i64) (.pair (.arr 16 (.int .u8)) .unit)) false, .box (.var (.pair (.int .i64) (.pair (.int .i64) (.pair (.slc (.arr 16 (.int .u8))) .unit)))), .box (.var (.pair (.slc (.arr 16 (.int .u8))) (.pair (.slc (.pair (.int .i64) (.pair (.arr 16 (.int .u8)) .unit))) .unit))), .box (.fns [some 97, some 98])] }
@[reducible] def Jil  : Tpl := { cur := ⟨[(1, .var (.slc (.pair (.int .i64) (.pair (.int .i64) (.pair (.slc (.arr 16 (.int .u8))) .unit))))), (2, .ptr 0 []), (0, .var (.int .i64)), (0, .var (.int .i64)), (1, .ptr 1 []), (0, .ptr 4 []), (12, .var (.slc (.pair (.int .i64) (.pair (.int .i64) (.pair (.slc (.arr 16 (.int .u8))) .unit))))), (0, .var (.int .i64)), (0, .var (.int .i64))], 27⟩, stk := [⟨[], 0⟩], heap := [.box (.var (.pair (.slc (.arr 16 (.int .u8))) (.pair (.slc (.pair (.int .i64) (.pair (.arr 16 (.int .u8)) .unit))) .unit))), .box (.pr (.row 2) (.pr (.row 3) (.var .unit))), .row 93 (.arr 16 (.int .u8)) false, .row 155 (.pair (.int .i64) (.pair (.arr 16 (.int .u8)) .unit)) false, .box (.fns [some 97, some 98])] }
def K8g  : List (FuncId × Orc) := [(46, J1x), (85, J8u), (86, Jux), (87, Jsw), (96, Kd2)]
def Kd5  : Book := { Γ := gam, orc := Jbk K8g, hint := Ja0 [(22, { keep := some [1, 4, 5, 6, 8, 9, 22, 23, 24], keeps := [(6, [1, 4, 5, 6, 8, 9, 22, 23, 24])], own := [], dat := [], stk := [], ownb := [(8, 1, 37)] }), (97, { keep := some [0, 3, 18, 19, 20], keeps := [(4, [0, 3, 18, 19, 20])], own := [], dat := [], stk := [[1, 2, 4, 5, 6, 8, 9, 10, 20, 22, 23, 24]] })] }
def K8h (F : Nat) (nx : Jmw.T → ZO) (kq : ZK) (x : Jmw.T) : ZO := Kfs F none (fun s18 s19 s20 l s5 s6 i s22 s23 s24 h1 h2 op s4 => nx (((), ((), (s18, (s19, (s20, ()))))), (((l, ((), (s5, (s6, ((), ((), (i, (s22, (s23, (s24, ())))))))))), ((), ())), (((), ((), ())), (h1, (h2, (op, (s4, ((), ()))))))))) (fun y0 y1 y2 y3 y4 y5 y6 y7 y8 y9 y10 y11 y12 y13 => kq (.exit 0) (Jmw.inst (((), ((), (y0, (y1, (y2, ()))))), (((y3, ((), (y4, (y5, ((), ((), (y6, (y7, (y8, (y9, ())))))))))), ((), ())), (((), ((), ())), (y10, (y11, (y12, (y13, ((), ())))))))))) x.1.2.2.1 x.1.2.2.2.1 x.1.2.2.2.2.1 x.2.1.1.1 x.2.1.1.2.2.1 x.2.1.1.2.2.2.1 x.2.1.1.2.2.2.2.2.2.1 x.2.1.1.2.2.2.2.2.2.2.1 x.2.1.1.2.2.2.2.2.2.2.2.1 x.2.1.1.2.2.2.2.2.2.2.2.2.1 x.2.2.2.1 x.2.2.2.2.1 x.2.2.2.2.2.1 x.2.2.2.2.2.2.1
def K8i (F m : Nat) (x : Jmw.T) (kq : ZK) : ZO := Jtz F none (fun y0 y1 y2 y3 y4 y5 y6 y7 y8 y9 y10 y11 y12 y13 => kq (.exit 0) (Jmw.inst (((), ((), (y0, (y1, (y2, ()))))), (((y3, ((), (y4, (y5, ((), ((), (y6, (y7, (y8, (y9, ())))))))))), ((), ())), (((), ((), ())), (y10, (y11, (y12, (y13, ((), ())))))))))) m x.1.2.2.1 x.1.2.2.2.1 x.1.2.2.2.2.1 x.2.1.1.1 x.2.1.1.2.2.1 x.2.1.1.2.2.2.1 x.2.1.1.2.2.2.2.2.2.1 x.2.1.1.2.2.2.2.2.2.2.1 x.2.1.1.2.2.2.2.2.2.2.2.1 x.2.1.1.2.2.2.2.2.2.2.2.2.1 x.2.2.2.1 x.2.2.2.2.1 x.2.2.2.2.2.1 x.2.2.2.2.2.2.1
def K8j (F : Nat) (nx : Jil.T → ZO) (kq : ZK) (x : Jil.T) : ZO := Kft F none (fun l s5 s6 s22 s23 s24 s4 h2 h3 => nx ((l, ((), (s5, (s6, ((), ((), (s22, (s23, (s24, ()))))))))), (((), ()), (s4, (((), ((), ())), (h2, (h3, ((), ())))))))) (fun y0 y1 y2 y3 y4 y5 y6 y7 y8 => kq .ret (Jil.inst ((y0, ((), (y1, (y2, ((), ((), (y3, (y4, (y5, ()))))))))), (((), ()), (y6, (((), ((), ())), (y7, (y8, ((), ()))))))))) (fun y0 y1 y2 y3 y4 y5 y6 y7 y8 => kq (.exit 0) (Jil.inst ((y0, ((), (y1, (y2, ((), ((), (y3, (y4, (y5, ()))))))))), (((), ()), (y6, (((), ((), ())), (y7, (y8, ((), ()))))))))) x.1.1 x.1.2.2.1 x.1.2.2.2.1 x.1.2.2.2.2.2.2.1 x.1.2.2.2.2.2.2.2.1 x.1.2.2.2.2.2.2.2.2.1 x.2.2.1 x.2.2.2.2.1 x.2.2.2.2.2.1
def K8k (F m : Nat) (x : Jil.T) (kq : ZK) : ZO := Jpv F none (fun y0 y1 y2 y3 y4 y5 y6 y7 y8 => kq .ret (Jil.inst ((y0, ((), (y1, (y2, ((), ((), (y3, (y4, (y5, ()))))))))), (((), ()), (y6, (((), ((), ())), (y7, (y8, ((), ()))))))))) (fun y0 y1 y2 y3 y4 y5 y6 y7 y8 => kq (.exit 0) (Jil.inst ((y0, ((), (y1, (y2, ((), ((), (y3, (y4, (y5, ()))))))))), (((), ()), (y6, (((), ((), ())), (y7, (y8, ((), ()))))))))) m x.1.1 x.1.2.2.1 x.1.2.2.2.1 x.1.2.2.2.2.2.2.1 x.1.2.2.2.2.2.2.2.1 x.1.2.2.2.2.2.2.2.2.1 x.2.2.1 x.2.2.2.2.1 x.2.2.2.2.2.1
def K8l (F : Nat) : List (LoE Unit) := [⟨97, 4, LO.of Jmw (K8i F F)⟩,
 ⟨22, 6, LO.of Jil (K8k F F)⟩]
def Jzz (F : Nat) : Jb3 Unit := { toBook := Kd5, lo := Jct (K8l F), need := Ja1 [(22, 1)] }
theorem Koy (F : Nat) : Jbw prog (Jzz F) F 97 0 4 Jmw (K8h F) := fun d x KQ => by kernel_rfl
theorem Koz (F : Nat) : Jbw prog (Jzz F) F 22 0 6 Jil (K8j F) := fun d x KQ => by kernel_rfl
theorem K8m (F : Nat) : Jip prog (Jzz F) F := Ja6 (l := K8l F) rfl (fa (Jal 0 (by kernel_rfl) (by kernel_rfl) (Jah (Koy F) (fun _ _ => rfl) (fun _ _ _ _ => rfl))) (fa (Jal 0 (by kernel_rfl) (by kernel_rfl) (Jah (Koz F) (fun _ _ => rfl) (fun _ _ _ _ => rfl))) fz))
theorem Qcp (F : Nat) (x : Ja4 Ku9) (kend : List BV → ZO) : Jan prog (Jzz F) F 20 22 (Jaf Ku9 x) [.d (.pair (.slc (.arr 16 (.int .u8))) (.pair (.slc (.pair (.int .i64) (.pair (.arr 16 (.int .u8)) .unit))) .unit)), .d (.int .i64), .d (.int .i64)] kend = dRun F x.1 x.2.1 none (fun y0 y1 y2 => kend [BV.d (.pair (.slc (.arr 16 (.int .u8))) (.pair (.slc (.pair (.int .i64) (.pair (.arr 16 (.int .u8)) .unit))) .unit)) y0, BV.d (.int .i64) y1, BV.d (.int .i64) y2]) := by kernel_rfl
theorem Jz0  : Jae prog 22 Kiu := Jau (B0 := Kd5) bkN bkG Jaq bkT Qcp (Jad (fa Jsv (fa Jvp (fa Jmv (fa Jo0 (fa J8t fz)))))) (by kernel_rfl) (fun _ => rfl) K8m (fun x h => (Kzu x.1 x.2.1 h).elim fun F hF => ⟨F, fun kend => hF none _⟩)
end Go.AI
namespace Go.AI
open Go Go.Proofs
def rcvs (f : FuncId) : Option Rcv := bif Nat.beq f 88 then some { clo := 127, ncap := 2, pan := 186, sto := [(0, 24, none), (1, 4, some false)] } else none
theorem Qgy (p q : Value) (w : World) : CallsDIn (Fe none) 0 Tryz.prog 127 #[p, q] .returning w fun e u' w' => (∃ v, e = .returned v) ∧ u' = .returning ∧ w' = w := by
 refine callsDIn_of_wpSIn Tryz.func127 rfl trivial fun c₀ cs hu => ?_
 apply wpSIn_seq
 apply wpSIn_region
 simp [wpOpsSIn, go_sem, recoverD, hu, Tryz.ntmps127, Exit.thenS]
 apply wpSIn_seq
 apply wpSIn_region
 simp [wpOpsSIn, go_sem, Exit.thenS]
 refine wpSIn_cond (t := false) (by simp [Act.eval, Array.replicate]) ?_
 simp only [Bool.false_eq_true, if_false]
 refine wpSIn_of_wpIn rfl (wpIn_skip ?_)
 cases c₀
 simp_all [bodyPostS, results, Tryz.results127]
theorem Qgz (p q : Value) (w w' : World) (h : Kki Tryz.prog [p, q] [(0, 24, none), (1, 4, some false)] (w.alloc (.cells #[] 186)) w') :
  CallsDIn (Fe none) 0 Tryz.prog 127 #[p, q] (.panicking (panicked 186)) w fun e u' w'' => (∃ v, e = .returned v) ∧ settle u' = .returning ∧ w'' = w' := by
 obtain ⟨w1, h1, w2, h2, h3⟩ := h
 simp only [Kki] at h3
 subst h3
 have hta : ∀ w, (Instr.typeAssert (.iface 186 (.agg #[])) 20 186 true).run Tryz.prog w = .ok (.tuple #[.agg #[], .bool true]) w := fun w => by kernel_rfl
 refine callsDIn_of_wpSIn Tryz.func127 rfl trivial fun c₀ cs hu => ?_
 apply wpSIn_seq
 apply wpSIn_region
 simp [wpOpsSIn, go_sem, recoverD, hu, Tryz.ntmps127, Exit.thenS, panicked]
 apply wpSIn_seq
 apply wpSIn_region
 simp [wpOpsSIn, go_sem, Exit.thenS]
 refine wpSIn_cond (t := true) (by simp [Act.eval, Array.replicate]) ?_
 simp only [if_true]
 apply wpSIn_seq
 apply wpSIn_seq
 apply wpSIn_region
 simp [wpOpsSIn, go_sem, Exit.thenS, hta]
 apply wpSIn_seq
 apply wpSIn_region
 simp [wpOpsSIn, go_sem, Exit.thenS]
 refine wpSIn_cond (t := false) (by simp [Act.eval, Array.replicate]) ?_
 simp only [Bool.false_eq_true, if_false]
 refine wpSIn_of_wpIn rfl (wpIn_skip ?_)
 simp only [Exit.thenS]
 apply wpSIn_region
 have g1 : (Instr.storeAt 24 p (.slice none 0 0)).run Tryz.prog (w.alloc (.cells #[] 186)) = .ok () w1 := h1
 have g2 : (Instr.storeAt 4 q (.bool false)).run Tryz.prog w1 = .ok () w' := h2
 show wpOpsSIn (Fe none) 0 Tryz.prog _ _ [0, 1] _ _ _
 simp [wpOpsSIn, execOp, Act.eval, Act.put, Region.wanted, g1, g2, bodyPostS, results, Tryz.results127, settle]
 exact ⟨fun _ _ => trivial, fun _ _ => trivial⟩
theorem Qg0  : Ky9 Tryz.prog rcvs := by
 intro f rc h
 unfold rcvs at h
 cases hf : Nat.beq f 88 with
 | false => rw [hf] at h; cases h
 | true =>
  rw [hf] at h
  cases h
  have two : ∀ caps : Array Value, caps.size = 2 → ∃ p q, caps = #[p, q] := fun caps h => by
   obtain ⟨l⟩ := caps
   match l, h with
   | [p, q], _ => exact ⟨p, q, rfl⟩
  refine ⟨⟨Tryz.f127, Tryz.func127, by kernel_rfl, by kernel_rfl⟩, fun caps w h => ?_, fun caps w h => ⟨.cells #[] 186, fun w' hs => ?_⟩⟩
  ·obtain ⟨p, q, rfl⟩ := two caps h
   exact Qgy p q w
  ·obtain ⟨p, q, rfl⟩ := two caps h
   exact Qgz p q w w' hs
end Go.AI
namespace Go.AI
open Go
open Go.Proofs.Tryz (prog)
set_option linter.unusedVariables false
@[reducible] def J1y  : List PM := [.d (.int .u32)]
def J8x  : Orc := Orc.of J1y true 0 fun x => (Jyf x.1, [.d (.int .u32) (Jjt x.1)])
@[reducible] def Jf3  : Tpl := { cur := ⟨[(0, .var (.int .u32)), (3, .var (.int .i64))], 11⟩, stk := [⟨[], 0⟩], heap := [] }
def Ko0  : List (FuncId × Orc) := []
def Jz1  : Book := { Γ := gam, orc := Jbk Ko0, hint := Ja0 [(178, { keep := some [0, 4], keeps := [(2, [0, 4])], own := [], dat := [], stk := [] })] }
def Ko1 (F : Nat) (nx : Jf3.T → ZO) (kq : ZK) (x : Jf3.T) : ZO := J02 F none (fun register s4 => nx ((register, (s4, ())), (((), ()), ()))) (fun y0 y1 => kq (.exit 0) (Jf3.inst ((y0, (y1, ())), (((), ()), ())))) x.1.1 x.1.2.1
def Ko2 (F m : Nat) (x : Jf3.T) (kq : ZK) : ZO := Jl9 F none (fun y0 y1 => kq (.exit 0) (Jf3.inst ((y0, (y1, ())), (((), ()), ())))) m x.1.1 x.1.2.1
def Kd6 (F : Nat) : List (LoE Unit) := [⟨178, 2, LO.of Jf3 (Ko2 F F)⟩]
def Jsx (F : Nat) : Jb3 Unit := { toBook := Jz1, lo := Jct (Kd6 F), need := Ja1 [] }
theorem J8y (F : Nat) : Jbw prog (Jsx F) F 178 0 2 Jf3 (Ko1 F) := fun d x KQ => by kernel_rfl
theorem Ko3 (F : Nat) : Jip prog (Jsx F) F := Ja6 (l := Kd6 F) rfl (fa (Jal 0 (by kernel_rfl) (by kernel_rfl) (Jah (J8y F) (fun _ _ => rfl) (fun _ _ _ _ => rfl))) fz)
theorem Kva (F : Nat) (x : Ja4 J1y) (kend : List BV → ZO) : Jan prog (Jsx F) F 20 178 (Jaf J1y x) [.d (.int .u32)] kend = Krt F x.1 none (fun y0 => kend [BV.d (.int .u32) y0]) := by kernel_rfl
theorem J32  : Jae prog 178 J8x := Jau (B0 := Jz1) bkN bkG Jaq bkT Kva (Jad fz) (by kernel_rfl) (fun _ => rfl) Ko3 (fun x h => (Kg7 x.1 h).elim fun F hF => ⟨F, fun kend => hF none _⟩)
@[reducible] def J8z  : List PM := []
def Kd7  : Orc := Orc.of J8z true 0 fun x => (J4t, [.d (.arr 256 (.int .u32)) (Jko)])
@[reducible] def Jhh  : Tpl := { cur := ⟨[(0, .ptr 0 []), (0, .ptr 1 []), (1, .var (.int .i64))], 9⟩, stk := [⟨[], 0⟩], heap := [.box (.var (.arr 256 (.int .u32))), .box (.var (.arr 256 (.int .u32)))] }
def Kvb  : List (FuncId × Orc) := [(178, J8x)]
def J29  : Book := { Γ := gam, orc := Jbk Kvb, hint := Ja0 [(170, { keep := some [0, 1, 3], keeps := [(3, [0, 1, 3])], own := [], dat := [], stk := [] })] }
def Kvc (F : Nat) (nx : Jhh.T → ZO) (kq : ZK) (x : Jhh.T) : ZO := J6x F none (fun s3 s0 out => nx (((), ((), (s3, ()))), (((), ()), (s0, (out, ()))))) (fun y0 y1 y2 => kq (.exit 0) (Jhh.inst (((), ((), (y0, ()))), (((), ()), (y1, (y2, ())))))) x.1.2.2.1 x.2.2.1 x.2.2.2.1
def Kvd (F m : Nat) (x : Jhh.T) (kq : ZK) : ZO := Jop F none (fun y0 y1 y2 => kq (.exit 0) (Jhh.inst (((), ((), (y0, ()))), (((), ()), (y1, (y2, ())))))) m x.1.2.2.1 x.2.2.1 x.2.2.2.1
def Ko4 (F : Nat) : List (LoE Unit) := [⟨170, 3, LO.of Jhh (Kvd F F)⟩]
def Jw5 (F : Nat) : Jb3 Unit := { toBook := J29, lo := Jct (Ko4 F), need := Ja1 [] }
theorem Kbj (F : Nat) : Jbw prog (Jw5 F) F 170 0 3 Jhh (Kvc F) := fun d x KQ => by kernel_rfl
theorem Kve (F : Nat) : Jip prog (Jw5 F) F := Ja6 (l := Ko4 F) rfl (fa (Jal 0 (by kernel_rfl) (by kernel_rfl) (Jah (Kbj F) (fun _ _ => rfl) (fun _ _ _ _ => rfl))) fz)
theorem K1f (F : Nat) (x : Ja4 J8z) (kend : List BV → ZO) : Jan prog (Jw5 F) F 20 170 (Jaf J8z x) [.d (.arr 256 (.int .u32))] kend = K4u F  none (fun y0 => kend [BV.d (.arr 256 (.int .u32)) y0]) := by kernel_rfl
theorem J80  : Jae prog 170 Kd7 := Jau (B0 := J29) bkN bkG Jaq bkT K1f (Jad (fa J32 fz)) (by kernel_rfl) (fun _ => rfl) Kve (fun x h => (Kl1  h).elim fun F hF => ⟨F, fun kend => hF none _⟩)
@[reducible] def Kvf  : List PM := [.d (.int .u32), .d (.slc (.int .u8))]
def Kyl  : Orc := Orc.of Kvf true 0 fun x => (Kk5 x.1 x.2.1, [.d (.int .u32) (Kw1 x.1 x.2.1)])
@[reducible] def Jmx  : Tpl := { cur := ⟨[(0, .hnd .yield 0), (4, .var (.slc (.int .u8))), (0, .var (.int .i64)), (0, .var (.int .i64))], 8⟩, stk := [⟨[(0, .hnd .yield 0)], 0⟩, ⟨[(1, .fn 171 (.pr (.ptr 3 []) (.un))), (0, .ptr 1 []), (1, .var (.int .u32))], 15⟩, ⟨[(6, .var (.int .u32))], 4⟩, ⟨[], 0⟩], heap := [.lp 159 3 ⟨[(2, .ptr 1 []), (2, .ptr 2 [])], 14⟩ .ready, .box (.var (.int .u32)), .box (.var (.arr 256 (.int .u32))), .box (.var (.slc (.int .u8)))] }
def K8n  : List (FuncId × Orc) := [(170, Kd7)]
def Kd8  : Book := { Γ := gam, orc := Jbk K8n, hint := Ja0 [(171, { keep := some [0, 5, 6, 7], keeps := [(1, [0, 5, 6, 7])], own := [], dat := [], stk := [[0], [1, 2, 4, 6, 9], [6]] })] }
def K8o (F : Nat) (nx : Jmx.T → ZO) (kq : ZK) (x : Jmx.T) : ZO := Kf7 F none (fun s5 s6 s7 s4 s61 register t bytes => nx (((), (s5, (s6, (s7, ())))), ((((), ()), ((((), ()), ((), (s4, ()))), ((s61, ()), ((), ())))), (((), ((), ())), (register, (t, (bytes, ()))))))) (fun y0 y1 y2 y3 y4 y5 y6 y7 => kq (.exit 0) (Jmx.inst (((), (y0, (y1, (y2, ())))), ((((), ()), ((((), ()), ((), (y3, ()))), ((y4, ()), ((), ())))), (((), ((), ())), (y5, (y6, (y7, ())))))))) x.1.2.1 x.1.2.2.1 x.1.2.2.2.1 x.2.1.2.1.2.2.1 x.2.1.2.2.1.1 x.2.2.2.1 x.2.2.2.2.1 x.2.2.2.2.2.1
def K8p (F m : Nat) (x : Jmx.T) (kq : ZK) : ZO := Juf F none (fun y0 y1 y2 y3 y4 y5 y6 y7 => kq (.exit 0) (Jmx.inst (((), (y0, (y1, (y2, ())))), ((((), ()), ((((), ()), ((), (y3, ()))), ((y4, ()), ((), ())))), (((), ((), ())), (y5, (y6, (y7, ())))))))) m x.1.2.1 x.1.2.2.1 x.1.2.2.2.1 x.2.1.2.1.2.2.1 x.2.1.2.2.1.1 x.2.2.2.1 x.2.2.2.2.1 x.2.2.2.2.2.1
def K8q (F : Nat) : List (LoE Unit) := [⟨171, 1, LO.of Jmx (K8p F F)⟩]
def J81 (F : Nat) : Jb3 Unit := { toBook := Kd8, lo := Jct (K8q F), need := Ja1 [(171, 1)] }
theorem Ko5 (F : Nat) : Jbw prog (J81 F) F 171 0 1 Jmx (K8o F) := fun d x KQ => by kernel_rfl
theorem K8r (F : Nat) : Jip prog (J81 F) F := Ja6 (l := K8q F) rfl (fa (Jal 0 (by kernel_rfl) (by kernel_rfl) (Jah (Ko5 F) (fun _ _ => rfl) (fun _ _ _ _ => rfl))) fz)
theorem Qcq (F : Nat) (x : Ja4 Kvf) (kend : List BV → ZO) : Jan prog (J81 F) F 20 145 (Jaf Kvf x) [.d (.int .u32)] kend = cUpd F x.1 x.2.1 none (fun y0 => kend [BV.d (.int .u32) y0]) := by kernel_rfl
theorem Kiv  : Jae prog 145 Kyl := Jau (B0 := Kd8) bkN bkG Jaq bkT Qcq (Jad (fa J80 fz)) (by kernel_rfl) (fun _ => rfl) K8r (fun x h => (K0c x.1 x.2.1 h).elim fun F hF => ⟨F, fun kend => hF none _⟩)
@[reducible] def Kvg  : List PM := [.d (.slc (.int .u8))]
def Kiw  : Orc := Orc.of Kvg true 0 fun x => (Kcr x.1, [.d (.int .u32) (Kcs x.1)])
def Ko6  : List (FuncId × Orc) := [(145, Kyl)]
theorem Qcr (F : Nat) (x : Ja4 Kvg) (kend : List BV → ZO) : Jan prog (bkZ Ko6) F 20 110 (Jaf Kvg x) [.d (.int .u32)] kend = cSum F x.1 none (fun y0 => kend [BV.d (.int .u32) y0]) := by kernel_rfl
theorem Jz2  : Jae prog 110 Kiw := Jau (B0 := bkY Ko6) bkN bkG Jaq bkT Qcr (Jad (fa Kiv fz)) (by kernel_rfl) (fun _ => rfl) (bkO _) (fun x h => (K0d x.1 h).elim fun F hF => ⟨F, fun kend => hF none _⟩)
@[reducible] def J82  : List PM := [.d (.int .i64)]
def Juy  : Orc := Orc.of J82 true 0 fun x => (Jkp x.1, [.d (.int .i64) (Jkq x.1)])
def J83  : List (FuncId × Orc) := []
theorem K1g (F : Nat) (x : Ja4 J82) (kend : List BV → ZO) : Jan prog (bkZ J83) F 20 107 (Jaf J82 x) [.d (.int .i64)] kend = K4v F x.1 none (fun y0 => kend [BV.d (.int .i64) y0]) := by kernel_rfl
theorem Jmy  : Jae prog 107 Juy := Jau (B0 := bkY J83) bkN bkG Jaq bkT K1g (Jad fz) (by kernel_rfl) (fun _ => rfl) (bkO _) (fun x h => (Kl6 x.1 h).elim fun F hF => ⟨F, fun kend => hF none _⟩)
@[reducible] def J84  : List PM := [.d (.int .i64)]
def Kd9  : Orc := Orc.of J84 true 0 fun x => (J4u x.1, [.d (.int .i64) (Jji x.1)])
def J85  : List (FuncId × Orc) := [(107, Juy)]
theorem K1h (F : Nat) (x : Ja4 J84) (kend : List BV → ZO) : Jan prog (bkZ J85) F 20 58 (Jaf J84 x) [.d (.int .i64)] kend = K4w F x.1 none (fun y0 => kend [BV.d (.int .i64) y0]) := by kernel_rfl
theorem J86  : Jae prog 58 Kd9 := Jau (B0 := bkY J85) bkN bkG Jaq bkT K1h (Jad (fa Jmy fz)) (by kernel_rfl) (fun _ => rfl) (bkO _) (fun x h => (Kl7 x.1 h).elim fun F hF => ⟨F, fun kend => hF none _⟩)
@[reducible] def J87  : List PM := [.d (.pair (.int .i64) (.pair (.int .i64) (.pair (.int .i64) .unit)))]
def J1z  : Orc := Orc.of J87 true 0 fun x => (true, [.d (.int .i64) (Jkr x.1)])
def J88  : List (FuncId × Orc) := []
theorem K1i (F : Nat) (x : Ja4 J87) (kend : List BV → ZO) : Jan prog (bkZ J88) F 20 24 (Jaf J87 x) [.d (.int .i64)] kend = K4x F x.1 none (fun y0 => kend [BV.d (.int .i64) y0]) := by kernel_rfl
theorem Jsy  : Jae prog 24 J1z := Jau (B0 := bkY J88) bkN bkG Jaq bkT K1i (Jad fz) (by kernel_rfl) (fun _ => rfl) (bkO _) (fun x _ => (Kl8 x.1).elim fun F hF => ⟨F, fun kend => hF none _⟩)
@[reducible] def Kix  : List PM := []
def J89  : Orc := Orc.of Kix true 0 fun x => (J6p, [.d (.arr 16 (.int .u8)) (J0w)])
def Kea  : List (FuncId × Orc) := []
theorem K8s (F : Nat) (x : Ja4 Kix) (kend : List BV → ZO) : Jan prog (bkZ Kea) F 20 40 (Jaf Kix x) [.d (.arr 16 (.int .u8))] kend = Qh3 F  none (fun y0 => kend [BV.d (.arr 16 (.int .u8)) y0]) := by kernel_rfl
theorem Jvr  : Jae prog 40 J89 := Jau (B0 := bkY Kea) bkN bkG Jaq bkT K8s (Jad fz) (by kernel_rfl) (fun _ => rfl) (bkO _) (fun x h => (Ksr  h).elim fun F hF => ⟨F, fun kend => hF none _⟩)
@[reducible] def J9a  : List PM := [.d (.slc (.int .u8))]
def Keb  : Orc := Orc.of J9a true 0 fun x => (Jnd x.1, [.d (.int .i64) (Jb5 x.1)])
@[reducible] def Jhi  : Tpl := { cur := ⟨[(3, .var (.int .i64)), (2, .var (.slc (.int .u8))), (0, .var (.int .i64)), (0, .var (.int .i64))], 10⟩, stk := [⟨[], 0⟩], heap := [] }
def Kvh  : List (FuncId × Orc) := []
def J3a  : Book := { Γ := gam, orc := Jbk Kvh, hint := Ja0 [(129, { keep := some [3, 6, 7, 8], keeps := [(3, [3, 6, 7, 8])], own := [], dat := [], stk := [] })] }
def Kvi (F : Nat) (nx : Jhi.T → ZO) (kq : ZK) (x : Jhi.T) : ZO := Jyy F none (fun n s6 s7 s8 => nx ((n, (s6, (s7, (s8, ())))), (((), ()), ()))) (fun y0 y1 y2 y3 => kq (.exit 0) (Jhi.inst ((y0, (y1, (y2, (y3, ())))), (((), ()), ())))) x.1.1 x.1.2.1 x.1.2.2.1 x.1.2.2.2.1
def Kvj (F m : Nat) (x : Jhi.T) (kq : ZK) : ZO := Jlp F none (fun y0 y1 y2 y3 => kq (.exit 0) (Jhi.inst ((y0, (y1, (y2, (y3, ())))), (((), ()), ())))) m x.1.1 x.1.2.1 x.1.2.2.1 x.1.2.2.2.1
def Ko7 (F : Nat) : List (LoE Unit) := [⟨129, 3, LO.of Jhi (Kvj F F)⟩]
def Jw6 (F : Nat) : Jb3 Unit := { toBook := J3a, lo := Jct (Ko7 F), need := Ja1 [] }
theorem Kbk (F : Nat) : Jbw prog (Jw6 F) F 129 0 3 Jhi (Kvi F) := fun d x KQ => by kernel_rfl
theorem Kvk (F : Nat) : Jip prog (Jw6 F) F := Ja6 (l := Ko7 F) rfl (fa (Jal 0 (by kernel_rfl) (by kernel_rfl) (Jah (Kbk F) (fun _ _ => rfl) (fun _ _ _ _ => rfl))) fz)
theorem K1j (F : Nat) (x : Ja4 J9a) (kend : List BV → ZO) : Jan prog (Jw6 F) F 20 129 (Jaf J9a x) [.d (.int .i64)] kend = K4y F x.1 none (fun y0 => kend [BV.d (.int .i64) y0]) := by kernel_rfl
theorem J9b  : Jae prog 129 Keb := Jau (B0 := J3a) bkN bkG Jaq bkT K1j (Jad fz) (by kernel_rfl) (fun _ => rfl) Kvk (fun x h => (Kl4 x.1 h).elim fun F hF => ⟨F, fun kend => hF none _⟩)
@[reducible] def Kvl  : List PM := [.d (.slc (.int .u8)), .d (.int .i64)]
def Kym  : Orc := Orc.of Kvl true 0 fun x => (J6q x.1 x.2.1, [.d (.arr 16 (.int .u8)) (Jyg x.1 x.2.1)])
@[reducible] def Jmz  : Tpl := { cur := ⟨[(0, .sl 0), (0, .var (.int .i64)), (4, .var (.int .i64)), (0, .var (.int .i64))], 15⟩, stk := [⟨[(0, .var (.slc (.int .u8))), (3, .ptr 1 []), (0, .ptr 0 [])], 19⟩, ⟨[], 0⟩], heap := [.box (.var (.arr 16 (.int .u8))), .box (.var (.arr 16 (.int .u8)))] }
@[reducible] def Jm0  : Tpl := { cur := ⟨[(0, .sl 0), (0, .var (.int .i64)), (4, .var (.int .i64)), (0, .var (.int .i64))], 15⟩, stk := [⟨[(0, .var (.slc (.int .u8))), (3, .ptr 1 []), (0, .ptr 0 []), (4, .sl 0)], 14⟩, ⟨[], 0⟩], heap := [.box (.var (.arr 16 (.int .u8))), .box (.var (.arr 16 (.int .u8)))] }
@[reducible] def Jm1  : Tpl := { cur := ⟨[(0, .sl 0), (0, .var (.int .i64)), (4, .var (.int .i64)), (0, .var (.int .i64))], 15⟩, stk := [⟨[(0, .var (.slc (.int .u8))), (3, .ptr 1 []), (0, .ptr 0 []), (4, .sl 0), (8, .sl 0)], 5⟩, ⟨[], 0⟩], heap := [.box (.var (.arr 16 (.int .u8))), .box (.var (.arr 16 (.int .u8)))] }
def K8t  : List (FuncId × Orc) := [(107, Juy), (110, Kiw)]
def Kec  : Book := { Γ := gam, orc := Jbk K8t, hint := Ja0 [(109, { keep := some [0, 1, 6, 7], keeps := [(1, [0, 1, 6, 7])], own := [], dat := [], stk := [[0, 4, 5, 10, 19]] })] }
def K8u (F : Nat) (nx : Jmz.T → ZO) (kq : ZK) (x : Jmz.T) : ZO := Kf8 F none (fun to_i to_n n s6 s7 payload to s4 => nx (((to_i, to_n), (n, (s6, (s7, ())))), (((payload, ((), ((), ()))), ((), ())), (to, (s4, ()))))) (fun y0 y1 y2 y3 y4 y5 y6 y7 => kq (.exit 0) (Jmz.inst (((y0, y1), (y2, (y3, (y4, ())))), (((y5, ((), ((), ()))), ((), ())), (y6, (y7, ())))))) x.1.1.1 x.1.1.2 x.1.2.1 x.1.2.2.1 x.1.2.2.2.1 x.2.1.1.1 x.2.2.1 x.2.2.2.1
def K8v (F m : Nat) (x : Jmz.T) (kq : ZK) : ZO := Jp6 F none (fun y0 y1 y2 y3 y4 y5 y6 y7 => kq (.exit 0) (Jmz.inst (((y0, y1), (y2, (y3, (y4, ())))), (((y5, ((), ((), ()))), ((), ())), (y6, (y7, ())))))) m x.1.1.1 x.1.1.2 x.1.2.1 x.1.2.2.1 x.1.2.2.2.1 x.2.1.1.1 x.2.2.1 x.2.2.2.1
def K8w (F : Nat) (nx : Jm0.T → ZO) (kq : ZK) (x : Jm0.T) : ZO := Kf9 F none (fun to_i to_n n s6 s7 payload s10_i s10_n to s4 => nx (((to_i, to_n), (n, (s6, (s7, ())))), (((payload, ((), ((), ((s10_i, s10_n), ())))), ((), ())), (to, (s4, ()))))) (fun y0 y1 y2 y3 y4 y5 y6 y7 y8 y9 => kq (.exit 0) (Jm0.inst (((y0, y1), (y2, (y3, (y4, ())))), (((y5, ((), ((), ((y6, y7), ())))), ((), ())), (y8, (y9, ())))))) x.1.1.1 x.1.1.2 x.1.2.1 x.1.2.2.1 x.1.2.2.2.1 x.2.1.1.1 x.2.1.1.2.2.2.1.1 x.2.1.1.2.2.2.1.2 x.2.2.1 x.2.2.2.1
def K8x (F m : Nat) (x : Jm0.T) (kq : ZK) : ZO := Jnn F none (fun y0 y1 y2 y3 y4 y5 y6 y7 y8 y9 => kq (.exit 0) (Jm0.inst (((y0, y1), (y2, (y3, (y4, ())))), (((y5, ((), ((), ((y6, y7), ())))), ((), ())), (y8, (y9, ())))))) m x.1.1.1 x.1.1.2 x.1.2.1 x.1.2.2.1 x.1.2.2.2.1 x.2.1.1.1 x.2.1.1.2.2.2.1.1 x.2.1.1.2.2.2.1.2 x.2.2.1 x.2.2.2.1
def K8y (F : Nat) (nx : Jm1.T → ZO) (kq : ZK) (x : Jm1.T) : ZO := Kga F none (fun to_i to_n n s6 s7 payload s10_i s10_n s19_i s19_n to s4 => nx (((to_i, to_n), (n, (s6, (s7, ())))), (((payload, ((), ((), ((s10_i, s10_n), ((s19_i, s19_n), ()))))), ((), ())), (to, (s4, ()))))) (fun y0 y1 y2 y3 y4 y5 y6 y7 y8 y9 y10 y11 => kq (.exit 0) (Jm1.inst (((y0, y1), (y2, (y3, (y4, ())))), (((y5, ((), ((), ((y6, y7), ((y8, y9), ()))))), ((), ())), (y10, (y11, ())))))) x.1.1.1 x.1.1.2 x.1.2.1 x.1.2.2.1 x.1.2.2.2.1 x.2.1.1.1 x.2.1.1.2.2.2.1.1 x.2.1.1.2.2.2.1.2 x.2.1.1.2.2.2.2.1.1 x.2.1.1.2.2.2.2.1.2 x.2.2.1 x.2.2.2.1
def K8z (F m : Nat) (x : Jm1.T) (kq : ZK) : ZO := Jp7 F none (fun y0 y1 y2 y3 y4 y5 y6 y7 y8 y9 y10 y11 => kq (.exit 0) (Jm1.inst (((y0, y1), (y2, (y3, (y4, ())))), (((y5, ((), ((), ((y6, y7), ((y8, y9), ()))))), ((), ())), (y10, (y11, ())))))) m x.1.1.1 x.1.1.2 x.1.2.1 x.1.2.2.1 x.1.2.2.2.1 x.2.1.1.1 x.2.1.1.2.2.2.1.1 x.2.1.1.2.2.2.1.2 x.2.1.1.2.2.2.2.1.1 x.2.1.1.2.2.2.2.1.2 x.2.2.1 x.2.2.2.1
def K80 (F : Nat) : List (LoE Unit) := [⟨109, 1, LO.orT Jmz (K8v F F) (LO.orT Jm0 (K8x F F) (LO.of Jm1 (K8z F F)))⟩]
def Jsz (F : Nat) : Jb3 Unit := { toBook := Kec, lo := Jct (K80 F), need := Ja1 [] }
theorem Ko8 (F : Nat) : Jbw prog (Jsz F) F 109 0 1 Jmz (K8u F) := fun d x KQ => by kernel_rfl
theorem Ko9 (F : Nat) : Jbw prog (Jsz F) F 109 0 1 Jm0 (K8w F) := fun d x KQ => by kernel_rfl
theorem Kpa (F : Nat) : Jbw prog (Jsz F) F 109 0 1 Jm1 (K8y F) := fun d x KQ => by kernel_rfl
theorem K81 (F : Nat) : Jip prog (Jsz F) F := Ja6 (l := K80 F) rfl (fa (Jal 0 (by kernel_rfl) (by kernel_rfl) (Kfd (Jah (Ko8 F) (fun _ _ => rfl) (fun _ _ _ _ => rfl)) (Kfd (Jah (Ko9 F) (fun _ _ => rfl) (fun _ _ _ _ => rfl)) (Jah (Kpa F) (fun _ _ => rfl) (fun _ _ _ _ => rfl))))) fz)
theorem Qcs (F : Nat) (x : Ja4 Kvl) (kend : List BV → ZO) : Jan prog (Jsz F) F 20 62 (Jaf Kvl x) [.d (.arr 16 (.int .u8))] kend = lEnd F x.1 x.2.1 none (fun y0 => kend [BV.d (.arr 16 (.int .u8)) y0]) := by kernel_rfl
theorem Kiy  : Jae prog 62 Kym := Jau (B0 := Kec) bkN bkG Jaq bkT Qcs (Jad (fa Jmy (fa Jz2 fz))) (by kernel_rfl) (fun _ => rfl) K81 (fun x h => (K0e x.1 x.2.1 h).elim fun F hF => ⟨F, fun kend => hF none _⟩)
@[reducible] def J9c  : List PM := [.d (.int .i64), .d (.slc (.arr 16 (.int .u8)))]
def J10  : Orc := Orc.of J9c false 0 fun x => (Jks x.1 x.2.1, [.d (.pair (.int .i64) (.pair (.int .i64) (.pair (.slc (.arr 16 (.int .u8))) .unit))) (Jkt x.1 x.2.1)])
def J9d  : List (FuncId × Orc) := []
theorem K1k (F : Nat) (x : Ja4 J9c) (kend : List BV → ZO) : Jan prog (bkZ J9d) F 20 60 (Jaf J9c x) [.d (.pair (.int .i64) (.pair (.int .i64) (.pair (.slc (.arr 16 (.int .u8))) .unit)))] kend = Qde F x.1 x.2.1 none (fun y0 => kend [BV.d (.pair (.int .i64) (.pair (.int .i64) (.pair (.slc (.arr 16 (.int .u8))) .unit))) y0]) := by kernel_rfl
theorem Js0  : Jae prog 60 J10 := Jau (B0 := bkY J9d) bkN bkG Jaq bkT K1k (Jad fz) (by kernel_rfl) (fun _ => rfl) (bkO _) (fun x h => (Kl9 x.1 x.2.1 h).elim fun F hF => ⟨F, fun kend => hF none _⟩)
@[reducible] def Kiz  : List PM := []
def J9e  : Orc := Orc.of Kiz false 0 fun x => (Jpp, [.d (.pair (.int .i64) (.pair (.int .i64) (.pair (.slc (.arr 16 (.int .u8))) .unit))) (Jpq)])
def Ked  : List (FuncId × Orc) := []
theorem K82 (F : Nat) (x : Ja4 Kiz) (kend : List BV → ZO) : Jan prog (bkZ Ked) F 20 61 (Jaf Kiz x) [.d (.pair (.int .i64) (.pair (.int .i64) (.pair (.slc (.arr 16 (.int .u8))) .unit)))] kend = Qh4 F  none (fun y0 => kend [BV.d (.pair (.int .i64) (.pair (.int .i64) (.pair (.slc (.arr 16 (.int .u8))) .unit))) y0]) := by kernel_rfl
theorem Jvs  : Jae prog 61 J9e := Jau (B0 := bkY Ked) bkN bkG Jaq bkT K82 (Jad fz) (by kernel_rfl) (fun _ => rfl) (bkO _) (fun x h => (Kss  h).elim fun F hF => ⟨F, fun kend => hF none _⟩)
@[reducible] def Jgc  : Tpl := { cur := ⟨[(0, .var (.slc (.int .u8))), (0, .fn 132 (.un)), (2, .var (.int .i64)), (2, .var (.int .i64)), (0, .var (.int .i64))], 10⟩, stk := [⟨[], 9⟩, ⟨[], 0⟩], heap := [] }
def K1l  : List (FuncId × Orc) := []
def J9f  : Book := { Γ := gam, orc := Jbk K1l, hint := Ja0 [(151, { keep := some [0, 1, 4, 7, 8], keeps := [(2, [0, 1, 4, 7, 8])], own := [], dat := [], stk := [[]] })] }
def K1m (F : Nat) (nx : Jgc.T → ZO) (kq : ZK) (x : Jgc.T) : ZO := J4y F none (fun s s4 s7 s8 => nx ((s, ((), (s4, (s7, (s8, ()))))), (((), ((), ())), ()))) (fun y0 y1 y2 y3 => kq .ret (Jgc.inst ((y0, ((), (y1, (y2, (y3, ()))))), (((), ((), ())), ())))) (fun y0 y1 y2 y3 => kq (.exit 0) (Jgc.inst ((y0, ((), (y1, (y2, (y3, ()))))), (((), ((), ())), ())))) x.1.1 x.1.2.2.1 x.1.2.2.2.1 x.1.2.2.2.2.1
def K1n (F m : Nat) (x : Jgc.T) (kq : ZK) : ZO := Joq F none (fun y0 y1 y2 y3 => kq .ret (Jgc.inst ((y0, ((), (y1, (y2, (y3, ()))))), (((), ((), ())), ())))) (fun y0 y1 y2 y3 => kq (.exit 0) (Jgc.inst ((y0, ((), (y1, (y2, (y3, ()))))), (((), ((), ())), ())))) m x.1.1 x.1.2.2.1 x.1.2.2.2.1 x.1.2.2.2.2.1
def Kyn (F : Nat) : List (LoE Unit) := [⟨151, 2, LO.of Jgc (K1n F F)⟩]
def Juz (F : Nat) : Jb3 Unit := { toBook := J9f, lo := Jct (Kyn F), need := Ja1 [(151, 1)] }
theorem Ki0 (F : Nat) : Jbw prog (Juz F) F 151 0 2 Jgc (K1m F) := fun d x KQ => by kernel_rfl
theorem K1o (F : Nat) : Jip prog (Juz F) F := Ja6 (l := Kyn F) rfl (fa (Jal 0 (by kernel_rfl) (by kernel_rfl) (Jah (Ki0 F) (fun _ _ => rfl) (fun _ _ _ _ => rfl))) fz)
theorem K83 (F : Nat) (s : ZB) (kend : List BV → ZO) : Jan prog (Juz F) F 20 131 [.d (.slc (.int .u8)) s, .f 132] [.d .bool] kend = Qfg F s none (fun y0 => kend [BV.d .bool y0]) := by kernel_rfl
theorem Jvt  : Jae prog 131 (Orc.of [.d (.slc (.int .u8)), .f] true 0 fun x => ((Nat.beq x.2.1 132) && Kzq x.1 x.2.1, [.d .bool (Kzr x.1 x.2.1)])) := Jdu (B0 := J9f) bkN bkG Jaq bkT (Jad fz) (by kernel_rfl) (fun x h => by
 obtain ⟨x0, x1, _⟩ := x
 simp only [Bool.and_eq_true] at h
 obtain ⟨e, h⟩ := h
 have e := Nat.eq_of_beq_eq_true e
 subst e
 obtain ⟨F, hF⟩ := Kst x0 h
 exact ⟨F, 20, Juz F, rfl, K1o F, fun kend => (K83 F x0 kend).trans (hF none (fun y0 => kend [BV.d .bool y0]))⟩)
def K84  : Orc := Orc.of [.d (.slc (.int .u8)), .f] true 0 fun x => ((Nat.beq x.2.1 132) && Kzq x.1 x.2.1, [.d .bool (Kzr x.1 x.2.1)])
theorem Kpb  : Jae prog 131 K84 := Jjh Jvt.1 (fun x h => by
 obtain ⟨x0, x1, _⟩ := x
 simp only [Bool.and_eq_true] at h
 obtain ⟨e, _⟩ := h
 rcases e with e
 ·have e := Nat.eq_of_beq_eq_true e
  subst e
  exact ⟨_, Jvt, rfl⟩)
@[reducible] def J11  : List PM := [.d (.int .i64)]
def J9g  : Orc := Orc.of J11 false 0 fun x => (J6r x.1, [.d (.pair (.int .i64) (.pair (.int .i64) (.pair (.int .i64) .unit))) (Ji0 x.1), .d (.slc (.pair (.int .i64) (.pair (.int .i64) (.pair (.slc (.arr 16 (.int .u8))) .unit)))) (Jeh x.1), .d (.int .i64) (Joe x.1)])
def J3b  : List (FuncId × Orc) := [(40, J89), (60, J10), (61, J9e)]
theorem Kvm (F : Nat) (x : Ja4 J11) (kend : List BV → ZO) : Jan prog (bkZ J3b) F 20 83 (Jaf J11 x) [.d (.pair (.int .i64) (.pair (.int .i64) (.pair (.int .i64) .unit))), .d (.slc (.pair (.int .i64) (.pair (.int .i64) (.pair (.slc (.arr 16 (.int .u8))) .unit)))), .d (.int .i64)] kend = Kru F x.1 none (fun y0 y1 y2 => kend [BV.d (.pair (.int .i64) (.pair (.int .i64) (.pair (.int .i64) .unit))) y0, BV.d (.slc (.pair (.int .i64) (.pair (.int .i64) (.pair (.slc (.arr 16 (.int .u8))) .unit)))) y1, BV.d (.int .i64) y2]) := by kernel_rfl
theorem J33  : Jae prog 83 J9g := Jau (B0 := bkY J3b) bkN bkG Jaq bkT Kvm (Jad (fa Jvr (fa Js0 (fa Jvs fz)))) (by kernel_rfl) (fun _ => rfl) (bkO _) (fun x h => (Khb x.1 h).elim fun F hF => ⟨F, fun kend => hF none _⟩)
@[reducible] def J12  : List PM := [.d (.pair (.int .i64) (.pair (.int .i64) (.pair (.int .i64) .unit))), .d (.slc (.int .u8))]
def J9h  : Orc := Orc.of J12 false 0 fun x => (Jyh x.1 x.2.1, [.d (.pair (.int .i64) (.pair (.int .i64) (.pair (.int .i64) .unit))) (Jof x.1 x.2.1), .d (.slc (.pair (.int .i64) (.pair (.int .i64) (.pair (.slc (.arr 16 (.int .u8))) .unit)))) (Jog x.1 x.2.1), .d (.int .i64) (Joh x.1 x.2.1)])
@[reducible] def Jf4  : Tpl := { cur := ⟨[(0, .hnd .yield 0), (0, .ptr 5 []), (0, .ptr 6 []), (1, .var (.int .i64))], 26⟩, stk := [⟨[(0, .hnd .yield 0)], 0⟩, ⟨[(2, .ptr 1 [])], 13⟩, ⟨[(0, .hnd .yield 2)], 0⟩, ⟨[(1, .var (.slc (.int .u8))), (0, .ptr 7 []), (1, .ptr 8 []), (0, .nils), (0, .var (.int .i64)), (1, .var (.int .i64)), (0, .nils), (0, .ptr 3 [])], 66⟩, ⟨[], 0⟩], heap := [.lp 108 2 ⟨[(2, .ptr 1 [])], 13⟩ .ready, .box (.hnd .yield 2), .lp 26 13 ⟨[(10, .ptr 3 [])], 66⟩ .ready, .box (.row 4), .row 93 (.arr 16 (.int .u8)) false, .box (.var (.slc (.int .u8))), .box (.var (.int .i64)), .box (.var (.pair (.int .i64) (.pair (.int .i64) (.pair (.int .i64) .unit)))), .box (.var (.pair (.int .i64) (.pair (.int .i64) (.pair (.int .i64) .unit))))] }
def Kpc  : List (FuncId × Orc) := [(24, J1z), (58, Kd9), (60, J10), (61, J9e), (62, Kym)]
def Jz3  : Book := { Γ := gam, orc := Jbk Kpc, hint := Ja0 [(26, { keep := some [], keeps := [], own := [], dat := [], stk := [], rgb := [(5012, [(10, 0, 36)])] }), (142, { keep := some [0, 1, 2, 4], keeps := [(1, [0, 1, 2, 4])], own := [], dat := [], stk := [[0], [2, 3, 4, 7, 15], [0], [1, 2, 4, 5, 6, 8, 9, 10, 11, 40, 45, 49, 63, 64, 67, 73]] })] }
def Kpd (F : Nat) (nx : Jf4.T → ZO) (kq : ZK) (x : Jf4.T) : ZO := Jug F none (fun i payload s6 n parts s1 s2 l s4 => nx (((), ((), ((), (i, ())))), ((((), ()), (((), ()), (((), ()), ((payload, ((), ((), ((), (s6, (n, ((), ((), ())))))))), ((), ()))))), (((), ()), ((), (((), ()), ((), (parts, (s1, (s2, (l, (s4, ())))))))))))) (fun y0 y1 y2 y3 y4 y5 y6 y7 y8 => kq (.exit 0) (Jf4.inst (((), ((), ((), (y0, ())))), ((((), ()), (((), ()), (((), ()), ((y1, ((), ((), ((), (y2, (y3, ((), ((), ())))))))), ((), ()))))), (((), ()), ((), (((), ()), ((), (y4, (y5, (y6, (y7, (y8, ()))))))))))))) x.1.2.2.2.1 x.2.1.2.2.2.1.1 x.2.1.2.2.2.1.2.2.2.2.1 x.2.1.2.2.2.1.2.2.2.2.2.1 x.2.2.2.2.2.2.1 x.2.2.2.2.2.2.2.1 x.2.2.2.2.2.2.2.2.1 x.2.2.2.2.2.2.2.2.2.1 x.2.2.2.2.2.2.2.2.2.2.1
def Kpe (F m : Nat) (x : Jf4.T) (kq : ZK) : ZO := Jja F none (fun y0 y1 y2 y3 y4 y5 y6 y7 y8 => kq (.exit 0) (Jf4.inst (((), ((), ((), (y0, ())))), ((((), ()), (((), ()), (((), ()), ((y1, ((), ((), ((), (y2, (y3, ((), ((), ())))))))), ((), ()))))), (((), ()), ((), (((), ()), ((), (y4, (y5, (y6, (y7, (y8, ()))))))))))))) m x.1.2.2.2.1 x.2.1.2.2.2.1.1 x.2.1.2.2.2.1.2.2.2.2.1 x.2.1.2.2.2.1.2.2.2.2.2.1 x.2.2.2.2.2.2.1 x.2.2.2.2.2.2.2.1 x.2.2.2.2.2.2.2.2.1 x.2.2.2.2.2.2.2.2.2.1 x.2.2.2.2.2.2.2.2.2.2.1
def Kee (F : Nat) : List (LoE Unit) := [⟨142, 1, LO.of Jf4 (Kpe F F)⟩]
def Js1 (F : Nat) : Jb3 Unit := { toBook := Jz3, lo := Jct (Kee F), need := Ja1 [(142, 2)] }
theorem J9i (F : Nat) : Jbw prog (Js1 F) F 142 0 1 Jf4 (Kpd F) := fun d x KQ => by kernel_rfl
theorem Kpf (F : Nat) : Jip prog (Js1 F) F := Ja6 (l := Kee F) rfl (fa (Jal 0 (by kernel_rfl) (by kernel_rfl) (Jah (J9i F) (fun _ _ => rfl) (fun _ _ _ _ => rfl))) fz)
theorem Kvn (F : Nat) (x : Ja4 J12) (kend : List BV → ZO) : Jan prog (Js1 F) F 20 26 (Jaf J12 x) [.d (.pair (.int .i64) (.pair (.int .i64) (.pair (.int .i64) .unit))), .d (.slc (.pair (.int .i64) (.pair (.int .i64) (.pair (.slc (.arr 16 (.int .u8))) .unit)))), .d (.int .i64)] kend = Krv F x.1 x.2.1 none (fun y0 y1 y2 => kend [BV.d (.pair (.int .i64) (.pair (.int .i64) (.pair (.int .i64) .unit))) y0, BV.d (.slc (.pair (.int .i64) (.pair (.int .i64) (.pair (.slc (.arr 16 (.int .u8))) .unit)))) y1, BV.d (.int .i64) y2]) := by kernel_rfl
theorem J34  : Jae prog 26 J9h := Jau (B0 := Jz3) bkN bkG Jaq bkT Kvn (Jad (fa Jsy (fa J86 (fa Js0 (fa Jvs (fa Kiy fz)))))) (by kernel_rfl) (fun _ => rfl) Kpf (fun x h => (Khd x.1 x.2.1 h).elim fun F hF => ⟨F, fun kend => hF none _⟩)
@[reducible] def Ki1  : List PM := [.d (.slc (.arr 16 (.int .u8))), .d (.int .i64)]
def Kpg  : Orc := Orc.of Ki1 false 0 fun x => (J0y x.1 x.2.1, [.d (.slc (.slc (.int .u8))) (Jyi x.1 x.2.1), .d (.int .i64) (Jku x.1 x.2.1)])
@[reducible] def Jgd  : Tpl := { cur := ⟨[(0, .ptr 0 []), (0, .var (.int .i64)), (2, .ptr 1 []), (0, .ptr 3 []), (0, .ptr 4 []), (0, .var (.int .i64))], 63⟩, stk := [⟨[(0, .ptr 1 []), (0, .ptr 3 [])], 0⟩, ⟨[(0, .var (.slc (.arr 16 (.int .u8)))), (0, .var (.int .i64)), (2, .nils), (0, .var (.int .i64)), (0, .row 5), (0, .ptr 0 []), (0, .var (.int .i64))], 36⟩, ⟨[], 0⟩], heap := [.box (.var (.pair (.slc (.arr 16 (.int .u8))) .unit)), .box (.row 2), .row 5 (.int .u8) false, .box (.var .bool), .box (.var (.arr 16 (.int .u8))), .row 24 (.slc (.int .u8)) false] }
@[reducible] def Jo1  : Tpl := { cur := ⟨[(0, .var (.slc (.arr 16 (.int .u8)))), (0, .var (.int .i64)), (2, .nils), (0, .var (.int .i64)), (0, .row 0), (0, .ptr 1 [])], 37⟩, stk := [⟨[], 0⟩], heap := [.row 24 (.slc (.int .u8)) false, .box (.var (.pair (.slc (.arr 16 (.int .u8))) .unit))] }
@[reducible] def J9j  : Tpl := { cur := ⟨[(0, .var (.slc (.arr 16 (.int .u8)))), (0, .var (.int .i64)), (2, .row 0), (0, .var (.int .i64)), (0, .row 0), (0, .ptr 1 [])], 37⟩, stk := [⟨[], 0⟩], heap := [.row 24 (.slc (.int .u8)) false, .box (.var (.pair (.slc (.arr 16 (.int .u8))) .unit))] }
def K1p  : List (FuncId × Orc) := [(107, Juy), (110, Kiw), (129, Keb), (131, K84)]
def J9k  : Book := { Γ := gam, orc := Jbk K1p, hint := Ja0 [(41, { keep := some [0, 1, 4, 5, 6, 7], keeps := [(5, [0, 1, 4, 5, 6, 7])], own := [(6, 51)], dat := [], stk := [] }), (88, { keep := some [0, 1, 4, 5, 6, 7], keeps := [(4, [0, 1, 4, 5, 6, 7])], own := [], dat := [], stk := [[0, 1, 2, 3, 4, 5, 6, 7], [0, 1, 4, 5, 6, 7, 8]], rgb := [(5002, [(4, 0, 24)])] })], rcv := rcvs }
def K1q (F : Nat) (nx : Jgd.T → ZO) (kq : ZK) (x : Jgd.T) : ZO := J4z F none (fun number count l first s5 left r payload ok p out => nx (((), (number, ((), ((), ((), (count, ())))))), ((((), ((), ())), ((l, (first, ((), (s5, ((), ((), (left, ()))))))), ((), ()))), (r, ((), (payload, (ok, (p, (out, ()))))))))) (fun y0 y1 y2 y3 y4 y5 y6 y7 y8 y9 y10 => kq (.panic 186) (Jgd.inst (((), (y0, ((), ((), ((), (y1, ())))))), ((((), ((), ())), ((y2, (y3, ((), (y4, ((), ((), (y5, ()))))))), ((), ()))), (y6, ((), (y7, (y8, (y9, (y10, ())))))))))) (fun y0 y1 y2 y3 y4 y5 y6 y7 y8 y9 y10 => kq (.exit 0) (Jgd.inst (((), (y0, ((), ((), ((), (y1, ())))))), ((((), ((), ())), ((y2, (y3, ((), (y4, ((), ((), (y5, ()))))))), ((), ()))), (y6, ((), (y7, (y8, (y9, (y10, ())))))))))) x.1.2.1 x.1.2.2.2.2.2.1 x.2.1.2.1.1 x.2.1.2.1.2.1 x.2.1.2.1.2.2.2.1 x.2.1.2.1.2.2.2.2.2.2.1 x.2.2.1 x.2.2.2.2.1 x.2.2.2.2.2.1 x.2.2.2.2.2.2.1 x.2.2.2.2.2.2.2.1
def K1r (F m : Nat) (x : Jgd.T) (kq : ZK) : ZO := Jor F none (fun y0 y1 y2 y3 y4 y5 y6 y7 y8 y9 y10 => kq (.panic 186) (Jgd.inst (((), (y0, ((), ((), ((), (y1, ())))))), ((((), ((), ())), ((y2, (y3, ((), (y4, ((), ((), (y5, ()))))))), ((), ()))), (y6, ((), (y7, (y8, (y9, (y10, ())))))))))) (fun y0 y1 y2 y3 y4 y5 y6 y7 y8 y9 y10 => kq (.exit 0) (Jgd.inst (((), (y0, ((), ((), ((), (y1, ())))))), ((((), ((), ())), ((y2, (y3, ((), (y4, ((), ((), (y5, ()))))))), ((), ()))), (y6, ((), (y7, (y8, (y9, (y10, ())))))))))) m x.1.2.1 x.1.2.2.2.2.2.1 x.2.1.2.1.1 x.2.1.2.1.2.1 x.2.1.2.1.2.2.2.1 x.2.1.2.1.2.2.2.2.2.2.1 x.2.2.1 x.2.2.2.2.1 x.2.2.2.2.2.1 x.2.2.2.2.2.2.1 x.2.2.2.2.2.2.2.1
def K1s (F : Nat) (nx : Jo1.T → ZO) (kq : ZK) (x : Jo1.T) : ZO := J40 F none (fun l first s5 out r => nx ((l, (first, ((), (s5, ((), ((), ())))))), (((), ()), (out, (r, ()))))) (fun y0 y1 y2 y3 y4 => kq .ret (J9j.inst ((y0, (y1, ((), (y2, ((), ((), ())))))), (((), ()), (y3, (y4, ())))))) x.1.1 x.1.2.1 x.1.2.2.2.1 x.2.2.1 x.2.2.2.1
def K1t (F m : Nat) (x : Jo1.T) (kq : ZK) : ZO := Jos F none (fun y0 y1 y2 y3 y4 => kq .ret (J9j.inst ((y0, (y1, ((), (y2, ((), ((), ())))))), (((), ()), (y3, (y4, ())))))) m x.1.1 x.1.2.1 x.1.2.2.2.1 x.2.2.1 x.2.2.2.1
def Kyo (F : Nat) : List (LoE Unit) := [⟨88, 4, LO.of Jgd (K1r F F)⟩,
 ⟨41, 5, LO.of Jo1 (K1t F F)⟩]
def Ju0 (F : Nat) : Jb3 Unit := { toBook := J9k, lo := Jct (Kyo F), need := Ja1 [(41, 3), (88, 2)] }
theorem Ki2 (F : Nat) : Jbw prog (Ju0 F) F 88 0 4 Jgd (K1q F) := fun d x KQ => by kernel_rfl
theorem Ki3 (F : Nat) : Jbw prog (Ju0 F) F 41 0 5 Jo1 (K1s F) := fun d x KQ => by kernel_rfl
theorem K1u (F : Nat) : Jip prog (Ju0 F) F := Ja6 (l := Kyo F) rfl (fa (Jal 0 (by kernel_rfl) (by kernel_rfl) (Jah (Ki2 F) (fun _ _ => rfl) (fun _ _ _ _ => rfl))) (fa (Jal 0 (by kernel_rfl) (by kernel_rfl) (Jah (Ki3 F) (fun _ _ => rfl) (fun _ _ _ _ => rfl))) fz))
theorem K85 (F : Nat) (x : Ja4 Ki1) (kend : List BV → ZO) : Jan prog (Ju0 F) F 20 41 (Jaf Ki1 x) [.d (.slc (.slc (.int .u8))), .d (.int .i64)] kend = Qfh F x.1 x.2.1 none (fun y0 y1 => kend [BV.d (.slc (.slc (.int .u8))) y0, BV.d (.int .i64) y1]) := by kernel_rfl
theorem Kbl  : Jae prog 41 Kpg := Jau (B0 := J9k) bkN bkG Jaq bkT K85 (Jad (fa Jmy (fa Jz2 (fa J9b (fa Kpb fz))))) (by kernel_rfl) (fun _ => rfl) K1u (fun x h => (Ksw x.1 x.2.1 h).elim fun F hF => ⟨F, fun kend => hF none _⟩) (hR := Qg0)
@[reducible] def J5d  : List PM := [.d (.pair (.slc (.arr 16 (.int .u8))) (.pair (.slc (.pair (.int .i64) (.pair (.arr 16 (.int .u8)) .unit))) .unit))]
def J9l  : Orc := Orc.of J5d false 0 fun x => (Ji1 x.1, [.d (.pair (.int .i64) (.pair (.int .i64) (.pair (.int .i64) .unit))) (Jpr x.1), .d (.slc (.slc (.int .u8))) (Jfc x.1), .d (.int .i64) (Jkv x.1)])
def Kef  : List (FuncId × Orc) := [(39, Kox), (40, J89), (41, Kpg)]
theorem K86 (F : Nat) (x : Ja4 J5d) (kend : List BV → ZO) : Jan prog (bkZ Kef) F 20 19 (Jaf J5d x) [.d (.pair (.int .i64) (.pair (.int .i64) (.pair (.int .i64) .unit))), .d (.slc (.slc (.int .u8))), .d (.int .i64)] kend = Qfi F x.1 none (fun y0 y1 y2 => kend [BV.d (.pair (.int .i64) (.pair (.int .i64) (.pair (.int .i64) .unit))) y0, BV.d (.slc (.slc (.int .u8))) y1, BV.d (.int .i64) y2]) := by kernel_rfl
theorem Jvu  : Jae prog 19 J9l := Jau (B0 := bkY Kef) bkN bkG Jaq bkT K86 (Jad (fa Kbi (fa Jvr (fa Kbl fz)))) (by kernel_rfl) (fun _ => rfl) (bkO _) (fun x h => (Ksy x.1 h).elim fun F hF => ⟨F, fun kend => hF none _⟩)
end Go.AI
namespace Go.AI
open Go
open Go.Proofs.Tryz (prog)
set_option linter.unusedVariables false
@[reducible] def Jz4  : List PM := [.d (.slc (.pair (.int .i64) (.pair (.slc (.int .u8)) .unit)))]
def J13  : Orc := Orc.of Jz4 true 0 fun x => (Jne x.1, [.d (.int .i64) (Jjj x.1)])
@[reducible] def Je2  : Tpl := { cur := ⟨[(2, .var (.int .i64)), (5, .var (.slc (.pair (.int .i64) (.pair (.slc (.int .u8)) .unit)))), (0, .var (.int .i64)), (0, .var (.int .i64))], 14⟩, stk := [⟨[], 0⟩], heap := [] }
def Kvo  : List (FuncId × Orc) := []
def J3c  : Book := { Γ := gam, orc := Jbk Kvo, hint := Ja0 [(37, { keep := some [2, 8, 9, 10], keeps := [(4, [2, 8, 9, 10])], own := [], dat := [], stk := [] })] }
def Kvp (F : Nat) (nx : Je2.T → ZO) (kq : ZK) (x : Je2.T) : ZO := Jyz F none (fun s2 s8 s9 s10 => nx ((s2, (s8, (s9, (s10, ())))), (((), ()), ()))) (fun y0 y1 y2 y3 => kq .ret (Je2.inst ((y0, (y1, (y2, (y3, ())))), (((), ()), ())))) (fun y0 y1 y2 y3 => kq (.exit 0) (Je2.inst ((y0, (y1, (y2, (y3, ())))), (((), ()), ())))) x.1.1 x.1.2.1 x.1.2.2.1 x.1.2.2.2.1
def Kvq (F m : Nat) (x : Je2.T) (kq : ZK) : ZO := Jlq F none (fun y0 y1 y2 y3 => kq .ret (Je2.inst ((y0, (y1, (y2, (y3, ())))), (((), ()), ())))) (fun y0 y1 y2 y3 => kq (.exit 0) (Je2.inst ((y0, (y1, (y2, (y3, ())))), (((), ()), ())))) m x.1.1 x.1.2.1 x.1.2.2.1 x.1.2.2.2.1
def Kph (F : Nat) : List (LoE Unit) := [⟨37, 4, LO.of Je2 (Kvq F F)⟩]
def Jw7 (F : Nat) : Jb3 Unit := { toBook := J3c, lo := Jct (Kph F), need := Ja1 [(37, 1)] }
theorem Kbm (F : Nat) : Jbw prog (Jw7 F) F 37 0 4 Je2 (Kvp F) := fun d x KQ => by kernel_rfl
theorem Kvr (F : Nat) : Jip prog (Jw7 F) F := Ja6 (l := Kph F) rfl (fa (Jal 0 (by kernel_rfl) (by kernel_rfl) (Jah (Kbm F) (fun _ _ => rfl) (fun _ _ _ _ => rfl))) fz)
theorem K1v (F : Nat) (x : Ja4 Jz4) (kend : List BV → ZO) : Jan prog (Jw7 F) F 20 37 (Jaf Jz4 x) [.d (.int .i64)] kend = K4z F x.1 none (fun y0 => kend [BV.d (.int .i64) y0]) := by kernel_rfl
theorem Js2  : Jae prog 37 J13 := Jau (B0 := J3c) bkN bkG Jaq bkT K1v (Jad fz) (by kernel_rfl) (fun _ => rfl) Kvr (fun x h => (Kmf x.1 h).elim fun F hF => ⟨F, fun kend => hF none _⟩)
def Kpi  : List (FuncId × Orc) := [(51, Jsk)]
def Jz5  : Book := { Γ := gam, orc := Jbk Kpi, hint := Ja0 [] }
def Keg (F : Nat) : List (LoE Unit) := []
def Js3 (F : Nat) : Jb3 Unit := { toBook := Jz5, lo := Jct (Keg F), need := Ja1 [] }
theorem Kpj (F : Nat) : Jip prog (Js3 F) F := Ja6 (l := Keg F) rfl fz
theorem Kvs (F : Nat) (b : ZB) (x_ : Int) (kend : List BV → ZO) : Jan prog (Js3 F) F 20 50 [.d (.slc (.int .u8)) b, .f 51, .d (.int .i64) x_] [.o 5 (.int .u8)] kend = Krw F b x_ none (fun y0 => kend [BV.o 5 (.int .u8) y0]) := by kernel_rfl
theorem Jq8  : Jae prog 50 (Orc.of [.d (.slc (.int .u8)), .f, .d (.int .i64)] true 1 fun x => ((Nat.beq x.2.1 51) && Jps x.1 x.2.1 x.2.2.1, [.o 5 (.int .u8) (Jkb x.1 x.2.1 x.2.2.1)])) := Jdu (B0 := Jz5) bkN bkG Jaq bkT (Jad (fa Ju7 fz)) (by kernel_rfl) (fun x h => by
 obtain ⟨x0, x1, x2, _⟩ := x
 simp only [Bool.and_eq_true] at h
 obtain ⟨e, h⟩ := h
 have e := Nat.eq_of_beq_eq_true e
 subst e
 obtain ⟨F, hF⟩ := Khg x0 x2 h
 exact ⟨F, 20, Js3 F, rfl, Kpj F, fun kend => (Kvs F x0 x2 kend).trans (hF none (fun y0 => kend [BV.o 5 (.int .u8) y0]))⟩)
def Kpk  : Orc := Orc.of [.d (.slc (.int .u8)), .f, .d (.int .i64)] true 1 fun x => ((Nat.beq x.2.1 51) && Jps x.1 x.2.1 x.2.2.1, [.o 5 (.int .u8) (Jkb x.1 x.2.1 x.2.2.1)])
theorem Kbn  : Jae prog 50 Kpk := Jjh Jq8.1 (fun x h => by
 obtain ⟨x0, x1, x2, _⟩ := x
 simp only [Bool.and_eq_true] at h
 obtain ⟨e, _⟩ := h
 rcases e with e
 ·have e := Nat.eq_of_beq_eq_true e
  subst e
  exact ⟨_, Jq8, rfl⟩)
def Kpl  : List (FuncId × Orc) := [(53, Joz)]
def Jz6  : Book := { Γ := gam, orc := Jbk Kpl, hint := Ja0 [] }
def Keh (F : Nat) : List (LoE Unit) := []
def Js4 (F : Nat) : Jb3 Unit := { toBook := Jz6, lo := Jct (Keh F), need := Ja1 [] }
theorem Kpm (F : Nat) : Jip prog (Js4 F) F := Ja6 (l := Keh F) rfl fz
theorem Kvt (F : Nat) (b x_ : ZB) (kend : List BV → ZO) : Jan prog (Js4 F) F 20 52 [.d (.slc (.int .u8)) b, .f 53, .d (.slc (.int .u8)) x_] [.o 5 (.int .u8)] kend = Krx F b x_ none (fun y0 => kend [BV.o 5 (.int .u8) y0]) := by kernel_rfl
theorem Jq9  : Jae prog 52 (Orc.of [.d (.slc (.int .u8)), .f, .d (.slc (.int .u8))] true 1 fun x => ((Nat.beq x.2.1 53) && Jwk x.1 x.2.1 x.2.2.1, [.o 5 (.int .u8) (Jr3 x.1 x.2.1 x.2.2.1)])) := Jdu (B0 := Jz6) bkN bkG Jaq bkT (Jad (fa Jrg fz)) (by kernel_rfl) (fun x h => by
 obtain ⟨x0, x1, x2, _⟩ := x
 simp only [Bool.and_eq_true] at h
 obtain ⟨e, h⟩ := h
 have e := Nat.eq_of_beq_eq_true e
 subst e
 obtain ⟨F, hF⟩ := Khh x0 x2 h
 exact ⟨F, 20, Js4 F, rfl, Kpm F, fun kend => (Kvt F x0 x2 kend).trans (hF none (fun y0 => kend [BV.o 5 (.int .u8) y0]))⟩)
def Kpn  : Orc := Orc.of [.d (.slc (.int .u8)), .f, .d (.slc (.int .u8))] true 1 fun x => ((Nat.beq x.2.1 53) && Jwk x.1 x.2.1 x.2.2.1, [.o 5 (.int .u8) (Jr3 x.1 x.2.1 x.2.2.1)])
theorem Kbo  : Jae prog 52 Kpn := Jjh Jq9.1 (fun x h => by
 obtain ⟨x0, x1, x2, _⟩ := x
 simp only [Bool.and_eq_true] at h
 obtain ⟨e, _⟩ := h
 rcases e with e
 ·have e := Nat.eq_of_beq_eq_true e
  subst e
  exact ⟨_, Jq9, rfl⟩)
@[reducible] def Jo2  : List PM := [.d (.slc (.pair (.int .i64) (.pair (.slc (.int .u8)) .unit)))]
def Jw8  : Orc := Orc.of Jo2 true 1 fun x => (Jr4 x.1, [.o 5 (.int .u8) (Jcm x.1), .d (.int .i64) (Ji2 x.1)])
@[reducible] def Jc0  : Tpl := { cur := ⟨[(5, .row 0), (10, .var (.slc (.pair (.int .i64) (.pair (.slc (.int .u8)) .unit)))), (0, .var (.int .i64)), (0, .var (.int .i64))], 15⟩, stk := [⟨[], 0⟩], heap := [.row 5 (.int .u8) false] }
def Kpo  : List (FuncId × Orc) := [(37, J13), (50, Kpk), (52, Kpn)]
def Jz7  : Book := { Γ := gam, orc := Jbk Kpo, hint := Ja0 [(23, { keep := some [5, 16, 17, 18], keeps := [(6, [5, 16, 17, 18])], own := [], dat := [], stk := [] })] }
def Kpp (F : Nat) (nx : Jc0.T → ZO) (kq : ZK) (x : Jc0.T) : ZO := Juh F none (fun s16 s17 s18 b => nx (((), (s16, (s17, (s18, ())))), (((), ()), (b, ())))) (fun y0 y1 y2 y3 => kq (.exit 0) (Jc0.inst (((), (y0, (y1, (y2, ())))), (((), ()), (y3, ()))))) x.1.2.1 x.1.2.2.1 x.1.2.2.2.1 x.2.2.1
def Kpq (F m : Nat) (x : Jc0.T) (kq : ZK) : ZO := Jfo F none (fun y0 y1 y2 y3 => kq (.exit 0) (Jc0.inst (((), (y0, (y1, (y2, ())))), (((), ()), (y3, ()))))) m x.1.2.1 x.1.2.2.1 x.1.2.2.2.1 x.2.2.1
def J14 (F : Nat) : List (LoE Unit) := [⟨23, 6, LO.of Jc0 (Kpq F F)⟩]
def Js5 (F : Nat) : Jb3 Unit := { toBook := Jz7, lo := Jct (J14 F), need := Ja1 [] }
def Kpr (Jdb : (List ZR) → Bool) (Jc3 : (List ZR) → Int) (Jd5 : ZB → Nat → Int → Bool) (Jdq : ZB → Nat → Int → ZB) (Jec : ZB → Nat → ZB → Bool) (Jeb : ZB → Nat → ZB → ZB) {X : Type} (F : Nat) (fail : X) (next ex0 : List ZR → Int → Int → ZB → X) (s16 : List ZR) (s17 s18 : Int) (b : ZB) : X :=
 bif (decide (s18 < s17)) then
  bif ((decide ((0 : Int) ≤ s18)) && (decide (s18 < ((s16.length : Nat) : Int)))) then
  bif (Jd5 b (51 : Nat) (List.getD s16 (s18).toNat ((0 : Int), (([] : ZB), ()))).1) then
  bif (Jec (Jdq b (51 : Nat) (List.getD s16 (s18).toNat ((0 : Int), (([] : ZB), ()))).1) (53 : Nat) (List.getD s16 (s18).toNat ((0 : Int), (([] : ZB), ()))).2.1) then
  next s16 s17 (Jag s18 (1 : Int)) (Jeb (Jdq b (51 : Nat) (List.getD s16 (s18).toNat ((0 : Int), (([] : ZB), ()))).1) (53 : Nat) (List.getD s16 (s18).toNat ((0 : Int), (([] : ZB), ()))).2.1)
  else fail
  else fail
  else fail
 else
 ex0 s16 s17 s18 b
def K87 (Jdb : (List ZR) → Bool) (Jc3 : (List ZR) → Int) (Jd5 : ZB → Nat → Int → Bool) (Jdq : ZB → Nat → Int → ZB) (Jec : ZB → Nat → ZB → Bool) (Jeb : ZB → Nat → ZB → ZB) {X : Type} (F : Nat) (l : List ZR) (fail : X) (ret : ZB → Int → X) : X :=
 bif (Jdb l) then
 bif ((Jc3 l) != (0 : Int)) then
  ret ([] : ZB) (Jc3 l)
 else
 bif (Jd5 ([] : ZB) (51 : Nat) ((l.length : Nat) : Int)) then
 Jfo F fail
  (fun (s16 : List ZR) (s17 : Int) (s18 : Int) (b : ZB) =>
   bif (decide (((b.length : Nat) : Int) > (65536 : Int))) then
    ret ([] : ZB) (5 : Int)
   else
   ret b (0 : Int))
  F l ((l.length : Nat) : Int) (0 : Int) (Jdq ([] : ZB) (51 : Nat) ((l.length : Nat) : Int))
 else fail
 else fail
def Kbp (Jdb : (List ZR) → Bool) (Jc3 : (List ZR) → Int) (Jd5 : ZB → Nat → Int → Bool) (Jdq : ZB → Nat → Int → ZB) (Jec : ZB → Nat → ZB → Bool) (Jeb : ZB → Nat → ZB → ZB) : List (FuncId × Orc) := [(37, Orc.of Jz4 true 0 fun x => (Jdb x.1, [.d (.int .i64) (Jc3 x.1)])), (50, Orc.of [.d (.slc (.int .u8)), .f, .d (.int .i64)] true 1 fun x => ((Nat.beq x.2.1 51) && Jd5 x.1 x.2.1 x.2.2.1, [.o 5 (.int .u8) (Jdq x.1 x.2.1 x.2.2.1)])), (52, Orc.of [.d (.slc (.int .u8)), .f, .d (.slc (.int .u8))] true 1 fun x => ((Nat.beq x.2.1 53) && Jec x.1 x.2.1 x.2.2.1, [.o 5 (.int .u8) (Jeb x.1 x.2.1 x.2.2.1)]))]
def J9m (Jdb : (List ZR) → Bool) (Jc3 : (List ZR) → Int) (Jd5 : ZB → Nat → Int → Bool) (Jdq : ZB → Nat → Int → ZB) (Jec : ZB → Nat → ZB → Bool) (Jeb : ZB → Nat → ZB → ZB) : Book := { Γ := gam, orc := Jbk (Kbp Jdb Jc3 Jd5 Jdq Jec Jeb), hint := Ja0 [(23, { keep := some [5, 16, 17, 18], keeps := [(6, [5, 16, 17, 18])], own := [], dat := [], stk := [] })] }
def Jvv (Jdb : (List ZR) → Bool) (Jc3 : (List ZR) → Int) (Jd5 : ZB → Nat → Int → Bool) (Jdq : ZB → Nat → Int → ZB) (Jec : ZB → Nat → ZB → Bool) (Jeb : ZB → Nat → ZB → ZB) (F : Nat) : Jb3 Unit := { toBook := J9m Jdb Jc3 Jd5 Jdq Jec Jeb, lo := Jct (J14 F), need := Ja1 [] }
def Kbq (Jdb : (List ZR) → Bool) (Jc3 : (List ZR) → Int) (Jd5 : ZB → Nat → Int → Bool) (Jdq : ZB → Nat → Int → ZB) (Jec : ZB → Nat → ZB → Bool) (Jeb : ZB → Nat → ZB → ZB) (F : Nat) (nx : Jc0.T → ZO) (kq : ZK) (x : Jc0.T) : ZO := Kpr Jdb Jc3 Jd5 Jdq Jec Jeb F none (fun s16 s17 s18 b => nx (((), (s16, (s17, (s18, ())))), (((), ()), (b, ())))) (fun y0 y1 y2 y3 => kq (.exit 0) (Jc0.inst (((), (y0, (y1, (y2, ())))), (((), ()), (y3, ()))))) x.1.2.1 x.1.2.2.1 x.1.2.2.2.1 x.2.2.1
theorem J15 (Jdb : (List ZR) → Bool) (Jc3 : (List ZR) → Int) (Jd5 : ZB → Nat → Int → Bool) (Jdq : ZB → Nat → Int → ZB) (Jec : ZB → Nat → ZB → Bool) (Jeb : ZB → Nat → ZB → ZB) (F : Nat) : Jbw prog (Jvv Jdb Jc3 Jd5 Jdq Jec Jeb F) F 23 0 6 Jc0 (Kbq Jdb Jc3 Jd5 Jdq Jec Jeb F) := fun d x KQ => by kernel_rfl
theorem Ki4 (Jdb : (List ZR) → Bool) (Jc3 : (List ZR) → Int) (Jd5 : ZB → Nat → Int → Bool) (Jdq : ZB → Nat → Int → ZB) (Jec : ZB → Nat → ZB → Bool) (Jeb : ZB → Nat → ZB → ZB) (F : Nat) (x : Ja4 Jo2) (kend : List BV → ZO) : Jan prog (Jvv Jdb Jc3 Jd5 Jdq Jec Jeb F) F 20 23 (Jaf Jo2 x) [.o 5 (.int .u8), .d (.int .i64)] kend = K87 Jdb Jc3 Jd5 Jdq Jec Jeb F x.1 none (fun y0 y1 => kend [BV.o 5 (.int .u8) y0, BV.d (.int .i64) y1]) := by kernel_rfl
theorem J9n (F : Nat) : Jbw prog (Js5 F) F 23 0 6 Jc0 (Kpp F) := J15 Jne Jjj Jps Jkb Jwk Jr3 F
theorem Kps (F : Nat) : Jip prog (Js5 F) F := Ja6 (l := J14 F) rfl (fa (Jal 0 (by kernel_rfl) (by kernel_rfl) (Jah (J9n F) (fun _ _ => rfl) (fun _ _ _ _ => rfl))) fz)
theorem Kvu (F : Nat) (x : Ja4 Jo2) (kend : List BV → ZO) : Jan prog (Js5 F) F 20 23 (Jaf Jo2 x) [.o 5 (.int .u8), .d (.int .i64)] kend = Kry F x.1 none (fun y0 y1 => kend [BV.o 5 (.int .u8) y0, BV.d (.int .i64) y1]) := Ki4 Jne Jjj Jps Jkb Jwk Jr3 F x kend
theorem Jra  : Jae prog 23 Jw8 := Jau (B0 := Jz7) bkN bkG Jaq bkT Kvu (Jad (fa Js2 (fa Kbn (fa Kbo fz)))) (by kernel_rfl) (fun _ => rfl) Kps (fun x h => (Khi x.1 h).elim fun F hF => ⟨F, fun kend => hF none _⟩)
@[reducible] def Jlr  : List PM := [.d (.slc (.int .u8))]
def J9o  : Orc := Orc.of Jlr false 0 fun x => (Jjv x.1, [.d (.slc (.pair (.int .i64) (.pair (.slc (.int .u8)) .unit))) (Jei x.1), .d (.int .i64) (Jej x.1)])
@[reducible] def Jb6  : Tpl := { cur := ⟨[(1, .ptr 0 []), (0, .nils), (0, .var (.int .i64)), (2, .row 1), (12, .var (.int .i64)), (0, .var (.int .i64))], 24⟩, stk := [⟨[], 0⟩], heap := [.box (.var (.slc (.int .u8))), .row 66 (.pair (.int .i64) (.pair (.slc (.int .u8)) .unit)) false] }
def Kpt  : List (FuncId × Orc) := [(72, Jsl), (75, Jvl)]
def Jz8  : Book := { Γ := gam, orc := Jbk Kpt, hint := Ja0 [(33, { keep := some [1, 2, 3, 6, 19, 20], keeps := [(11, [1, 2, 3, 6, 19, 20])], own := [(6, 25)], dat := [], stk := [] })] }
def Kpu (F : Nat) (nx : Jb6.T → ZO) (kq : ZK) (x : Jb6.T) : ZO := Jui F none (fun s3 s19 s20 b out => nx (((), ((), (s3, ((), (s19, (s20, ())))))), (((), ()), (b, (out, ()))))) (fun y0 y1 y2 y3 y4 => kq .ret (Jb6.inst (((), ((), (y0, ((), (y1, (y2, ())))))), (((), ()), (y3, (y4, ())))))) (fun y0 y1 y2 y3 y4 => kq (.exit 0) (Jb6.inst (((), ((), (y0, ((), (y1, (y2, ())))))), (((), ()), (y3, (y4, ())))))) x.1.2.2.1 x.1.2.2.2.2.1 x.1.2.2.2.2.2.1 x.2.2.1 x.2.2.2.1
def Kpv (F m : Nat) (x : Jb6.T) (kq : ZK) : ZO := Jex F none (fun y0 y1 y2 y3 y4 => kq .ret (Jb6.inst (((), ((), (y0, ((), (y1, (y2, ())))))), (((), ()), (y3, (y4, ())))))) (fun y0 y1 y2 y3 y4 => kq (.exit 0) (Jb6.inst (((), ((), (y0, ((), (y1, (y2, ())))))), (((), ()), (y3, (y4, ())))))) m x.1.2.2.1 x.1.2.2.2.2.1 x.1.2.2.2.2.2.1 x.2.2.1 x.2.2.2.1
def J16 (F : Nat) : List (LoE Unit) := [⟨33, 11, LO.of Jb6 (Kpv F F)⟩]
def Js6 (F : Nat) : Jb3 Unit := { toBook := Jz8, lo := Jct (J16 F), need := Ja1 [(33, 1)] }
def Kpw (Jb1 : ZB → Bool) (Ja2 : ZB → Int) (Jap : ZB → ZB) (Jaw : ZB → Int) (Jbi : ZB → Bool) (Ja8 Ja9 : ZB → ZB) (Jax : ZB → Int) {X : Type} (F : Nat) (fail : X) (next ex0 ex1 : Int → Int → Int → ZB → List ZR → X) (s3 s19 s20 : Int) (b : ZB) (out : List ZR) : X :=
 bif (decide (s20 < s19)) then
  bif (Jb1 b) then
  bif ((Jaw b) == (0 : Int)) then
   bif ((Jaw b) != (0 : Int)) then
    ex0 (Jaw b) s19 s20 (Jap b) out
   else
   bif (decide ((Ja2 b) ≥ (1 : Int))) then
    bif (!(decide ((Ja2 b) ≤ (4 : Int)))) then
     ex0 (1 : Int) s19 s20 (Jap b) out
    else
    bif (Jbi (Jap b)) then
    bif ((Jax (Jap b)) == (0 : Int)) then
     bif ((Jax (Jap b)) != (0 : Int)) then
      ex0 (Jax (Jap b)) s19 s20 (Ja9 (Jap b)) out
     else
     bif (decide ((out ++ ([((Ja2 b), ((Ja8 (Jap b)), ()))] : List ZR)).length ≤ big)) then
     next s3 s19 (Jag s20 (1 : Int)) (Ja9 (Jap b)) (out ++ ([((Ja2 b), ((Ja8 (Jap b)), ()))] : List ZR))
     else fail
    else
    bif ((Jax (Jap b)) != (0 : Int)) then
     ex0 (Jax (Jap b)) s19 s20 (Jap b) out
    else
    bif (decide ((out ++ ([((Ja2 b), (([] : ZB), ()))] : List ZR)).length ≤ big)) then
    next s3 s19 (Jag s20 (1 : Int)) (Jap b) (out ++ ([((Ja2 b), (([] : ZB), ()))] : List ZR))
    else fail
    else fail
   else
   ex0 (1 : Int) s19 s20 (Jap b) out
  else
  bif ((Jaw b) != (0 : Int)) then
   ex0 (Jaw b) s19 s20 b out
  else
  ex0 (1 : Int) s19 s20 b out
  else fail
 else
 ex1 s3 s19 s20 b out
def K88 (Jb1 : ZB → Bool) (Ja2 : ZB → Int) (Jap : ZB → ZB) (Jaw : ZB → Int) (Jbi : ZB → Bool) (Ja8 Ja9 : ZB → ZB) (Jax : ZB → Int) {X : Type} (F : Nat) (b : ZB) (fail : X) (ret : List ZR → Int → X) : X :=
 bif (decide (((b.length : Nat) : Int) > (65536 : Int))) then
  ret ([] : List ZR) (5 : Int)
 else
 bif (Jb1 b) then
 bif ((Jaw b) == (0 : Int)) then
  bif ((Jaw b) != (0 : Int)) then
   ret ([] : List ZR) (Jaw b)
  else
  bif (decide ((Ja2 b) > (1024 : Int))) then
   ret ([] : List ZR) (6 : Int)
  else
  Jex F fail
   (fun (s3 : Int) (s19 : Int) (s20 : Int) (b1 : ZB) (out : List ZR) =>
    ret ([] : List ZR) s3)
   (fun (s31 : Int) (s191 : Int) (s201 : Int) (b2 : ZB) (out1 : List ZR) =>
    bif (decide (((b2.length : Nat) : Int) > (0 : Int))) then
     ret ([] : List ZR) (3 : Int)
    else
    ret out1 (0 : Int))
   F (0 : Int) (Ja2 b) (0 : Int) (Jap b) ([] : List ZR)
 else
 bif ((Jaw b) != (0 : Int)) then
  ret ([] : List ZR) (Jaw b)
 else
 Jex F fail
  (fun (s32 : Int) (s192 : Int) (s202 : Int) (b3 : ZB) (out2 : List ZR) =>
   ret ([] : List ZR) s32)
  (fun (s33 : Int) (s193 : Int) (s203 : Int) (b4 : ZB) (out3 : List ZR) =>
   bif (decide (((b4.length : Nat) : Int) > (0 : Int))) then
    ret ([] : List ZR) (3 : Int)
   else
   ret out3 (0 : Int))
  F (0 : Int) (0 : Int) (0 : Int) b ([] : List ZR)
 else fail
def Kbr (Jb1 : ZB → Bool) (Ja2 : ZB → Int) (Jap : ZB → ZB) (Jaw : ZB → Int) (Jbi : ZB → Bool) (Ja8 Ja9 : ZB → ZB) (Jax : ZB → Int) : List (FuncId × Orc) := [(72, Orc.of Jql false 0 fun x => (Jb1 x.1, [.d (.int .i64) (Ja2 x.1), .d (.slc (.int .u8)) (Jap x.1), .d (.int .i64) (Jaw x.1)])), (75, Orc.of Jk8 false 0 fun x => (Jbi x.1, [.d (.slc (.int .u8)) (Ja8 x.1), .d (.slc (.int .u8)) (Ja9 x.1), .d (.int .i64) (Jax x.1)]))]
def J9p (Jb1 : ZB → Bool) (Ja2 : ZB → Int) (Jap : ZB → ZB) (Jaw : ZB → Int) (Jbi : ZB → Bool) (Ja8 Ja9 : ZB → ZB) (Jax : ZB → Int) : Book := { Γ := gam, orc := Jbk (Kbr Jb1 Ja2 Jap Jaw Jbi Ja8 Ja9 Jax), hint := Ja0 [(33, { keep := some [1, 2, 3, 6, 19, 20], keeps := [(11, [1, 2, 3, 6, 19, 20])], own := [(6, 25)], dat := [], stk := [] })] }
def Jvw (Jb1 : ZB → Bool) (Ja2 : ZB → Int) (Jap : ZB → ZB) (Jaw : ZB → Int) (Jbi : ZB → Bool) (Ja8 Ja9 : ZB → ZB) (Jax : ZB → Int) (F : Nat) : Jb3 Unit := { toBook := J9p Jb1 Ja2 Jap Jaw Jbi Ja8 Ja9 Jax, lo := Jct (J16 F), need := Ja1 [(33, 1)] }
def Kbs (Jb1 : ZB → Bool) (Ja2 : ZB → Int) (Jap : ZB → ZB) (Jaw : ZB → Int) (Jbi : ZB → Bool) (Ja8 Ja9 : ZB → ZB) (Jax : ZB → Int) (F : Nat) (nx : Jb6.T → ZO) (kq : ZK) (x : Jb6.T) : ZO := Kpw Jb1 Ja2 Jap Jaw Jbi Ja8 Ja9 Jax F none (fun s3 s19 s20 b out => nx (((), ((), (s3, ((), (s19, (s20, ())))))), (((), ()), (b, (out, ()))))) (fun y0 y1 y2 y3 y4 => kq .ret (Jb6.inst (((), ((), (y0, ((), (y1, (y2, ())))))), (((), ()), (y3, (y4, ())))))) (fun y0 y1 y2 y3 y4 => kq (.exit 0) (Jb6.inst (((), ((), (y0, ((), (y1, (y2, ())))))), (((), ()), (y3, (y4, ())))))) x.1.2.2.1 x.1.2.2.2.2.1 x.1.2.2.2.2.2.1 x.2.2.1 x.2.2.2.1
theorem J17 (Jb1 : ZB → Bool) (Ja2 : ZB → Int) (Jap : ZB → ZB) (Jaw : ZB → Int) (Jbi : ZB → Bool) (Ja8 Ja9 : ZB → ZB) (Jax : ZB → Int) (F : Nat) : Jbw prog (Jvw Jb1 Ja2 Jap Jaw Jbi Ja8 Ja9 Jax F) F 33 0 11 Jb6 (Kbs Jb1 Ja2 Jap Jaw Jbi Ja8 Ja9 Jax F) := fun d x KQ => by kernel_rfl
theorem Ki5 (Jb1 : ZB → Bool) (Ja2 : ZB → Int) (Jap : ZB → ZB) (Jaw : ZB → Int) (Jbi : ZB → Bool) (Ja8 Ja9 : ZB → ZB) (Jax : ZB → Int) (F : Nat) (x : Ja4 Jlr) (kend : List BV → ZO) : Jan prog (Jvw Jb1 Ja2 Jap Jaw Jbi Ja8 Ja9 Jax F) F 20 33 (Jaf Jlr x) [.d (.slc (.pair (.int .i64) (.pair (.slc (.int .u8)) .unit))), .d (.int .i64)] kend = K88 Jb1 Ja2 Jap Jaw Jbi Ja8 Ja9 Jax F x.1 none (fun y0 y1 => kend [BV.d (.slc (.pair (.int .i64) (.pair (.slc (.int .u8)) .unit))) y0, BV.d (.int .i64) y1]) := by kernel_rfl
theorem J9q (F : Nat) : Jbw prog (Js6 F) F 33 0 11 Jb6 (Kpu F) := J17 Jef Jao Jam Jbb Jfl Jd0 Jd1 Jci F
theorem Kpx (F : Nat) : Jip prog (Js6 F) F := Ja6 (l := J16 F) rfl (fa (Jal 0 (by kernel_rfl) (by kernel_rfl) (Jah (J9q F) (fun _ _ => rfl) (fun _ _ _ _ => rfl))) fz)
theorem Kvv (F : Nat) (x : Ja4 Jlr) (kend : List BV → ZO) : Jan prog (Js6 F) F 20 33 (Jaf Jlr x) [.d (.slc (.pair (.int .i64) (.pair (.slc (.int .u8)) .unit))), .d (.int .i64)] kend = Krz F x.1 none (fun y0 y1 => kend [BV.d (.slc (.pair (.int .i64) (.pair (.slc (.int .u8)) .unit))) y0, BV.d (.int .i64) y1]) := Ki5 Jef Jao Jam Jbb Jfl Jd0 Jd1 Jci F x kend
theorem J35  : Jae prog 33 J9o := Jau (B0 := Jz8) bkN bkG Jaq bkT Kvv (Jad (fa Joy (fa Jwu fz))) (by kernel_rfl) (fun _ => rfl) Kpx (fun x h => (Khk x.1 h).elim fun F hF => ⟨F, fun kend => hF none _⟩)
end Go.AI
namespace Go.AI
open Go
open Go.Proofs.Tryz (prog)
set_option linter.unusedVariables false
@[reducible] def J18  : List PM := [.d (.pair (.int .i64) (.pair (.int .i64) (.pair (.int .i64) .unit))), .d (.slc (.int .u8)), .d (.slc (.pair (.int .i64) (.pair (.slc (.int .u8)) .unit)))]
def Jw9  : Orc := Orc.of J18 false 0 fun x => (Joi x.1 x.2.1 x.2.2.1, [.d (.pair (.int .i64) (.pair (.int .i64) (.pair (.int .i64) .unit))) (Jhp x.1 x.2.1 x.2.2.1), .d (.slc (.pair (.int .i64) (.pair (.int .i64) (.pair (.slc (.arr 16 (.int .u8))) .unit)))) (Jb2 x.1 x.2.1 x.2.2.1), .d (.int .i64) (Jlf x.1 x.2.1 x.2.2.1)])
def J3d  : List (FuncId × Orc) := [(23, Jw8), (24, J1z), (25, Kok), (26, J9h)]
theorem Kvw (F : Nat) (x : Ja4 J18) (kend : List BV → ZO) : Jan prog (bkZ J3d) F 20 10 (Jaf J18 x) [.d (.pair (.int .i64) (.pair (.int .i64) (.pair (.int .i64) .unit))), .d (.slc (.pair (.int .i64) (.pair (.int .i64) (.pair (.slc (.arr 16 (.int .u8))) .unit)))), .d (.int .i64)] kend = Kr0 F x.1 x.2.1 x.2.2.1 none (fun y0 y1 y2 => kend [BV.d (.pair (.int .i64) (.pair (.int .i64) (.pair (.int .i64) .unit))) y0, BV.d (.slc (.pair (.int .i64) (.pair (.int .i64) (.pair (.slc (.arr 16 (.int .u8))) .unit)))) y1, BV.d (.int .i64) y2]) := by kernel_rfl
theorem Jrb  : Jae prog 10 Jw9 := Jau (B0 := bkY J3d) bkN bkG Jaq bkT Kvw (Jad (fa Jra (fa Jsy (fa Kbd (fa J34 fz))))) (by kernel_rfl) (fun _ => rfl) (bkO _) (fun x h => (Khn x.1 x.2.1 x.2.2.1 h).elim fun F hF => ⟨F, fun kend => hF none _⟩)
@[reducible] def Jn0  : List PM := []
def Js7  : Orc := Orc.of Jn0 true 0 fun x => (true, [.d .bool (Jcy)])
def Jrc  : List (FuncId × Orc) := [(10, Jw9), (23, Jw8)]
theorem J9r (F : Nat) (x : Ja4 Jn0) (kend : List BV → ZO) : Jan prog (bkZ Jrc) F 20 9 (Jaf Jn0 x) [.d .bool] kend = Jwn F  none (fun y0 => kend [BV.d .bool y0]) := by kernel_rfl
theorem Ju8  : Jae prog 9 Js7 := Jau (B0 := bkY Jrc) bkN bkG Jaq bkT J9r (Jad (fa Jrb (fa Jra fz))) (by kernel_rfl) (fun _ => rfl) (bkO _) (fun x _ => (J1d ).elim fun F hF => ⟨F, fun kend => hF none _⟩)
end Go.AI
