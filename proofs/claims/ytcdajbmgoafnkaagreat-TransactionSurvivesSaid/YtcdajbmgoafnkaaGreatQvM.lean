/- Texts of the proof, joined: Types WireM WireM2 DigestM DigestM2 CipherM CipherM2 DiskM LogR LogM TransM TransM4 TransM6 TransM2 TransM8 TransL10 TransW10. Names of our own are shortened by program; the long ones stand in wip/. -/
import Derived.Test.YtcdajbmgoafnkaaGreatProg
import Derived.Test.YtcdajbmgoafnkaaGreatQvA5
import Derived.KernelRfl
import Derived.Test.YtcdajbmgoafnkaaGreatQvWireP
import Derived.Test.YtcdajbmgoafnkaaGreatQvWireP2
import Derived.Test.YtcdajbmgoafnkaaGreatQvDigestP3
import Derived.Test.YtcdajbmgoafnkaaGreatQvDigestP4
import Derived.Test.YtcdajbmgoafnkaaGreatQvCipherP4
import Derived.Test.YtcdajbmgoafnkaaGreatQvDiskP3
import Derived.RecoverIn
import Derived.Tactics
import Derived.Tactics2
import Derived.TacticsInMore
import Derived.RegionIn
import Derived.Laws.Pointers
import Derived.Test.YtcdajbmgoafnkaaGreatQvLogP7
import Derived.Test.YtcdajbmgoafnkaaGreatQvTransP
import Derived.Test.YtcdajbmgoafnkaaGreatQvTransP2
import Derived.Test.YtcdajbmgoafnkaaGreatQvTransP5
import Derived.Test.YtcdajbmgoafnkaaGreatQvTransP7
import Derived.Test.YtcdajbmgoafnkaaGreatQvTransP10
set_option maxRecDepth 100000
namespace Go.AI
abbrev ZO := Option Unit
abbrev ZK := Jf6 → ASt → ZO
end Go.AI
namespace Go.AI
open Go
def gam  : Gam := [
 none,
 some ⟨.func, 1, none, false⟩,
 some ⟨.other, 1, some (.int .i64), false⟩,
 some ⟨.other, 1, some (.int .i64), false⟩,
 some ⟨.other, 1, some .bool, false⟩,
 some ⟨.other, 1, some (.int .u8), false⟩,
 some ⟨.other, 1, some (.int .u8), false⟩,
 some ⟨(.struct [(0, 2), (1, 3), (2, 4), (3, 6)]), 4, some (.pair (.int .i64) (.pair (.int .i64) (.pair .bool (.pair (.int .u8) .unit)))), false⟩,
 some ⟨(.struct [(0, 2), (1, 3), (2, 4), (3, 6)]), 4, some (.pair (.int .i64) (.pair (.int .i64) (.pair .bool (.pair (.int .u8) .unit)))), false⟩,
 some ⟨.other, 1, some .str, false⟩,
 some ⟨.other, 1, some .str, false⟩,
 some ⟨.other, 1, some .str, false⟩,
 some ⟨.other, 1, some (.int .u64), false⟩,
 some ⟨(.struct [(0, 9), (1, 12)]), 2, some (.pair .str (.pair (.int .u64) .unit)), false⟩,
 some ⟨(.struct [(0, 9), (1, 12)]), 2, some (.pair .str (.pair (.int .u64) .unit)), false⟩,
 some ⟨(.ptr 250), 1, none, false⟩,
 some ⟨(.ptr 253), 1, none, false⟩,
 some ⟨(.ptr 262), 1, none, false⟩,
 some ⟨(.struct [(0, 17)]), 1, none, false⟩,
 some ⟨(.struct [(0, 17)]), 1, none, false⟩,
 some ⟨.other, 1, none, false⟩,
 some ⟨.other, 1, some (.int .i32), false⟩,
 some ⟨(.struct [(0, 3), (1, 3), (2, 3)]), 3, some (.pair (.int .i64) (.pair (.int .i64) (.pair (.int .i64) .unit))), true⟩,
 some ⟨(.struct [(0, 3), (1, 3), (2, 3)]), 3, some (.pair (.int .i64) (.pair (.int .i64) (.pair (.int .i64) .unit))), true⟩,
 some ⟨(.slice 5), 1, some (.slc (.int .u8)), false⟩,
 some ⟨(.slice 66), 1, some (.slc (.pair (.int .i64) (.pair (.slc (.int .u8)) .unit))), false⟩,
 some ⟨.func, 1, none, false⟩,
 some ⟨.func, 1, none, false⟩,
 some ⟨(.slice 70), 1, some (.slc (.pair (.int .i64) (.pair (.int .i64) (.pair (.slc (.arr 16 (.int .u8))) .unit)))), false⟩,
 some ⟨.other, 1, some (.int .i64), false⟩,
 none,
 some ⟨.func, 1, none, false⟩,
 none,
 some ⟨.func, 1, none, false⟩,
 some ⟨.func, 1, none, false⟩,
 some ⟨.func, 1, none, false⟩,
 some ⟨(.slice 93), 1, some (.slc (.arr 16 (.int .u8))), false⟩,
 some ⟨(.slice 155), 1, some (.slc (.pair (.int .i64) (.pair (.arr 16 (.int .u8)) .unit))), false⟩,
 some ⟨(.struct [(0, 36), (1, 37)]), 2, some (.pair (.slc (.arr 16 (.int .u8))) (.pair (.slc (.pair (.int .i64) (.pair (.arr 16 (.int .u8)) .unit))) .unit)), false⟩,
 some ⟨(.struct [(0, 36), (1, 37)]), 2, some (.pair (.slc (.arr 16 (.int .u8))) (.pair (.slc (.pair (.int .i64) (.pair (.arr 16 (.int .u8)) .unit))) .unit)), false⟩,
 some ⟨.func, 1, none, false⟩,
 some ⟨(.slice 25), 1, some (.slc (.slc (.pair (.int .i64) (.pair (.slc (.int .u8)) .unit)))), false⟩,
 none,
 some ⟨.func, 1, none, false⟩,
 none,
 some ⟨.func, 1, none, false⟩,
 some ⟨.func, 1, none, false⟩,
 some ⟨.func, 1, none, false⟩,
 some ⟨.func, 1, none, false⟩,
 none,
 some ⟨.func, 1, none, false⟩,
 some ⟨(.slice 24), 1, some (.slc (.slc (.int .u8))), false⟩,
 none,
 some ⟨.func, 1, none, false⟩,
 none,
 some ⟨.func, 1, none, false⟩,
 some ⟨.func, 1, none, false⟩,
 some ⟨(.slice 3), 1, some (.slc (.int .i64)), false⟩,
 some ⟨(.struct [(0, 5), (1, 57)]), 2, some (.pair (.int .u8) (.pair (.slc (.int .i64)) .unit)), false⟩,
 some ⟨(.struct [(0, 5), (1, 57)]), 2, some (.pair (.int .u8) (.pair (.slc (.int .i64)) .unit)), false⟩,
 none,
 some ⟨.func, 1, none, false⟩,
 none,
 some ⟨.func, 1, none, false⟩,
 some ⟨.func, 1, none, false⟩,
 some ⟨(.struct [(0, 3), (1, 24)]), 2, some (.pair (.int .i64) (.pair (.slc (.int .u8)) .unit)), false⟩,
 some ⟨(.struct [(0, 3), (1, 24)]), 2, some (.pair (.int .i64) (.pair (.slc (.int .u8)) .unit)), false⟩,
 none,
 some ⟨.func, 1, none, false⟩,
 some ⟨(.struct [(0, 3), (1, 3), (2, 36)]), 3, some (.pair (.int .i64) (.pair (.int .i64) (.pair (.slc (.arr 16 (.int .u8))) .unit))), false⟩,
 some ⟨(.struct [(0, 3), (1, 3), (2, 36)]), 3, some (.pair (.int .i64) (.pair (.int .i64) (.pair (.slc (.arr 16 (.int .u8))) .unit))), false⟩,
 some ⟨.func, 1, none, false⟩,
 some ⟨.func, 1, none, false⟩,
 some ⟨.func, 1, none, false⟩,
 some ⟨.func, 1, none, false⟩,
 some ⟨.func, 1, none, false⟩,
 some ⟨.func, 1, none, false⟩,
 some ⟨.func, 1, none, false⟩,
 some ⟨.func, 1, none, false⟩,
 some ⟨.func, 1, none, false⟩,
 some ⟨.func, 1, none, false⟩,
 none,
 some ⟨.func, 1, none, false⟩,
 none,
 some ⟨.func, 1, none, false⟩,
 none,
 some ⟨.func, 1, none, false⟩,
 some ⟨.func, 1, none, false⟩,
 some ⟨.func, 1, none, false⟩,
 some ⟨.func, 1, none, false⟩,
 none,
 some ⟨.func, 1, none, false⟩,
 some ⟨(.array 16 5), 16, some (.arr 16 (.int .u8)), true⟩,
 some ⟨(.array 16 5), 16, some (.arr 16 (.int .u8)), true⟩,
 some ⟨.func, 1, none, false⟩,
 none,
 some ⟨.func, 1, none, false⟩,
 some ⟨.func, 1, none, false⟩,
 some ⟨(.array 32 5), 32, some (.arr 32 (.int .u8)), true⟩,
 some ⟨(.array 32 5), 32, some (.arr 32 (.int .u8)), true⟩,
 none,
 some ⟨.func, 1, none, false⟩,
 some ⟨.func, 1, none, false⟩,
 some ⟨.func, 1, none, false⟩,
 some ⟨.func, 1, none, false⟩,
 some ⟨.func, 1, none, false⟩,
 some ⟨.func, 1, none, false⟩,
 some ⟨.func, 1, none, false⟩,
 some ⟨(.array 2 107), 2, none, false⟩,
 some ⟨.func, 1, none, false⟩,
 some ⟨(.ptr 39), 1, none, false⟩,
 some ⟨.func, 1, none, false⟩,
 some ⟨.func, 1, none, false⟩,
 some ⟨.func, 1, none, false⟩,
 some ⟨.func, 1, none, false⟩,
 some ⟨.func, 1, none, false⟩,
 some ⟨.func, 1, none, false⟩,
 some ⟨.func, 1, none, false⟩,
 some ⟨.func, 1, none, false⟩,
 some ⟨.func, 1, none, false⟩,
 some ⟨.func, 1, none, false⟩,
 some ⟨.func, 1, none, false⟩,
 some ⟨.func, 1, none, false⟩,
 some ⟨.func, 1, none, false⟩,
 some ⟨.func, 1, none, false⟩,
 some ⟨.func, 1, none, false⟩,
 some ⟨.func, 1, none, false⟩,
 some ⟨.func, 1, none, false⟩,
 some ⟨(.ptr 24), 1, none, false⟩,
 some ⟨.func, 1, none, false⟩,
 some ⟨(.ptr 3), 1, none, false⟩,
 some ⟨.func, 1, none, false⟩,
 some ⟨.func, 1, none, false⟩,
 some ⟨.func, 1, none, false⟩,
 none,
 some ⟨.func, 1, none, false⟩,
 none,
 some ⟨.func, 1, none, false⟩,
 none,
 some ⟨.func, 1, none, false⟩,
 some ⟨.func, 1, none, false⟩,
 none,
 some ⟨.func, 1, none, false⟩,
 some ⟨.func, 1, none, false⟩,
 some ⟨.func, 1, none, false⟩,
 some ⟨.func, 1, none, false⟩,
 some ⟨(.ptr 148), 1, none, false⟩,
 some ⟨(.struct [(0, 36)]), 1, some (.pair (.slc (.arr 16 (.int .u8))) .unit), false⟩,
 some ⟨(.struct [(0, 36)]), 1, some (.pair (.slc (.arr 16 (.int .u8))) .unit), false⟩,
 none,
 some ⟨.func, 1, none, false⟩,
 some ⟨.func, 1, none, false⟩,
 some ⟨.func, 1, none, false⟩,
 some ⟨.func, 1, none, false⟩,
 some ⟨(.struct [(0, 3), (1, 93)]), 17, some (.pair (.int .i64) (.pair (.arr 16 (.int .u8)) .unit)), true⟩,
 some ⟨(.struct [(0, 3), (1, 93)]), 17, some (.pair (.int .i64) (.pair (.arr 16 (.int .u8)) .unit)), true⟩,
 some ⟨.func, 1, none, false⟩,
 some ⟨.func, 1, none, false⟩,
 some ⟨(.map 3 36), 1, none, true⟩,
 none,
 some ⟨.func, 1, none, false⟩,
 some ⟨.func, 1, none, false⟩,
 some ⟨.func, 1, none, false⟩,
 some ⟨.func, 1, none, false⟩,
 some ⟨.func, 1, none, false⟩,
 some ⟨(.struct [(0, 164)]), 1, none, false⟩,
 some ⟨(.struct [(0, 164)]), 1, none, false⟩,
 some ⟨.func, 1, none, false⟩,
 some ⟨.func, 1, none, false⟩,
 some ⟨.func, 1, none, false⟩,
 some ⟨.func, 1, none, false⟩,
 some ⟨.func, 1, none, false⟩,
 some ⟨.func, 1, none, false⟩,
 some ⟨.other, 1, some (.int .u32), false⟩,
 some ⟨.func, 1, none, false⟩,
 some ⟨.func, 1, none, false⟩,
 some ⟨.func, 1, none, false⟩,
 none,
 some ⟨.func, 1, none, false⟩,
 some ⟨.other, 1, some (.int .u64), false⟩,
 none,
 some ⟨.func, 1, none, false⟩,
 some ⟨.func, 1, none, false⟩,
 none,
 some ⟨.func, 1, none, false⟩,
 some ⟨(.struct []), 0, none, false⟩,
 some ⟨(.struct []), 0, none, false⟩,
 none,
 some ⟨.func, 1, none, false⟩,
 some ⟨.func, 1, none, false⟩,
 some ⟨.func, 1, none, false⟩,
 some ⟨.func, 1, none, false⟩,
 some ⟨(.array 64 5), 64, some (.arr 64 (.int .u8)), true⟩,
 some ⟨.func, 1, none, false⟩,
 some ⟨(.slice 173), 1, some (.slc (.int .u32)), false⟩,
 some ⟨.func, 1, none, false⟩,
 some ⟨.func, 1, none, false⟩,
 some ⟨.func, 1, none, false⟩,
 some ⟨.func, 1, none, false⟩,
 some ⟨(.array 8 173), 8, some (.arr 8 (.int .u32)), true⟩,
 some ⟨(.struct [(0, 199), (8, 24), (9, 3)]), 10, some (.pair (.arr 8 (.int .u32)) (.pair (.slc (.int .u8)) (.pair (.int .i64) .unit))), false⟩,
 some ⟨(.struct [(0, 199), (8, 24), (9, 3)]), 10, some (.pair (.arr 8 (.int .u32)) (.pair (.slc (.int .u8)) (.pair (.int .i64) .unit))), false⟩,
 some ⟨.func, 1, none, false⟩,
 some ⟨.func, 1, none, false⟩,
 some ⟨(.array 16 173), 16, some (.arr 16 (.int .u32)), true⟩,
 some ⟨(.array 16 173), 16, some (.arr 16 (.int .u32)), true⟩,
 some ⟨.func, 1, none, false⟩,
 some ⟨.func, 1, none, false⟩,
 some ⟨.func, 1, none, false⟩,
 some ⟨.func, 1, none, false⟩,
 some ⟨.func, 1, none, false⟩,
 none,
 some ⟨.func, 1, none, false⟩,
 some ⟨.func, 1, none, false⟩,
 some ⟨.other, 1, some (.int .u64), false⟩,
 some ⟨.other, 1, some (.int .u32), false⟩,
 some ⟨(.array 8 215), 8, some (.arr 8 (.int .u32)), true⟩,
 some ⟨(.array 8 215), 8, some (.arr 8 (.int .u32)), true⟩,
 some ⟨.func, 1, none, false⟩,
 some ⟨(.ptr 205), 1, none, false⟩,
 some ⟨.func, 1, none, false⟩,
 some ⟨.func, 1, none, false⟩,
 some ⟨.func, 1, none, false⟩,
 some ⟨.func, 1, none, false⟩,
 some ⟨.func, 1, none, false⟩,
 some ⟨.func, 1, none, false⟩,
 some ⟨.func, 1, none, false⟩,
 some ⟨.func, 1, none, false⟩,
 some ⟨.func, 1, none, false⟩,
 some ⟨.func, 1, none, false⟩,
 some ⟨.func, 1, none, false⟩,
 some ⟨.func, 1, none, false⟩,
 some ⟨.func, 1, none, false⟩,
 some ⟨.func, 1, none, false⟩,
 some ⟨.func, 1, none, false⟩,
 some ⟨.func, 1, none, false⟩,
 some ⟨(.struct [(0, 3), (1, 3), (2, 3), (3, 3)]), 4, some (.pair (.int .i64) (.pair (.int .i64) (.pair (.int .i64) (.pair (.int .i64) .unit)))), true⟩,
 some ⟨(.array 4 236), 16, some (.arr 4 (.pair (.int .i64) (.pair (.int .i64) (.pair (.int .i64) (.pair (.int .i64) .unit))))), true⟩,
 some ⟨(.array 256 173), 256, some (.arr 256 (.int .u32)), true⟩,
 some ⟨.func, 1, none, false⟩,
 some ⟨(.array 64 173), 64, some (.arr 64 (.int .u32)), true⟩,
 some ⟨.func, 1, none, false⟩,
 some ⟨.func, 1, none, false⟩,
 some ⟨.func, 1, none, false⟩,
 some ⟨(.array 16 215), 16, some (.arr 16 (.int .u32)), true⟩,
 some ⟨(.array 64 215), 64, some (.arr 64 (.int .u32)), true⟩,
 some ⟨.func, 1, none, false⟩,
 some ⟨.func, 1, none, false⟩,
 some ⟨.func, 1, none, false⟩,
 some ⟨(.struct [(0, 17), (1, 17), (2, 17), (3, 9)]), 4, none, false⟩,
 some ⟨(.struct [(0, 17), (1, 17), (2, 17), (3, 9)]), 4, none, false⟩,
 some ⟨(.array 0 16), 0, none, false⟩,
 some ⟨(.struct [(0, 251)]), 0, none, false⟩,
 some ⟨(.struct [(0, 251)]), 0, none, false⟩,
 some ⟨.func, 1, none, false⟩,
 some ⟨.other, 1, some (.int .u8), false⟩,
 some ⟨.other, 1, some (.int .u8), false⟩,
 some ⟨.func, 1, none, false⟩,
 some ⟨(.ptr 5), 1, none, false⟩,
 some ⟨.other, 1, some (.int .i32), false⟩,
 some ⟨.other, 1, some (.int .i32), false⟩,
 some ⟨(.struct [(0, 12), (1, 12), (2, 173), (3, 255), (4, 5), (5, 5), (6, 256), (7, 257), (8, 258), (9, 259), (10, 260)]), 11, none, false⟩,
 some ⟨(.struct [(0, 12), (1, 12), (2, 173), (3, 255), (4, 5), (5, 5), (6, 256), (7, 257), (8, 258), (9, 259), (10, 260)]), 11, none, false⟩,
 some ⟨.other, 1, none, false⟩]
theorem Qal  : gamB Go.Proofs.Tryz.prog gam = true := by kernel_rfl
theorem Qam  : K40 Go.Proofs.Tryz.prog = true := by kernel_rfl
theorem Qan  : Kwx Go.Proofs.Tryz.prog = true := by kernel_rfl
theorem Jaz  : Go.Proofs.Tryz.prog.follows .mixedOrders = true := by kernel_rfl
theorem bkN  : Ksh Go.Proofs.Tryz.prog := Kww Qam
theorem bkG  : Jl7 Go.Proofs.Tryz.prog := Kso Qan
theorem bkT  : Jcm Go.Proofs.Tryz.prog gam := K6r Qal
def bkY (l : List (FuncId × Orc)) : Book := { Γ := gam, orc := Jcg l, hint := Jbq [] }
def bkZ (l : List (FuncId × Orc)) : Jcz Unit := { toBook := bkY l, lo := Jd7 [], need := Jbr [] }
theorem bkO (l : List (FuncId × Orc)) (F : Nat) : Jky Go.Proofs.Tryz.prog (bkZ l) F := Jb0 (l := []) rfl fz
end Go.AI
namespace Go.AI
open Go
open Go.Proofs.Tryz (prog)
set_option linter.unusedVariables false
@[reducible] def Jo6  : List PM := [.d (.int .u64)]
def Jtn  : Orc := Orc.of Jo6 true 0 fun x => (Jmb x.1, [.d (.int .i64) (Jqq x.1)])
def Jq2  : List (FuncId × Orc) := []
theorem J61 (F : Nat) (x : Jbo Jo6) (kend : List BV → ZO) : Jau prog (bkZ Jq2) F 20 163 (Jaf Jo6 x) [.d (.int .i64)] kend = Jyq F x.1 none (fun y0 => kend [BV.d (.int .i64) y0]) := by kernel_rfl
theorem Ju0  : Jae prog 163 Jtn := Ja4 (B0 := bkY Jq2) bkN bkG Jaz bkT J61 (Jad fz) (by kernel_rfl) (fun _ => rfl) (bkO _) (fun x h => (J0v x.1 h).elim fun F hF => ⟨F, fun kend => hF none _⟩)
@[reducible] def Jq3  : List PM := [.d (.int .u8)]
def Jw6  : Orc := Orc.of Jq3 true 0 fun x => (true, [.d (.int .i64) (Joc x.1)])
def Jto  : List (FuncId × Orc) := []
theorem Kdc (F : Nat) (x : Jbo Jq3) (kend : List BV → ZO) : Jau prog (bkZ Jto) F 20 147 (Jaf Jq3 x) [.d (.int .i64)] kend = J3q F x.1 none (fun y0 => kend [BV.d (.int .i64) y0]) := by kernel_rfl
theorem Jw7  : Jae prog 147 Jw6 := Ja4 (B0 := bkY Jto) bkN bkG Jaz bkT Kdc (Jad fz) (by kernel_rfl) (fun _ => rfl) (bkO _) (fun x _ => (J3u x.1).elim fun F hF => ⟨F, fun kend => hF none _⟩)
@[reducible] def Ju1  : List PM := [.d (.int .u64)]
def Jz9  : Orc := Orc.of Ju1 true 0 fun x => (Jsa x.1, [.d (.int .i64) (Jsb x.1)])
def Jw8  : List (FuncId × Orc) := [(163, Jtn)]
theorem Khp (F : Nat) (x : Jbo Ju1) (kend : List BV → ZO) : Jau prog (bkZ Jw8) F 20 148 (Jaf Ju1 x) [.d (.int .i64)] kend = Kbj F x.1 none (fun y0 => kend [BV.d (.int .i64) y0]) := by kernel_rfl
theorem Jy4  : Jae prog 148 Jz9 := Ja4 (B0 := bkY Jw8) bkN bkG Jaz bkT Khp (Jad (fa Ju0 fz)) (by kernel_rfl) (fun _ => rfl) (bkO _) (fun x h => (J6w x.1 h).elim fun F hF => ⟨F, fun kend => hF none _⟩)
@[reducible] def Jfy  : List PM := [.d (.int .u8)]
def Jie  : Orc := Orc.of Jfy true 0 fun x => (true, [.d (.int .i64) (Ja0 x.1)])
def Jh5  : List (FuncId × Orc) := [(147, Jw6)]
theorem Jp6 (F : Nat) (x : Jbo Jfy) (kend : List BV → ZO) : Jau prog (bkZ Jh5) F 20 118 (Jaf Jfy x) [.d (.int .i64)] kend = Jh2 F x.1 none (fun y0 => kend [BV.d (.int .i64) y0]) := by kernel_rfl
theorem Jlg  : Jae prog 118 Jie := Ja4 (B0 := bkY Jh5) bkN bkG Jaz bkT Jp6 (Jad (fa Jw7 fz)) (by kernel_rfl) (fun _ => rfl) (bkO _) (fun x _ => (Jni x.1).elim fun F hF => ⟨F, fun kend => hF none _⟩)
@[reducible] def Jmq  : List PM := [.d (.int .i64)]
def Jq4  : Orc := Orc.of Jmq true 0 fun x => (true, [.d (.int .i64) (Jca x.1)])
def Jpr  : List (FuncId × Orc) := []
theorem J35 (F : Nat) (x : Jbo Jmq) (kend : List BV → ZO) : Jau prog (bkZ Jpr) F 20 137 (Jaf Jmq x) [.d (.int .i64)] kend = J3r F x.1 none (fun y0 => kend [BV.d (.int .i64) y0]) := by kernel_rfl
theorem Jta  : Jae prog 137 Jq4 := Ja4 (B0 := bkY Jpr) bkN bkG Jaz bkT J35 (Jad fz) (by kernel_rfl) (fun _ => rfl) (bkO _) (fun x _ => (Jyw x.1).elim fun F hF => ⟨F, fun kend => hF none _⟩)
@[reducible] def Jlh  : List PM := [.d (.int .i64)]
def Jjn  : Orc := Orc.of Jlh true 0 fun x => (Jdy x.1, [.d (.int .i64) (Jbs x.1)])
def Jnk  : List (FuncId × Orc) := [(148, Jz9)]
theorem J00 (F : Nat) (x : Jbo Jlh) (kend : List BV → ZO) : Jau prog (bkZ Jnk) F 20 119 (Jaf Jlh x) [.d (.int .i64)] kend = Jqx F x.1 none (fun y0 => kend [BV.d (.int .i64) y0]) := by kernel_rfl
theorem Jjc  : Jae prog 119 Jjn := Ja4 (B0 := bkY Jnk) bkN bkG Jaz bkT J00 (Jad (fa Jy4 fz)) (by kernel_rfl) (fun _ => rfl) (bkO _) (fun x h => (Jwy x.1 h).elim fun F hF => ⟨F, fun kend => hF none _⟩)
@[reducible] def Jo7  : List PM := [.d (.slc (.int .u8))]
def Jfk  : Orc := Orc.of Jo7 true 1 fun x => (Jbt x.1, [.o 5 (.int .u8) (Jch x.1)])
def Jq5  : List (FuncId × Orc) := []
theorem J62 (F : Nat) (x : Jbo Jo7) (kend : List BV → ZO) : Jau prog (bkZ Jq5) F 20 100 (Jaf Jo7 x) [.o 5 (.int .u8)] kend = J8x F x.1 none Jmt (fun y0 => kend [BV.o 5 (.int .u8) y0]) := by kernel_rfl
theorem Jd0  : Jae prog 100 Jfk := Ja4 (B0 := bkY Jq5) bkN bkG Jaz bkT J62 (Jad fz) (by kernel_rfl) (fun _ => rfl) (bkO _) (fun x h => (J0w x.1 h).elim fun F hF => ⟨F, fun kend => hF none Jmt Jwd _⟩)
@[reducible] def Ju2  : List PM := [.o 5 (.int .u8), .d (.int .i64)]
def Jq6  : Orc := Orc.of Ju2 true 1 fun x => (Jkk x.1 x.2.1, [.o 5 (.int .u8) (Jm1 x.1 x.2.1)])
@[reducible] def Je9  : Tpl := { cur := ⟨[(0, .row 0), (0, .var (.int .i64)), (5, .var (.int .i64))], 32⟩, stk := [⟨[], 0⟩], heap := [.row 5 (.int .u8) false] }
def Kdd  : List (FuncId × Orc) := [(119, Jjn), (137, Jq4)]
def Jtp  : Book := { Γ := gam, orc := Jcg Kdd, hint := Jbq [(99, { keep := some [0, 1, 7], keeps := [(6, [0, 1, 7])], own := [], dat := [], stk := [] })] }
def Kde (F : Nat) (nx : Je9.T → ZO) (kq : ZK) (x : Je9.T) : ZO := Joo F none (fun n i dst => nx (((), (n, (i, ()))), (((), ()), (dst, ())))) (fun y0 y1 y2 => kq (.exit 0) (Je9.inst (((), (y0, (y1, ()))), (((), ()), (y2, ()))))) x.1.2.1 x.1.2.2.1 x.2.2.1
def Kdf (F m : Nat) (x : Je9.T) (kq : ZK) : ZO := Jhj F none (fun y0 y1 y2 => kq (.exit 0) (Je9.inst (((), (y0, (y1, ()))), (((), ()), (y2, ()))))) m x.1.2.1 x.1.2.2.1 x.2.2.1
def J36 (F : Nat) : List (LoE Unit) := [⟨99, 6, LO.of Je9 (Kdf F F)⟩]
def Jo8 (F : Nat) : Jcz Unit := { toBook := Jtp, lo := Jd7 (J36 F), need := Jbr [] }
theorem J01 (F : Nat) : Jc4 prog (Jo8 F) F 99 0 6 Je9 (Kde F) := fun d x KQ => by kernel_rfl
theorem Kdg (F : Nat) : Jky prog (Jo8 F) F := Jb0 (l := J36 F) rfl (fa (Jaw 0 (by kernel_rfl) (by kernel_rfl) (Jak (J01 F) (fun _ _ => rfl) (fun _ _ _ _ => rfl))) fz)
theorem Khq (F : Nat) (x : Jbo Ju2) (kend : List BV → ZO) : Jau prog (Jo8 F) F 20 99 (Jaf Ju2 x) [.o 5 (.int .u8)] kend = Kbk F x.1 x.2.1 none (fun y0 => kend [BV.o 5 (.int .u8) y0]) := by kernel_rfl
theorem Jnl  : Jae prog 99 Jq6 := Ja4 (B0 := Jtp) bkN bkG Jaz bkT Khq (Jad (fa Jjc (fa Jta fz))) (by kernel_rfl) (fun _ => rfl) Kdg (fun x h => (J6x x.1 x.2.1 h).elim fun F hF => ⟨F, fun kend => hF none _⟩)
@[reducible] def Jmr  : List PM := [.d (.slc (.int .u8)), .d (.int .i64)]
def Jq7  : Orc := Orc.of Jmr true 1 fun x => (Jga x.1 x.2.1, [.o 5 (.int .u8) (Jjy x.1 x.2.1)])
def Jps  : List (FuncId × Orc) := [(99, Jq6), (100, Jfk)]
theorem J37 (F : Nat) (x : Jbo Jmr) (kend : List BV → ZO) : Jau prog (bkZ Jps) F 20 51 (Jaf Jmr x) [.o 5 (.int .u8)] kend = Jus F x.1 x.2.1 none (fun y0 => kend [BV.o 5 (.int .u8) y0]) := by kernel_rfl
theorem Jtb  : Jae prog 51 Jq7 := Ja4 (B0 := bkY Jps) bkN bkG Jaz bkT J37 (Jad (fa Jnl (fa Jd0 fz))) (by kernel_rfl) (fun _ => rfl) (bkO _) (fun x h => (Jyx x.1 x.2.1 h).elim fun F hF => ⟨F, fun kend => hF none _⟩)
@[reducible] def Jo9  : List PM := [.d (.slc (.int .u8))]
def Jq8  : Orc := Orc.of Jo9 false 0 fun x => (Jeu x.1, [.d (.int .i64) (Jao x.1), .d (.slc (.int .u8)) (Jal x.1), .d (.int .i64) (Jbi x.1)])
@[reducible] def Jfa  : Tpl := { cur := ⟨[(0, .var (.slc (.int .u8))), (4, .var (.int .i64)), (0, .var (.int .i64)), (26, .var (.slc (.int .u8))), (0, .var (.int .i64)), (0, .var (.int .i64))], 23⟩, stk := [⟨[], 0⟩], heap := [] }
def Kdh  : List (FuncId × Orc) := [(100, Jfk), (118, Jie), (119, Jjn)]
def Jtq  : Book := { Γ := gam, orc := Jcg Kdh, hint := Jbq [(72, { keep := some [0, 5, 6, 33, 34, 35], keeps := [(10, [0, 5, 6, 33, 34, 35])], own := [], dat := [], stk := [] })] }
def Kdi (F : Nat) (nx : Jfa.T → ZO) (kq : ZK) (x : Jfa.T) : ZO := Jop F none (fun src k n s33 s34 s35 => nx ((src, (k, (n, (s33, (s34, (s35, ())))))), (((), ()), ()))) (fun y0 y1 y2 y3 y4 y5 => kq (.exit 0) (Jfa.inst ((y0, (y1, (y2, (y3, (y4, (y5, ())))))), (((), ()), ())))) x.1.1 x.1.2.1 x.1.2.2.1 x.1.2.2.2.1 x.1.2.2.2.2.1 x.1.2.2.2.2.2.1
def Kdj (F m : Nat) (x : Jfa.T) (kq : ZK) : ZO := Jhk F none (fun y0 y1 y2 y3 y4 y5 => kq (.exit 0) (Jfa.inst ((y0, (y1, (y2, (y3, (y4, (y5, ())))))), (((), ()), ())))) m x.1.1 x.1.2.1 x.1.2.2.1 x.1.2.2.2.1 x.1.2.2.2.2.1 x.1.2.2.2.2.2.1
def J38 (F : Nat) : List (LoE Unit) := [⟨72, 10, LO.of Jfa (Kdj F F)⟩]
def Jpa (F : Nat) : Jcz Unit := { toBook := Jtq, lo := Jd7 (J38 F), need := Jbr [] }
theorem J02 (F : Nat) : Jc4 prog (Jpa F) F 72 0 10 Jfa (Kdi F) := fun d x KQ => by kernel_rfl
theorem Kdk (F : Nat) : Jky prog (Jpa F) F := Jb0 (l := J38 F) rfl (fa (Jaw 0 (by kernel_rfl) (by kernel_rfl) (Jak (J02 F) (fun _ _ => rfl) (fun _ _ _ _ => rfl))) fz)
theorem Khr (F : Nat) (x : Jbo Jo9) (kend : List BV → ZO) : Jau prog (Jpa F) F 20 72 (Jaf Jo9 x) [.d (.int .i64), .d (.slc (.int .u8)), .d (.int .i64)] kend = Kbl F x.1 none (fun y0 y1 y2 => kend [BV.d (.int .i64) y0, BV.d (.slc (.int .u8)) y1, BV.d (.int .i64) y2]) := by kernel_rfl
theorem Jnm  : Jae prog 72 Jq8 := Ja4 (B0 := Jtq) bkN bkG Jaz bkT Khr (Jad (fa Jd0 (fa Jlg (fa Jjc fz)))) (by kernel_rfl) (fun _ => rfl) Kdk (fun x h => (J6y x.1 h).elim fun F hF => ⟨F, fun kend => hF none _⟩)
end Go.AI
namespace Go.AI
open Go
open Go.Proofs.Tryz (prog)
set_option linter.unusedVariables false
@[reducible] def Jjo  : List PM := [.d (.slc (.int .u8)), .d (.slc (.int .u8))]
def Jnn  : Orc := Orc.of Jjo true 1 fun x => (Jev x.1 x.2.1, [.o 5 (.int .u8) (Jh0 x.1 x.2.1)])
@[reducible] def Jcw  : Tpl := { cur := ⟨[(1, .row 0), (1, .ptr 1 []), (10, .var (.slc (.int .u8))), (0, .var (.int .i64)), (0, .var (.int .i64))], 10⟩, stk := [⟨[], 9⟩, ⟨[], 0⟩], heap := [.row 5 (.int .u8) false, .box (.pr (.fn 101 (.un)) (.var .unit))] }
def Jw9  : List (FuncId × Orc) := [(99, Jq6), (100, Jfk)]
def Jli  : Book := { Γ := gam, orc := Jcg Jw9, hint := Jbq [(102, { keep := some [1, 3, 14, 15, 16], keeps := [(3, [1, 3, 14, 15, 16])], own := [], dat := [], stk := [[]] })] }
def Jxa (F : Nat) (nx : Jcw.T → ZO) (kq : ZK) (x : Jcw.T) : ZO := Jgo F none (fun s14 s15 s16 dst => nx (((), ((), (s14, (s15, (s16, ()))))), (((), ((), ())), (dst, (((), ()), ()))))) (fun y0 y1 y2 y3 => kq (.exit 0) (Jcw.inst (((), ((), (y0, (y1, (y2, ()))))), (((), ((), ())), (y3, (((), ()), ())))))) x.1.2.2.1 x.1.2.2.2.1 x.1.2.2.2.2.1 x.2.2.1
def Jxb (F m : Nat) (x : Jcw.T) (kq : ZK) : ZO := Jdz F none (fun y0 y1 y2 y3 => kq (.exit 0) (Jcw.inst (((), ((), (y0, (y1, (y2, ()))))), (((), ((), ())), (y3, (((), ()), ())))))) m x.1.2.2.1 x.1.2.2.2.1 x.1.2.2.2.2.1 x.2.2.1
def Jpt (F : Nat) : List (LoE Unit) := [⟨102, 3, LO.of Jcw (Jxb F F)⟩]
def Jh6 (F : Nat) : Jcz Unit := { toBook := Jli, lo := Jd7 (Jpt F), need := Jbr [(102, 1)] }
theorem Jq9 (F : Nat) : Jc4 prog (Jh6 F) F 102 0 3 Jcw (Jxa F) := fun d x KQ => by kernel_rfl
theorem Jxc (F : Nat) : Jky prog (Jh6 F) F := Jb0 (l := Jpt F) rfl (fa (Jaw 0 (by kernel_rfl) (by kernel_rfl) (Jak (Jq9 F) (fun _ _ => rfl) (fun _ _ _ _ => rfl))) fz)
theorem Jy5 (F : Nat) (x : Jbo Jjo) (kend : List BV → ZO) : Jau prog (Jh6 F) F 20 53 (Jaf Jjo x) [.o 5 (.int .u8)] kend = Joq F x.1 x.2.1 none (fun y0 => kend [BV.o 5 (.int .u8) y0]) := by kernel_rfl
theorem Jp7  : Jae prog 53 Jnn := Ja4 (B0 := Jli) bkN bkG Jaz bkT Jy5 (Jad (fa Jnl (fa Jd0 fz))) (by kernel_rfl) (fun _ => rfl) Jxc (fun x h => (Juz x.1 x.2.1 h).elim fun F hF => ⟨F, fun kend => hF none _⟩)
@[reducible] def Jke  : List PM := [.d (.slc (.int .u8))]
def Jtr  : Orc := Orc.of Jke false 0 fun x => (Jfu x.1, [.d (.slc (.int .u8)) (Jef x.1), .d (.slc (.int .u8)) (Jeg x.1), .d (.int .i64) (Jct x.1)])
def Jra  : List (FuncId × Orc) := [(72, Jq8), (100, Jfk)]
theorem J63 (F : Nat) (x : Jbo Jke) (kend : List BV → ZO) : Jau prog (bkZ Jra) F 20 75 (Jaf Jke x) [.d (.slc (.int .u8)), .d (.slc (.int .u8)), .d (.int .i64)] kend = Jyr F x.1 none (fun y0 y1 y2 => kend [BV.d (.slc (.int .u8)) y0, BV.d (.slc (.int .u8)) y1, BV.d (.int .i64) y2]) := by kernel_rfl
theorem Ju3  : Jae prog 75 Jtr := Ja4 (B0 := bkY Jra) bkN bkG Jaz bkT J63 (Jad (fa Jnm (fa Jd0 fz))) (by kernel_rfl) (fun _ => rfl) (bkO _) (fun x h => (J0x x.1 h).elim fun F hF => ⟨F, fun kend => hF none _⟩)
end Go.AI
namespace Go.AI
open Go
open Go.Proofs.Tryz (prog)
set_option linter.unusedVariables false
@[reducible] def Km4  : List PM := [.d (.int .u32), .d (.int .i64)]
def Kdl  : Orc := Orc.of Km4 true 0 fun x => (Jtj x.1 x.2.1, [.d (.int .u32) (J3j x.1 x.2.1)])
def Khs  : List (FuncId × Orc) := []
theorem K4e (F : Nat) (x : Jbo Km4) (kend : List BV → ZO) : Jau prog (bkZ Khs) F 20 168 (Jaf Km4 x) [.d (.int .u32)] kend = rotr F x.1 x.2.1 none (fun y0 => kend [BV.d (.int .u32) y0]) := by kernel_rfl
theorem Jxd  : Jae prog 168 Kdl := Ja4 (B0 := bkY Khs) bkN bkG Jaz bkT K4e (Jad fz) (by kernel_rfl) (fun _ => rfl) (bkO _) (fun x h => (Ks3 x.1 x.2.1 h).elim fun F hF => ⟨F, fun kend => hF none _⟩)
@[reducible] def Kzt  : List PM := [.d (.int .u32), .d (.int .i64)]
def Kzu  : Orc := Orc.of Kzt true 0 fun x => (K24 x.1 x.2.1, [.d (.int .u32) (K60 x.1 x.2.1)])
def Krm  : List (FuncId × Orc) := []
theorem K8i (F : Nat) (x : Jbo Kzt) (kend : List BV → ZO) : Jau prog (bkZ Krm) F 20 177 (Jaf Kzt x) [.d (.int .u32)] kend = shr F x.1 x.2.1 none (fun y0 => kend [BV.d (.int .u32) y0]) := by kernel_rfl
theorem Kht  : Jae prog 177 Kzu := Ja4 (B0 := bkY Krm) bkN bkG Jaz bkT K8i (Jad fz) (by kernel_rfl) (fun _ => rfl) (bkO _) (fun x h => (Kx6 x.1 x.2.1 h).elim fun F hF => ⟨F, fun kend => hF none _⟩)
def Khu  : List (FuncId × Orc) := [(168, Kdl)]
def Jxe  : Book := { Γ := gam, orc := Jcg Khu, hint := Jbq [] }
def J89 (F : Nat) : List (LoE Unit) := []
def Jrb (F : Nat) : Jcz Unit := { toBook := Jxe, lo := Jd7 (J89 F), need := Jbr [] }
theorem Khv (F : Nat) : Jky prog (Jrb F) F := Jb0 (l := J89 F) rfl fz
theorem Km5 (F : Nat) (x_ : UInt32) (a b c : Int) (kend : List BV → ZO) : Jau prog (Jrb F) F 20 167 [.d (.int .u32) x_, .d (.int .i64) a, .d (.int .i64) b, .d (.int .i64) c, .f 168] [.d (.int .u32)] kend = Klm F x_ a b c none (fun y0 => kend [BV.d (.int .u32) y0]) := by kernel_rfl
theorem Jpu  : Jae prog 167 (Orc.of [.d (.int .u32), .d (.int .i64), .d (.int .i64), .d (.int .i64), .f] true 0 fun x => ((Nat.beq x.2.2.2.2.1 168) && Jft x.1 x.2.1 x.2.2.1 x.2.2.2.1 x.2.2.2.2.1, [.d (.int .u32) (Jel x.1 x.2.1 x.2.2.1 x.2.2.2.1 x.2.2.2.2.1)])) := Jea (B0 := Jxe) bkN bkG Jaz bkT (Jad (fa Jxd fz)) (by kernel_rfl) (fun x h => by
 obtain ⟨x0, x1, x2, x3, x4, _⟩ := x
 simp only [Bool.and_eq_true] at h
 obtain ⟨e, h⟩ := h
 have e := Nat.eq_of_beq_eq_true e
 subst e
 obtain ⟨F, hF⟩ := Kb8 x0 x1 x2 x3 h
 exact ⟨F, 20, Jrb F, rfl, Khv F, fun kend => (Km5 F x0 x1 x2 x3 kend).trans (hF none (fun y0 => kend [BV.d (.int .u32) y0]))⟩)
def Khw  : List (FuncId × Orc) := [(168, Kdl), (177, Kzu)]
def Jxf  : Book := { Γ := gam, orc := Jcg Khw, hint := Jbq [] }
def J9a (F : Nat) : List (LoE Unit) := []
def Jrc (F : Nat) : Jcz Unit := { toBook := Jxf, lo := Jd7 (J9a F), need := Jbr [] }
theorem Khx (F : Nat) : Jky prog (Jrc F) F := Jb0 (l := J9a F) rfl fz
theorem Km6 (F : Nat) (x_ : UInt32) (a b c : Int) (kend : List BV → ZO) : Jau prog (Jrc F) F 20 167 [.d (.int .u32) x_, .d (.int .i64) a, .d (.int .i64) b, .d (.int .i64) c, .f 177] [.d (.int .u32)] kend = Kln F x_ a b c none (fun y0 => kend [BV.d (.int .u32) y0]) := by kernel_rfl
theorem J03  : Jae prog 167 (Orc.of [.d (.int .u32), .d (.int .i64), .d (.int .i64), .d (.int .i64), .f] true 0 fun x => ((Nat.beq x.2.2.2.2.1 177) && Jft x.1 x.2.1 x.2.2.1 x.2.2.2.1 x.2.2.2.2.1, [.d (.int .u32) (Jel x.1 x.2.1 x.2.2.1 x.2.2.2.1 x.2.2.2.2.1)])) := Jea (B0 := Jxf) bkN bkG Jaz bkT (Jad (fa Jxd (fa Kht fz))) (by kernel_rfl) (fun x h => by
 obtain ⟨x0, x1, x2, x3, x4, _⟩ := x
 simp only [Bool.and_eq_true] at h
 obtain ⟨e, h⟩ := h
 have e := Nat.eq_of_beq_eq_true e
 subst e
 obtain ⟨F, hF⟩ := Kb9 x0 x1 x2 x3 h
 exact ⟨F, 20, Jrc F, rfl, Khx F, fun kend => (Km6 F x0 x1 x2 x3 kend).trans (hF none (fun y0 => kend [BV.d (.int .u32) y0]))⟩)
def Khy  : Orc := Orc.of [.d (.int .u32), .d (.int .i64), .d (.int .i64), .d (.int .i64), .f] true 0 fun x => ((Nat.beq x.2.2.2.2.1 168 || Nat.beq x.2.2.2.2.1 177) && Jft x.1 x.2.1 x.2.2.1 x.2.2.2.1 x.2.2.2.2.1, [.d (.int .u32) (Jel x.1 x.2.1 x.2.2.1 x.2.2.2.1 x.2.2.2.2.1)])
theorem J64  : Jae prog 167 Khy := Jiv Jpu.1 (fun x h => by
 obtain ⟨x0, x1, x2, x3, x4, _⟩ := x
 simp only [Bool.and_eq_true, Bool.or_eq_true] at h
 obtain ⟨e, _⟩ := h
 rcases e with e | e
 ·have e := Nat.eq_of_beq_eq_true e
  subst e
  exact ⟨_, Jpu, rfl⟩
 ·have e := Nat.eq_of_beq_eq_true e
  subst e
  exact ⟨_, J03, rfl⟩)
@[reducible] def J39  : List PM := []
def J9b  : Orc := Orc.of J39 true 0 fun x => (J1s, [.d (.arr 64 (.int .u32)) (Kba)])
def J4a  : List (FuncId × Orc) := []
theorem Ktw (F : Nat) (x : Jbo J39) (kend : List BV → ZO) : Jau prog (bkZ J4a) F 20 176 (Jaf J39 x) [.d (.arr 64 (.int .u32))] kend = K5e F  none (fun y0 => kend [BV.d (.arr 64 (.int .u32)) y0]) := by kernel_rfl
theorem J4b  : Jae prog 176 J9b := Ja4 (B0 := bkY J4a) bkN bkG Jaz bkT Ktw (Jad fz) (by kernel_rfl) (fun _ => rfl) (bkO _) (fun x h => (Kgn  h).elim fun F hF => ⟨F, fun kend => hF none _⟩)
@[reducible] def J4c  : List PM := [.d (.arr 8 (.int .u32)), .d (.slc (.int .u8))]
def J9c  : Orc := Orc.of J4c true 0 fun x => (Jwg x.1 x.2.1, [.d (.arr 8 (.int .u32)) (Kbb x.1 x.2.1)])
@[reducible] def Jgx  : Tpl := { cur := ⟨[(0, .hnd .yield 0), (0, .ptr 2 []), (1, .ptr 3 []), (0, .var (.int .i64)), (0, .var (.int .u32)), (4, .var (.arr 64 (.int .u32))), (0, .var (.int .i64)), (11, .var (.slc (.int .u8))), (0, .var (.int .i64)), (0, .var (.int .i64))], 50⟩, stk := [⟨[(0, .hnd .yield 0)], 0⟩, ⟨[(2, .ptr 4 []), (1, .ptr 5 []), (0, .ptr 1 [])], 78⟩, ⟨[], 0⟩], heap := [.lp 156 3 ⟨[(5, .ptr 1 [])], 78⟩ .ready, .box (.var (.arr 8 (.int .u32))), .box (.var (.slc (.int .u8))), .box (.var (.arr 16 (.int .u32))), .box (.var (.arr 8 (.int .u32))), .box (.var (.arr 8 (.int .u32)))] }
@[reducible] def Jgy  : Tpl := { cur := ⟨[(0, .hnd .yield 0), (0, .ptr 2 []), (1, .ptr 3 []), (6, .var (.arr 64 (.int .u32))), (0, .var (.int .i64))], 64⟩, stk := [⟨[(0, .hnd .yield 0)], 0⟩, ⟨[(2, .ptr 4 []), (1, .ptr 5 []), (0, .ptr 1 [])], 78⟩, ⟨[], 0⟩], heap := [.lp 156 3 ⟨[(5, .ptr 1 [])], 78⟩ .ready, .box (.var (.arr 8 (.int .u32))), .box (.var (.slc (.int .u8))), .box (.var (.arr 16 (.int .u32))), .box (.var (.arr 8 (.int .u32))), .box (.var (.arr 8 (.int .u32)))] }
@[reducible] def Jgz  : Tpl := { cur := ⟨[(2, .ptr 0 []), (1, .ptr 1 []), (0, .ptr 2 []), (65, .var (.int .i64))], 12⟩, stk := [⟨[], 0⟩], heap := [.box (.var (.arr 8 (.int .u32))), .box (.var (.arr 8 (.int .u32))), .box (.var (.arr 8 (.int .u32)))] }
def Km7  : List (FuncId × Orc) := [(167, Khy), (176, J9b)]
def J0a  : Book := { Γ := gam, orc := Jcg Km7, hint := Jbq [(156, { keep := some [2, 4, 5, 71], keeps := [(9, [2, 4, 5, 71])], own := [], dat := [], stk := [] }), (175, { keep := some [0, 1, 3, 4, 5, 10, 11, 23, 24, 25], keeps := [(2, [0, 1, 3, 10, 11]), (6, [0, 1, 3, 4, 5, 10, 11, 23, 24, 25])], own := [], dat := [], stk := [[0], [2, 4, 5, 6, 7, 8, 9, 10, 15, 21]] })] }
def Km8 (F : Nat) (nx : Jgx.T → ZO) (kq : ZK) (x : Jgx.T) : ZO := Jwo F none (fun i k s10 s11 s23 s24 s25 x_ s1 w s s4 => nx (((), ((), ((), (i, (k, (s10, (s11, (s23, (s24, (s25, ())))))))))), ((((), ()), (((), ((), ((), ()))), ((), ()))), (((), ()), (x_, (s1, (w, (s, (s4, ()))))))))) (fun y0 y1 y2 y3 y4 y5 y6 y7 y8 y9 y10 y11 => kq (.exit 2) (Jgx.inst (((), ((), ((), (y0, (y1, (y2, (y3, (y4, (y5, (y6, ())))))))))), ((((), ()), (((), ((), ((), ()))), ((), ()))), (((), ()), (y7, (y8, (y9, (y10, (y11, ())))))))))) x.1.2.2.2.1 x.1.2.2.2.2.1 x.1.2.2.2.2.2.1 x.1.2.2.2.2.2.2.1 x.1.2.2.2.2.2.2.2.1 x.1.2.2.2.2.2.2.2.2.1 x.1.2.2.2.2.2.2.2.2.2.1 x.2.2.2.1 x.2.2.2.2.1 x.2.2.2.2.2.1 x.2.2.2.2.2.2.1 x.2.2.2.2.2.2.2.1
def Km9 (F m : Nat) (x : Jgx.T) (kq : ZK) : ZO := Jhi F none (fun y0 y1 y2 y3 y4 y5 y6 y7 y8 y9 y10 y11 => kq (.exit 2) (Jgx.inst (((), ((), ((), (y0, (y1, (y2, (y3, (y4, (y5, (y6, ())))))))))), ((((), ()), (((), ((), ((), ()))), ((), ()))), (((), ()), (y7, (y8, (y9, (y10, (y11, ())))))))))) m x.1.2.2.2.1 x.1.2.2.2.2.1 x.1.2.2.2.2.2.1 x.1.2.2.2.2.2.2.1 x.1.2.2.2.2.2.2.2.1 x.1.2.2.2.2.2.2.2.2.1 x.1.2.2.2.2.2.2.2.2.2.1 x.2.2.2.1 x.2.2.2.2.1 x.2.2.2.2.2.1 x.2.2.2.2.2.2.1 x.2.2.2.2.2.2.2.1
def Kna (F : Nat) (nx : Jgy.T → ZO) (kq : ZK) (x : Jgy.T) : ZO := Jwp F none (fun s10 s11 x_ s1 w s s4 => nx (((), ((), ((), (s10, (s11, ()))))), ((((), ()), (((), ((), ((), ()))), ((), ()))), (((), ()), (x_, (s1, (w, (s, (s4, ()))))))))) (fun y0 y1 y2 y3 y4 y5 y6 => kq (.exit 0) (Jgy.inst (((), ((), ((), (y0, (y1, ()))))), ((((), ()), (((), ((), ((), ()))), ((), ()))), (((), ()), (y2, (y3, (y4, (y5, (y6, ())))))))))) x.1.2.2.2.1 x.1.2.2.2.2.1 x.2.2.2.1 x.2.2.2.2.1 x.2.2.2.2.2.1 x.2.2.2.2.2.2.1 x.2.2.2.2.2.2.2.1
def Knb (F m : Nat) (x : Jgy.T) (kq : ZK) : ZO := Jkp F none (fun y0 y1 y2 y3 y4 y5 y6 => kq (.exit 0) (Jgy.inst (((), ((), ((), (y0, (y1, ()))))), ((((), ()), (((), ((), ((), ()))), ((), ()))), (((), ()), (y2, (y3, (y4, (y5, (y6, ())))))))))) m x.1.2.2.2.1 x.1.2.2.2.2.1 x.2.2.2.1 x.2.2.2.2.1 x.2.2.2.2.2.1 x.2.2.2.2.2.2.1 x.2.2.2.2.2.2.2.1
def Knc (F : Nat) (nx : Jgz.T → ZO) (kq : ZK) (x : Jgz.T) : ZO := Kgb F none (fun s71 s s4 x_ => nx (((), ((), ((), (s71, ())))), (((), ()), (s, (s4, (x_, ())))))) (fun y0 y1 y2 y3 => kq (.exit 2) (Jgz.inst (((), ((), ((), (y0, ())))), (((), ()), (y1, (y2, (y3, ()))))))) x.1.2.2.2.1 x.2.2.1 x.2.2.2.1 x.2.2.2.2.1
def Knd (F m : Nat) (x : Jgz.T) (kq : ZK) : ZO := Jna F none (fun y0 y1 y2 y3 => kq (.exit 2) (Jgz.inst (((), ((), ((), (y0, ())))), (((), ()), (y1, (y2, (y3, ()))))))) m x.1.2.2.2.1 x.2.2.1 x.2.2.2.1 x.2.2.2.2.1
def Khz (F : Nat) : List (LoE Unit) := [⟨175, 6, LO.of Jgx (Km9 F F)⟩,
 ⟨175, 2, LO.of Jgy (Knb F F)⟩,
 ⟨156, 9, LO.of Jgz (Knd F F)⟩]
def Jlj (F : Nat) : Jcz Unit := { toBook := J0a, lo := Jd7 (Khz F), need := Jbr [(175, 1)] }
theorem J65 (F : Nat) : Jc4 prog (Jlj F) F 175 1 6 Jgx (Km8 F) := fun d x KQ => by kernel_rfl
theorem J66 (F : Nat) : Jc4 prog (Jlj F) F 175 0 2 Jgy (Kna F) := fun d x KQ => by kernel_rfl
theorem J67 (F : Nat) : Jc4 prog (Jlj F) F 156 0 9 Jgz (Knc F) := fun d x KQ => by kernel_rfl
theorem Kne (F : Nat) : Jky prog (Jlj F) F := Jb0 (l := Khz F) rfl (fa (Jaw 1 (by kernel_rfl) (by kernel_rfl) (Jak (J65 F) (fun _ _ => rfl) (fun _ _ _ _ => rfl))) (fa (Jaw 0 (by kernel_rfl) (by kernel_rfl) (Jak (J66 F) (fun _ _ => rfl) (fun _ _ _ _ => rfl))) (fa (Jaw 0 (by kernel_rfl) (by kernel_rfl) (Jak (J67 F) (fun _ _ => rfl) (fun _ _ _ _ => rfl))) fz)))
theorem Ktx (F : Nat) (x : Jbo J4c) (kend : List BV → ZO) : Jau prog (Jlj F) F 20 156 (Jaf J4c x) [.d (.arr 8 (.int .u32))] kend = Kxf F x.1 x.2.1 none (fun y0 => kend [BV.d (.arr 8 (.int .u32)) y0]) := by kernel_rfl
theorem J4d  : Jae prog 156 J9c := Ja4 (B0 := J0a) bkN bkG Jaz bkT Ktx (Jad (fa J64 (fa J4b fz))) (by kernel_rfl) (fun _ => rfl) Kne (fun x h => (Kgr x.1 x.2.1 h).elim fun F hF => ⟨F, fun kend => hF none _⟩)
@[reducible] def Knf  : List PM := []
def Kdm  : Orc := Orc.of Knf false 0 fun x => (Jz1, [.d (.pair (.arr 8 (.int .u32)) (.pair (.slc (.int .u8)) (.pair (.int .i64) .unit))) (Jgh)])
def Kh0  : List (FuncId × Orc) := []
theorem K4f (F : Nat) (x : Jbo Knf) (kend : List BV → ZO) : Jau prog (bkZ Kh0) F 20 140 (Jaf Knf x) [.d (.pair (.arr 8 (.int .u32)) (.pair (.slc (.int .u8)) (.pair (.int .i64) .unit)))] kend = hNew F  none (fun y0 => kend [BV.d (.pair (.arr 8 (.int .u32)) (.pair (.slc (.int .u8)) (.pair (.int .i64) .unit))) y0]) := by kernel_rfl
theorem Jxg  : Jae prog 140 Kdm := Ja4 (B0 := bkY Kh0) bkN bkG Jaz bkT K4f (Jad fz) (by kernel_rfl) (fun _ => rfl) (bkO _) (fun x h => (Ks4  h).elim fun F hF => ⟨F, fun kend => hF none _⟩)
@[reducible] def J4e  : List PM := [.d (.pair (.arr 8 (.int .u32)) (.pair (.slc (.int .u8)) (.pair (.int .i64) .unit))), .d (.slc (.int .u8))]
def Js3  : Orc := Orc.of J4e false 0 fun x => (Jee x.1 x.2.1, [.d (.pair (.arr 8 (.int .u32)) (.pair (.slc (.int .u8)) (.pair (.int .i64) .unit))) (Jc5 x.1 x.2.1)])
@[reducible] def Jg0  : Tpl := { cur := ⟨[(1, .var (.slc (.int .u8))), (0, .ptr 0 []), (1, .ptr 1 []), (0, .ptr 2 []), (7, .var (.arr 8 (.int .u32))), (0, .var (.int .i64))], 45⟩, stk := [⟨[], 0⟩], heap := [.box (.var (.pair (.arr 8 (.int .u32)) (.pair (.slc (.int .u8)) (.pair (.int .i64) .unit)))), .box (.var (.pair (.arr 8 (.int .u32)) (.pair (.slc (.int .u8)) (.pair (.int .i64) .unit)))), .box (.var (.arr 8 (.int .u32)))] }
@[reducible] def Jg1  : Tpl := { cur := ⟨[(1, .var (.slc (.int .u8))), (0, .ptr 0 []), (1, .ptr 1 []), (0, .ptr 2 []), (2, .var (.slc (.int .u8)))], 51⟩, stk := [⟨[], 0⟩], heap := [.box (.var (.pair (.arr 8 (.int .u32)) (.pair (.slc (.int .u8)) (.pair (.int .i64) .unit)))), .box (.var (.pair (.arr 8 (.int .u32)) (.pair (.slc (.int .u8)) (.pair (.int .i64) .unit)))), .box (.var (.arr 8 (.int .u32)))] }
@[reducible] def Jg2  : Tpl := { cur := ⟨[(4, .ptr 0 []), (4, .ptr 1 []), (39, .var (.arr 8 (.int .u32))), (0, .var (.int .i64))], 9⟩, stk := [⟨[], 0⟩], heap := [.box (.var (.pair (.arr 8 (.int .u32)) (.pair (.slc (.int .u8)) (.pair (.int .i64) .unit)))), .box (.pr (.var (.arr 8 (.int .u32))) (.pr (.row 2) (.var (.pair (.int .i64) .unit)))), .row 5 (.int .u8) false] }
def Kng  : List (FuncId × Orc) := [(156, J9c)]
def J0b  : Book := { Γ := gam, orc := Jcg Kng, hint := Jbq [(139, { keep := some [1, 2, 4, 5, 8, 9, 13, 14, 49, 50], keeps := [(3, [1, 2, 4, 5, 13, 14]), (8, [1, 2, 4, 5, 8]), (13, [4, 9, 49, 50])], own := [], dat := [], stk := [] })] }
def Knh (F : Nat) (nx : Jg0.T → ZO) (kq : ZK) (x : Jg0.T) : ZO := Kgc F none (fun b s13 s14 h s4 s => nx ((b, ((), ((), ((), (s13, (s14, ())))))), (((), ()), (h, (s4, (s, ())))))) (fun y0 y1 y2 y3 y4 y5 => kq (.exit 0) (Jg0.inst ((y0, ((), ((), ((), (y1, (y2, ())))))), (((), ()), (y3, (y4, (y5, ()))))))) x.1.1 x.1.2.2.2.2.1 x.1.2.2.2.2.2.1 x.2.2.1 x.2.2.2.1 x.2.2.2.2.1
def Kni (F m : Nat) (x : Jg0.T) (kq : ZK) : ZO := Jsf F none (fun y0 y1 y2 y3 y4 y5 => kq (.exit 0) (Jg0.inst ((y0, ((), ((), ((), (y1, (y2, ())))))), (((), ()), (y3, (y4, (y5, ()))))))) m x.1.1 x.1.2.2.2.2.1 x.1.2.2.2.2.2.1 x.2.2.1 x.2.2.2.1 x.2.2.2.2.1
def Knj (F : Nat) (nx : Jg1.T → ZO) (kq : ZK) (x : Jg1.T) : ZO := Jwq F none (fun b all h s4 s => nx ((b, ((), ((), ((), (all, ()))))), (((), ()), (h, (s4, (s, ())))))) (fun y0 y1 y2 y3 y4 => kq (.exit 2) (Jg1.inst ((y0, ((), ((), ((), (y1, ()))))), (((), ()), (y2, (y3, (y4, ()))))))) x.1.1 x.1.2.2.2.2.1 x.2.2.1 x.2.2.2.1 x.2.2.2.2.1
def Knk (F m : Nat) (x : Jg1.T) (kq : ZK) : ZO := Jkq F none (fun y0 y1 y2 y3 y4 => kq (.exit 2) (Jg1.inst ((y0, ((), ((), ((), (y1, ()))))), (((), ()), (y2, (y3, (y4, ()))))))) m x.1.1 x.1.2.2.2.2.1 x.2.2.1 x.2.2.2.1 x.2.2.2.2.1
def Knl (F : Nat) (nx : Jg2.T → ZO) (kq : ZK) (x : Jg2.T) : ZO := Kgd F none (fun s49 s50 s4 out out1 h2 => nx (((), ((), (s49, (s50, ())))), (((), ()), (s4, ((out, ((), out1)), (h2, ())))))) (fun y0 y1 y2 y3 y4 y5 => kq (.exit 4) (Jg2.inst (((), ((), (y0, (y1, ())))), (((), ()), (y2, ((y3, ((), y4)), (y5, ()))))))) x.1.2.2.1 x.1.2.2.2.1 x.2.2.1 x.2.2.2.1.1 x.2.2.2.1.2.2 x.2.2.2.2.1
def Knm (F m : Nat) (x : Jg2.T) (kq : ZK) : ZO := Jsg F none (fun y0 y1 y2 y3 y4 y5 => kq (.exit 4) (Jg2.inst (((), ((), (y0, (y1, ())))), (((), ()), (y2, ((y3, ((), y4)), (y5, ()))))))) m x.1.2.2.1 x.1.2.2.2.1 x.2.2.1 x.2.2.2.1.1 x.2.2.2.1.2.2 x.2.2.2.2.1
def Kh1 (F : Nat) : List (LoE Unit) := [⟨139, 3, LO.of Jg0 (Kni F F)⟩,
 ⟨139, 8, LO.of Jg1 (Knk F F)⟩,
 ⟨139, 13, LO.of Jg2 (Knm F F)⟩]
def Jlk (F : Nat) : Jcz Unit := { toBook := J0b, lo := Jd7 (Kh1 F), need := Jbr [] }
theorem J68 (F : Nat) : Jc4 prog (Jlk F) F 139 0 3 Jg0 (Knh F) := fun d x KQ => by kernel_rfl
theorem J69 (F : Nat) : Jc4 prog (Jlk F) F 139 1 8 Jg1 (Knj F) := fun d x KQ => by kernel_rfl
theorem J7a (F : Nat) : Jc4 prog (Jlk F) F 139 2 13 Jg2 (Knl F) := fun d x KQ => by kernel_rfl
theorem Knn (F : Nat) : Jky prog (Jlk F) F := Jb0 (l := Kh1 F) rfl (fa (Jaw 0 (by kernel_rfl) (by kernel_rfl) (Jak (J68 F) (fun _ _ => rfl) (fun _ _ _ _ => rfl))) (fa (Jaw 1 (by kernel_rfl) (by kernel_rfl) (Jak (J69 F) (fun _ _ => rfl) (fun _ _ _ _ => rfl))) (fa (Jaw 2 (by kernel_rfl) (by kernel_rfl) (Jak (J7a F) (fun _ _ => rfl) (fun _ _ _ _ => rfl))) fz)))
theorem Kty (F : Nat) (x : Jbo J4e) (kend : List BV → ZO) : Jau prog (Jlk F) F 20 139 (Jaf J4e x) [.d (.pair (.arr 8 (.int .u32)) (.pair (.slc (.int .u8)) (.pair (.int .i64) .unit)))] kend = Kxg F x.1 x.2.1 none (fun y0 => kend [BV.d (.pair (.arr 8 (.int .u32)) (.pair (.slc (.int .u8)) (.pair (.int .i64) .unit))) y0]) := by kernel_rfl
theorem Jll  : Jae prog 139 Js3 := Ja4 (B0 := J0b) bkN bkG Jaz bkT Kty (Jad (fa J4d fz)) (by kernel_rfl) (fun _ => rfl) Knn (fun x h => (Kgs x.1 x.2.1 h).elim fun F hF => ⟨F, fun kend => hF none _⟩)
@[reducible] def Jy6  : List PM := [.d (.pair (.arr 8 (.int .u32)) (.pair (.slc (.int .u8)) (.pair (.int .i64) .unit)))]
def Ju4  : Orc := Orc.of Jy6 true 0 fun x => (Jgl x.1, [.d (.arr 32 (.int .u8)) (Ji6 x.1)])
@[reducible] def Jfz  : Tpl := { cur := ⟨[(1, .ptr 0 []), (0, .ptr 1 []), (0, .row 2), (0, .var (.int .i64))], 52⟩, stk := [⟨[], 0⟩], heap := [.box (.var (.pair (.arr 8 (.int .u32)) (.pair (.slc (.int .u8)) (.pair (.int .i64) .unit)))), .box (.var (.arr 32 (.int .u8))), .row 5 (.int .u8) false] }
@[reducible] def Jf0  : Tpl := { cur := ⟨[(2, .ptr 0 []), (2, .ptr 1 []), (0, .var (.int .i64)), (0, .var (.int .u32)), (27, .var (.arr 8 (.int .u32))), (0, .var (.int .i64)), (3, .var (.int .i64))], 16⟩, stk := [⟨[], 0⟩], heap := [.box (.var (.arr 32 (.int .u8))), .box (.var (.arr 32 (.int .u8)))] }
@[reducible] def Jf1  : Tpl := { cur := ⟨[(2, .ptr 0 []), (2, .ptr 1 []), (29, .var (.arr 8 (.int .u32))), (0, .var (.int .i64))], 20⟩, stk := [⟨[], 0⟩], heap := [.box (.var (.arr 32 (.int .u8))), .box (.var (.arr 32 (.int .u8)))] }
def Kh2  : List (FuncId × Orc) := [(139, Js3)]
def Jxh  : Book := { Γ := gam, orc := Jcg Kh2, hint := Jbq [(138, { keep := some [1, 2, 3, 4, 5, 6, 7, 35, 36, 40], keeps := [(4, [1, 2, 3, 4]), (9, [2, 5, 35, 36]), (12, [2, 5, 6, 7, 35, 36, 40])], own := [], dat := [], stk := [] })] }
def Kh3 (F : Nat) (nx : Jfz.T → ZO) (kq : ZK) (x : Jfz.T) : ZO := Jsh F none (fun shift h s2 pad => nx (((), ((), ((), (shift, ())))), (((), ()), (h, (s2, (pad, ())))))) (fun y0 y1 y2 y3 => kq (.exit 0) (Jfz.inst (((), ((), ((), (y0, ())))), (((), ()), (y1, (y2, (y3, ()))))))) x.1.2.2.2.1 x.2.2.1 x.2.2.2.1 x.2.2.2.2.1
def Kh4 (F m : Nat) (x : Jfz.T) (kq : ZK) : ZO := Jfv F none (fun y0 y1 y2 y3 => kq (.exit 0) (Jfz.inst (((), ((), ((), (y0, ())))), (((), ()), (y1, (y2, (y3, ()))))))) m x.1.2.2.2.1 x.2.2.1 x.2.2.2.1 x.2.2.2.2.1
def Kh5 (F : Nat) (nx : Jf0.T → ZO) (kq : ZK) (x : Jf0.T) : ZO := J8v F none (fun i x_ s35 s36 s40 s2 out => nx (((), ((), (i, (x_, (s35, (s36, (s40, ()))))))), (((), ()), (s2, (out, ()))))) (fun y0 y1 y2 y3 y4 y5 y6 => kq (.exit 4) (Jf0.inst (((), ((), (y0, (y1, (y2, (y3, (y4, ()))))))), (((), ()), (y5, (y6, ())))))) x.1.2.2.1 x.1.2.2.2.1 x.1.2.2.2.2.1 x.1.2.2.2.2.2.1 x.1.2.2.2.2.2.2.1 x.2.2.1 x.2.2.2.1
def Kh6 (F m : Nat) (x : Jf0.T) (kq : ZK) : ZO := Jur F none (fun y0 y1 y2 y3 y4 y5 y6 => kq (.exit 4) (Jf0.inst (((), ((), (y0, (y1, (y2, (y3, (y4, ()))))))), (((), ()), (y5, (y6, ())))))) m x.1.2.2.1 x.1.2.2.2.1 x.1.2.2.2.2.1 x.1.2.2.2.2.2.1 x.1.2.2.2.2.2.2.1 x.2.2.1 x.2.2.2.1
def Kh7 (F : Nat) (nx : Jf1.T → ZO) (kq : ZK) (x : Jf1.T) : ZO := J8w F none (fun s35 s36 s2 out => nx (((), ((), (s35, (s36, ())))), (((), ()), (s2, (out, ()))))) (fun y0 y1 y2 y3 => kq (.exit 2) (Jf1.inst (((), ((), (y0, (y1, ())))), (((), ()), (y2, (y3, ())))))) x.1.2.2.1 x.1.2.2.2.1 x.2.2.1 x.2.2.2.1
def Kh8 (F m : Nat) (x : Jf1.T) (kq : ZK) : ZO := Jon F none (fun y0 y1 y2 y3 => kq (.exit 2) (Jf1.inst (((), ((), (y0, (y1, ())))), (((), ()), (y2, (y3, ())))))) m x.1.2.2.1 x.1.2.2.2.1 x.2.2.1 x.2.2.2.1
def J9d (F : Nat) : List (LoE Unit) := [⟨138, 4, LO.of Jfz (Kh4 F F)⟩,
 ⟨138, 12, LO.of Jf0 (Kh6 F F)⟩,
 ⟨138, 9, LO.of Jf1 (Kh8 F F)⟩]
def Jjd (F : Nat) : Jcz Unit := { toBook := Jxh, lo := Jd7 (J9d F), need := Jbr [] }
theorem J4f (F : Nat) : Jc4 prog (Jjd F) F 138 0 4 Jfz (Kh3 F) := fun d x KQ => by kernel_rfl
theorem J4g (F : Nat) : Jc4 prog (Jjd F) F 138 2 12 Jf0 (Kh5 F) := fun d x KQ => by kernel_rfl
theorem J4h (F : Nat) : Jc4 prog (Jjd F) F 138 1 9 Jf1 (Kh7 F) := fun d x KQ => by kernel_rfl
theorem Kh9 (F : Nat) : Jky prog (Jjd F) F := Jb0 (l := J9d F) rfl (fa (Jaw 0 (by kernel_rfl) (by kernel_rfl) (Jak (J4f F) (fun _ _ => rfl) (fun _ _ _ _ => rfl))) (fa (Jaw 2 (by kernel_rfl) (by kernel_rfl) (Jak (J4g F) (fun _ _ => rfl) (fun _ _ _ _ => rfl))) (fa (Jaw 1 (by kernel_rfl) (by kernel_rfl) (Jak (J4h F) (fun _ _ => rfl) (fun _ _ _ _ => rfl))) fz)))
theorem Kno (F : Nat) (x : Jbo Jy6) (kend : List BV → ZO) : Jau prog (Jjd F) F 20 138 (Jaf Jy6 x) [.d (.arr 32 (.int .u8))] kend = Klo F x.1 none (fun y0 => kend [BV.d (.arr 32 (.int .u8)) y0]) := by kernel_rfl
theorem Jpv  : Jae prog 138 Ju4 := Ja4 (B0 := Jxh) bkN bkG Jaz bkT Kno (Jad (fa Jll fz)) (by kernel_rfl) (fun _ => rfl) Kh9 (fun x h => (Kcc x.1 h).elim fun F hF => ⟨F, fun kend => hF none _⟩)
@[reducible] def Knp  : List PM := [.d (.slc (.int .u8))]
def Krn  : Orc := Orc.of Knp true 0 fun x => (Kf7 x.1, [.d (.arr 32 (.int .u8)) (Jtk x.1)])
def Kia  : List (FuncId × Orc) := [(138, Ju4), (139, Js3), (140, Kdm)]
theorem K4g (F : Nat) (x : Jbo Knp) (kend : List BV → ZO) : Jau prog (bkZ Kia) F 20 157 (Jaf Knp x) [.d (.arr 32 (.int .u8))] kend = dSum F x.1 none (fun y0 => kend [BV.d (.arr 32 (.int .u8)) y0]) := by kernel_rfl
theorem Kdn  : Jae prog 157 Krn := Ja4 (B0 := bkY Kia) bkN bkG Jaz bkT K4g (Jad (fa Jpv (fa Jll (fa Jxg fz)))) (by kernel_rfl) (fun _ => rfl) (bkO _) (fun x h => (Ks5 x.1 h).elim fun F hF => ⟨F, fun kend => hF none _⟩)
end Go.AI
namespace Go.AI
open Go
open Go.Proofs.Tryz (prog)
set_option linter.unusedVariables false
@[reducible] def J4i  : List PM := [.d (.slc (.int .u8)), .d (.int .u8)]
def J9e  : Orc := Orc.of J4i true 1 fun x => (Jr9 x.1 x.2.1, [.o 5 (.int .u8) (Jen x.1 x.2.1)])
@[reducible] def Jg3  : Tpl := { cur := ⟨[(1, .var (.int .u8)), (4, .row 0), (12, .var (.int .i64)), (0, .var (.int .i64))], 11⟩, stk := [⟨[], 0⟩], heap := [.row 5 (.int .u8) false] }
def Knq  : List (FuncId × Orc) := [(157, Krn)]
def J0c  : Book := { Γ := gam, orc := Jcg Knq, hint := Jbq [(141, { keep := some [1, 6, 19, 20], keeps := [(7, [1, 6, 19, 20])], own := [], dat := [], stk := [] })] }
def Knr (F : Nat) (nx : Jg3.T → ZO) (kq : ZK) (x : Jg3.T) : ZO := Jwr F none (fun by_ s19 s20 out => nx ((by_, ((), (s19, (s20, ())))), (((), ()), (out, ())))) (fun y0 y1 y2 y3 => kq (.exit 0) (Jg3.inst ((y0, ((), (y1, (y2, ())))), (((), ()), (y3, ()))))) x.1.1 x.1.2.2.1 x.1.2.2.2.1 x.2.2.1
def Kns (F m : Nat) (x : Jg3.T) (kq : ZK) : ZO := Jio F none (fun y0 y1 y2 y3 => kq (.exit 0) (Jg3.inst ((y0, ((), (y1, (y2, ())))), (((), ()), (y3, ()))))) m x.1.1 x.1.2.2.1 x.1.2.2.2.1 x.2.2.1
def Kib (F : Nat) : List (LoE Unit) := [⟨141, 7, LO.of Jg3 (Kns F F)⟩]
def Ju5 (F : Nat) : Jcz Unit := { toBook := J0c, lo := Jd7 (Kib F), need := Jbr [] }
theorem J7b (F : Nat) : Jc4 prog (Ju5 F) F 141 0 7 Jg3 (Knr F) := fun d x KQ => by kernel_rfl
theorem Knt (F : Nat) : Jky prog (Ju5 F) F := Jb0 (l := Kib F) rfl (fa (Jaw 0 (by kernel_rfl) (by kernel_rfl) (Jak (J7b F) (fun _ _ => rfl) (fun _ _ _ _ => rfl))) fz)
theorem Ktz (F : Nat) (x : Jbo J4i) (kend : List BV → ZO) : Jau prog (Ju5 F) F 20 141 (Jaf J4i x) [.o 5 (.int .u8)] kend = Kxh F x.1 x.2.1 none (fun y0 => kend [BV.o 5 (.int .u8) y0]) := by kernel_rfl
theorem J4j  : Jae prog 141 J9e := Ja4 (B0 := J0c) bkN bkG Jaz bkT Ktz (Jad (fa Kdn fz)) (by kernel_rfl) (fun _ => rfl) Knt (fun x h => (Kgz x.1 x.2.1 h).elim fun F hF => ⟨F, fun kend => hF none _⟩)
@[reducible] def Knu  : List PM := [.d (.slc (.int .u8)), .d (.slc (.int .u8))]
def J2a  : Orc := Orc.of Knu true 0 fun x => (Jqp x.1 x.2.1, [.d (.arr 32 (.int .u8)) (Jz2 x.1 x.2.1)])
def Kic  : List (FuncId × Orc) := [(138, Ju4), (139, Js3), (140, Kdm), (141, J9e)]
theorem K4h (F : Nat) (x : Jbo Knu) (kend : List BV → ZO) : Jau prog (bkZ Kic) F 20 103 (Jaf Knu x) [.d (.arr 32 (.int .u8))] kend = dMac F x.1 x.2.1 none (fun y0 => kend [BV.d (.arr 32 (.int .u8)) y0]) := by kernel_rfl
theorem Jpb  : Jae prog 103 J2a := Ja4 (B0 := bkY Kic) bkN bkG Jaz bkT K4h (Jad (fa Jpv (fa Jll (fa Jxg (fa J4j fz))))) (by kernel_rfl) (fun _ => rfl) (bkO _) (fun x h => (Ks8 x.1 x.2.1 h).elim fun F hF => ⟨F, fun kend => hF none _⟩)
end Go.AI
namespace Go.AI
open Go
open Go.Proofs.Tryz (prog)
set_option linter.unusedVariables false
@[reducible] def Kdo  : List PM := [.d (.int .u32), .d (.int .i64)]
def Kid  : Orc := Orc.of Kdo true 0 fun x => (Jyk x.1 x.2.1, [.d (.int .u32) (J3k x.1 x.2.1)])
def J9f  : List (FuncId × Orc) := []
theorem Kzv (F : Nat) (x : Jbo Kdo) (kend : List BV → ZO) : Jau prog (bkZ J9f) F 20 169 (Jaf Kdo x) [.d (.int .u32)] kend = K67 F x.1 x.2.1 none (fun y0 => kend [BV.d (.int .u32) y0]) := by kernel_rfl
theorem J7c  : Jae prog 169 Kid := Ja4 (B0 := bkY J9f) bkN bkG Jaz bkT Kzv (Jad fz) (by kernel_rfl) (fun _ => rfl) (bkO _) (fun x h => (Kmd x.1 x.2.1 h).elim fun F hF => ⟨F, fun kend => hF none _⟩)
@[reducible] def J4k  : List PM := [.d (.arr 32 (.int .u8)), .d (.int .i64), .d (.int .i64)]
def J9g  : Orc := Orc.of J4k true 0 fun x => (J1t x.1 x.2.1 x.2.2.1, [.d (.arr 16 (.int .u32)) (J1u x.1 x.2.1 x.2.2.1)])
@[reducible] def Jg4  : Tpl := { cur := ⟨[(1, .var (.int .i64)), (0, .var (.int .i64)), (0, .ptr 0 []), (2, .ptr 1 []), (0, .ptr 2 []), (0, .var (.int .i64)), (2, .var (.int .i64)), (2, .var (.int .i64))], 31⟩, stk := [⟨[], 0⟩], heap := [.box (.var (.arr 32 (.int .u8))), .box (.var (.arr 16 (.int .u32))), .box (.var (.arr 16 (.int .u32)))] }
@[reducible] def Jg5  : Tpl := { cur := ⟨[(1, .var (.int .i64)), (0, .var (.int .i64)), (0, .ptr 0 []), (2, .ptr 1 []), (0, .ptr 2 []), (3, .var (.int .i64))], 34⟩, stk := [⟨[], 0⟩], heap := [.box (.var (.arr 32 (.int .u8))), .box (.var (.arr 16 (.int .u32))), .box (.var (.arr 16 (.int .u32)))] }
def Knv  : List (FuncId × Orc) := []
def J0d  : Book := { Γ := gam, orc := Jcg Knv, hint := Jbq [(143, { keep := some [1, 2, 3, 6, 7, 8, 11, 14], keeps := [(3, [1, 2, 3, 6, 7, 11]), (6, [1, 2, 3, 6, 7, 8, 11, 14])], own := [], dat := [], stk := [] })] }
def Knw (F : Nat) (nx : Jg4.T → ZO) (kq : ZK) (x : Jg4.T) : ZO := Jws F none (fun nonce counter i s11 s14 key s6 w => nx ((nonce, (counter, ((), ((), ((), (i, (s11, (s14, ())))))))), (((), ()), (key, (s6, (w, ())))))) (fun y0 y1 y2 y3 y4 y5 y6 y7 => kq (.exit 2) (Jg4.inst ((y0, (y1, ((), ((), ((), (y2, (y3, (y4, ())))))))), (((), ()), (y5, (y6, (y7, ()))))))) x.1.1 x.1.2.1 x.1.2.2.2.2.2.1 x.1.2.2.2.2.2.2.1 x.1.2.2.2.2.2.2.2.1 x.2.2.1 x.2.2.2.1 x.2.2.2.2.1
def Knx (F m : Nat) (x : Jg4.T) (kq : ZK) : ZO := Jhl F none (fun y0 y1 y2 y3 y4 y5 y6 y7 => kq (.exit 2) (Jg4.inst ((y0, (y1, ((), ((), ((), (y2, (y3, (y4, ())))))))), (((), ()), (y5, (y6, (y7, ()))))))) m x.1.1 x.1.2.1 x.1.2.2.2.2.2.1 x.1.2.2.2.2.2.2.1 x.1.2.2.2.2.2.2.2.1 x.2.2.1 x.2.2.2.1 x.2.2.2.2.1
def Kny (F : Nat) (nx : Jg5.T → ZO) (kq : ZK) (x : Jg5.T) : ZO := Jwt F none (fun nonce counter s11 key s6 w => nx ((nonce, (counter, ((), ((), ((), (s11, ())))))), (((), ()), (key, (s6, (w, ())))))) (fun y0 y1 y2 y3 y4 y5 => kq (.exit 0) (Jg5.inst ((y0, (y1, ((), ((), ((), (y2, ())))))), (((), ()), (y3, (y4, (y5, ()))))))) x.1.1 x.1.2.1 x.1.2.2.2.2.2.1 x.2.2.1 x.2.2.2.1 x.2.2.2.2.1
def Knz (F m : Nat) (x : Jg5.T) (kq : ZK) : ZO := Jkr F none (fun y0 y1 y2 y3 y4 y5 => kq (.exit 0) (Jg5.inst ((y0, (y1, ((), ((), ((), (y2, ())))))), (((), ()), (y3, (y4, (y5, ()))))))) m x.1.1 x.1.2.1 x.1.2.2.2.2.2.1 x.2.2.1 x.2.2.2.1 x.2.2.2.2.1
def Kie (F : Nat) : List (LoE Unit) := [⟨143, 6, LO.of Jg4 (Knx F F)⟩,
 ⟨143, 3, LO.of Jg5 (Knz F F)⟩]
def Jpc (F : Nat) : Jcz Unit := { toBook := J0d, lo := Jd7 (Kie F), need := Jbr [] }
theorem J7d (F : Nat) : Jc4 prog (Jpc F) F 143 1 6 Jg4 (Knw F) := fun d x KQ => by kernel_rfl
theorem J7e (F : Nat) : Jc4 prog (Jpc F) F 143 0 3 Jg5 (Kny F) := fun d x KQ => by kernel_rfl
theorem Kn0 (F : Nat) : Jky prog (Jpc F) F := Jb0 (l := Kie F) rfl (fa (Jaw 1 (by kernel_rfl) (by kernel_rfl) (Jak (J7d F) (fun _ _ => rfl) (fun _ _ _ _ => rfl))) (fa (Jaw 0 (by kernel_rfl) (by kernel_rfl) (Jak (J7e F) (fun _ _ => rfl) (fun _ _ _ _ => rfl))) fz))
theorem Kt0 (F : Nat) (x : Jbo J4k) (kend : List BV → ZO) : Jau prog (Jpc F) F 20 143 (Jaf J4k x) [.d (.arr 16 (.int .u32))] kend = Kxi F x.1 x.2.1 x.2.2.1 none (fun y0 => kend [BV.d (.arr 16 (.int .u32)) y0]) := by kernel_rfl
theorem J4l  : Jae prog 143 J9g := Ja4 (B0 := J0d) bkN bkG Jaz bkT Kt0 (Jad fz) (by kernel_rfl) (fun _ => rfl) Kn0 (fun x h => (Kg0 x.1 x.2.1 x.2.2.1 h).elim fun F hF => ⟨F, fun kend => hF none _⟩)
@[reducible] def Kn1  : List PM := [.d (.arr 32 (.int .u8)), .d (.int .i64), .d (.int .i64)]
def Kro  : Orc := Orc.of Kn1 true 1 fun x => (Kp8 x.1 x.2.1 x.2.2.1, [.o 5 (.int .u8) (Kp9 x.1 x.2.1 x.2.2.1)])
@[reducible] def Jlm  : Tpl := { cur := ⟨[(0, .ptr 0 []), (29, .var (.arr 4 (.pair (.int .i64) (.pair (.int .i64) (.pair (.int .i64) (.pair (.int .i64) .unit)))))), (0, .var (.int .i64))], 39⟩, stk := [⟨[(2, .mv 158 (.pr (.ptr 0 []) (.un))), (4, .var (.int .i64)), (1, .var (.int .i64))], 32⟩, ⟨[(7, .ptr 1 []), (0, .ptr 0 [])], 35⟩, ⟨[], 0⟩], heap := [.box (.var (.arr 16 (.int .u32))), .box (.var (.arr 16 (.int .u32)))] }
@[reducible] def Jln  : Tpl := { cur := ⟨[(2, .mv 158 (.pr (.ptr 0 []) (.un))), (4, .var (.int .i64)), (1, .var (.int .i64))], 32⟩, stk := [⟨[(7, .ptr 1 []), (0, .ptr 0 [])], 35⟩, ⟨[], 0⟩], heap := [.box (.var (.arr 16 (.int .u32))), .box (.var (.arr 16 (.int .u32)))] }
@[reducible] def Jlo  : Tpl := { cur := ⟨[(0, .ptr 0 []), (29, .var (.arr 4 (.pair (.int .i64) (.pair (.int .i64) (.pair (.int .i64) (.pair (.int .i64) .unit)))))), (0, .var (.int .i64))], 39⟩, stk := [⟨[(2, .mv 158 (.pr (.ptr 0 []) (.un))), (4, .var (.int .i64)), (14, .var (.int .i64))], 19⟩, ⟨[(7, .ptr 1 []), (0, .ptr 0 [])], 35⟩, ⟨[], 0⟩], heap := [.box (.var (.arr 16 (.int .u32))), .box (.var (.arr 16 (.int .u32)))] }
@[reducible] def Jlp  : Tpl := { cur := ⟨[(2, .mv 158 (.pr (.ptr 0 []) (.un))), (4, .var (.int .i64)), (14, .var (.int .i64))], 19⟩, stk := [⟨[(7, .ptr 1 []), (0, .ptr 0 [])], 35⟩, ⟨[], 0⟩], heap := [.box (.var (.arr 16 (.int .u32))), .box (.var (.arr 16 (.int .u32)))] }
@[reducible] def Jlq  : Tpl := { cur := ⟨[(2, .mv 158 (.pr (.ptr 0 []) (.un))), (4, .var (.int .i64))], 34⟩, stk := [⟨[(7, .ptr 1 []), (0, .ptr 0 [])], 35⟩, ⟨[], 0⟩], heap := [.box (.var (.arr 16 (.int .u32))), .box (.var (.arr 16 (.int .u32)))] }
@[reducible] def Jlr  : Tpl := { cur := ⟨[(7, .ptr 0 []), (1, .row 1), (8, .var (.arr 16 (.int .u32))), (0, .var (.int .i64))], 24⟩, stk := [⟨[], 0⟩], heap := [.box (.var (.arr 16 (.int .u32))), .row 5 (.int .u8) false] }
def Kzw  : List (FuncId × Orc) := [(143, J9g), (169, Kid)]
def J9h  : Book := { Γ := gam, orc := Jcg Kzw, hint := Jbq [(106, { keep := some [7, 9, 18, 19], keeps := [(6, [7, 9, 18, 19])], own := [(9, 24)], dat := [], stk := [] }), (144, { keep := some [2, 7, 9, 22], keeps := [(2, [2, 7]), (4, [2, 7, 9]), (9, [2, 7, 22])], own := [], dat := [], stk := [[7, 8]] }), (158, { keep := some [0, 30, 31], keeps := [(2, [0, 30, 31])], own := [], dat := [], stk := [[2, 7, 9, 22], [7, 8]] })] }
def Kzx (F : Nat) (nx : Jlm.T → ZO) (kq : ZK) (x : Jlm.T) : ZO := Kbn F none (fun s30 s31 s7 s9 w w1 => nx (((), (s30, (s31, ()))), (((((), ()), (s7, (s9, ()))), (((), ((), ())), ((), ()))), (w, (w1, ()))))) (fun y0 y1 y2 y3 y4 y5 => kq (.exit 0) (Jlm.inst (((), (y0, (y1, ()))), (((((), ()), (y2, (y3, ()))), (((), ((), ())), ((), ()))), (y4, (y5, ())))))) x.1.2.1 x.1.2.2.1 x.2.1.1.2.1 x.2.1.1.2.2.1 x.2.2.1 x.2.2.2.1
def Kzy (F m : Nat) (x : Jlm.T) (kq : ZK) : ZO := Jj8 F none (fun y0 y1 y2 y3 y4 y5 => kq (.exit 0) (Jlm.inst (((), (y0, (y1, ()))), (((((), ()), (y2, (y3, ()))), (((), ((), ())), ((), ()))), (y4, (y5, ())))))) m x.1.2.1 x.1.2.2.1 x.2.1.1.2.1 x.2.1.1.2.2.1 x.2.2.1 x.2.2.2.1
def Kzz (F : Nat) (nx : Jln.T → ZO) (kq : ZK) (x : Jln.T) : ZO := Kbo F none (fun s7 s9 change w => nx ((((), ()), (s7, (s9, ()))), ((((), ((), ())), ((), ())), (change, (w, ()))))) (fun y0 y1 y2 y3 => kq (.exit 2) (Jln.inst ((((), ()), (y0, (y1, ()))), ((((), ((), ())), ((), ())), (y2, (y3, ())))))) x.1.2.1 x.1.2.2.1 x.2.2.1 x.2.2.2.1
def Kz0 (F m : Nat) (x : Jln.T) (kq : ZK) : ZO := Jor F none (fun y0 y1 y2 y3 => kq (.exit 2) (Jln.inst ((((), ()), (y0, (y1, ()))), ((((), ((), ())), ((), ())), (y2, (y3, ())))))) m x.1.2.1 x.1.2.2.1 x.2.2.1 x.2.2.2.1
def Kz1 (F : Nat) (nx : Jlo.T → ZO) (kq : ZK) (x : Jlo.T) : ZO := Kbp F none (fun s30 s31 s7 s22 w w1 => nx (((), (s30, (s31, ()))), (((((), ()), (s7, (s22, ()))), (((), ((), ())), ((), ()))), (w, (w1, ()))))) (fun y0 y1 y2 y3 y4 y5 => kq (.exit 0) (Jlo.inst (((), (y0, (y1, ()))), (((((), ()), (y2, (y3, ()))), (((), ((), ())), ((), ()))), (y4, (y5, ())))))) x.1.2.1 x.1.2.2.1 x.2.1.1.2.1 x.2.1.1.2.2.1 x.2.2.1 x.2.2.2.1
def Kz2 (F m : Nat) (x : Jlo.T) (kq : ZK) : ZO := Jj9 F none (fun y0 y1 y2 y3 y4 y5 => kq (.exit 0) (Jlo.inst (((), (y0, (y1, ()))), (((((), ()), (y2, (y3, ()))), (((), ((), ())), ((), ()))), (y4, (y5, ())))))) m x.1.2.1 x.1.2.2.1 x.2.1.1.2.1 x.2.1.1.2.2.1 x.2.2.1 x.2.2.2.1
def Kz3 (F : Nat) (nx : Jlp.T → ZO) (kq : ZK) (x : Jlp.T) : ZO := Kbq F none (fun s7 s22 change w => nx ((((), ()), (s7, (s22, ()))), ((((), ((), ())), ((), ())), (change, (w, ()))))) (fun y0 y1 y2 y3 => kq (.exit 4) (Jlp.inst ((((), ()), (y0, (y1, ()))), ((((), ((), ())), ((), ())), (y2, (y3, ())))))) x.1.2.1 x.1.2.2.1 x.2.2.1 x.2.2.2.1
def Kz4 (F m : Nat) (x : Jlp.T) (kq : ZK) : ZO := Jos F none (fun y0 y1 y2 y3 => kq (.exit 4) (Jlp.inst ((((), ()), (y0, (y1, ()))), ((((), ((), ())), ((), ())), (y2, (y3, ())))))) m x.1.2.1 x.1.2.2.1 x.2.2.1 x.2.2.2.1
def Kz5 (F : Nat) (nx : Jlq.T → ZO) (kq : ZK) (x : Jlq.T) : ZO := Kbr F none (fun s7 change w => nx ((((), ()), (s7, ())), ((((), ((), ())), ((), ())), (change, (w, ()))))) (fun y0 y1 y2 => kq (.exit 0) (Jlq.inst ((((), ()), (y0, ())), ((((), ((), ())), ((), ())), (y1, (y2, ())))))) x.1.2.1 x.2.2.1 x.2.2.2.1
def Kz6 (F m : Nat) (x : Jlq.T) (kq : ZK) : ZO := Jsj F none (fun y0 y1 y2 => kq (.exit 0) (Jlq.inst ((((), ()), (y0, ())), ((((), ((), ())), ((), ())), (y1, (y2, ())))))) m x.1.2.1 x.2.2.1 x.2.2.2.1
def Kz7 (F : Nat) (nx : Jlr.T → ZO) (kq : ZK) (x : Jlr.T) : ZO := Kbs F none (fun s18 s19 w out => nx (((), ((), (s18, (s19, ())))), (((), ()), (w, (out, ()))))) (fun y0 y1 y2 y3 => kq (.exit 0) (Jlr.inst (((), ((), (y0, (y1, ())))), (((), ()), (y2, (y3, ())))))) x.1.2.2.1 x.1.2.2.2.1 x.2.2.1 x.2.2.2.1
def Kz8 (F m : Nat) (x : Jlr.T) (kq : ZK) : ZO := Jsk F none (fun y0 y1 y2 y3 => kq (.exit 0) (Jlr.inst (((), ((), (y0, (y1, ())))), (((), ()), (y2, (y3, ())))))) m x.1.2.2.1 x.1.2.2.2.1 x.2.2.1 x.2.2.2.1
def Kz9 (F : Nat) : List (LoE Unit) := [⟨158, 2, LO.orT Jlm (Kzy F F) (LO.of Jlo (Kz2 F F))⟩,
 ⟨144, 4, LO.of Jln (Kz0 F F)⟩,
 ⟨144, 9, LO.of Jlp (Kz4 F F)⟩,
 ⟨144, 2, LO.of Jlq (Kz6 F F)⟩,
 ⟨106, 6, LO.of Jlr (Kz8 F F)⟩]
def Jje (F : Nat) : Jcz Unit := { toBook := J9h, lo := Jd7 (Kz9 F), need := Jbr [(144, 1)] }
theorem Kif (F : Nat) : Jc4 prog (Jje F) F 158 0 2 Jlm (Kzx F) := fun d x KQ => by kernel_rfl
theorem Kig (F : Nat) : Jc4 prog (Jje F) F 144 1 4 Jln (Kzz F) := fun d x KQ => by kernel_rfl
theorem Kih (F : Nat) : Jc4 prog (Jje F) F 158 0 2 Jlo (Kz1 F) := fun d x KQ => by kernel_rfl
theorem Kii (F : Nat) : Jc4 prog (Jje F) F 144 2 9 Jlp (Kz3 F) := fun d x KQ => by kernel_rfl
theorem Kij (F : Nat) : Jc4 prog (Jje F) F 144 0 2 Jlq (Kz5 F) := fun d x KQ => by kernel_rfl
theorem Kik (F : Nat) : Jc4 prog (Jje F) F 106 0 6 Jlr (Kz7 F) := fun d x KQ => by kernel_rfl
theorem K0a (F : Nat) : Jky prog (Jje F) F := Jb0 (l := Kz9 F) rfl (fa (Jaw 0 (by kernel_rfl) (by kernel_rfl) (Ka1 (Jak (Kif F) (fun _ _ => rfl) (fun _ _ _ _ => rfl)) (Jak (Kih F) (fun _ _ => rfl) (fun _ _ _ _ => rfl)))) (fa (Jaw 1 (by kernel_rfl) (by kernel_rfl) (Jak (Kig F) (fun _ _ => rfl) (fun _ _ _ _ => rfl))) (fa (Jaw 2 (by kernel_rfl) (by kernel_rfl) (Jak (Kii F) (fun _ _ => rfl) (fun _ _ _ _ => rfl))) (fa (Jaw 0 (by kernel_rfl) (by kernel_rfl) (Jak (Kij F) (fun _ _ => rfl) (fun _ _ _ _ => rfl))) (fa (Jaw 0 (by kernel_rfl) (by kernel_rfl) (Jak (Kik F) (fun _ _ => rfl) (fun _ _ _ _ => rfl))) fz)))))
theorem K4i (F : Nat) (x : Jbo Kn1) (kend : List BV → ZO) : Jau prog (Jje F) F 20 106 (Jaf Kn1 x) [.o 5 (.int .u8)] kend = cBlk F x.1 x.2.1 x.2.2.1 none (fun y0 => kend [BV.o 5 (.int .u8) y0]) := by kernel_rfl
theorem Kdp  : Jae prog 106 Kro := Ja4 (B0 := J9h) bkN bkG Jaz bkT K4i (Jad (fa J4l (fa J7c fz))) (by kernel_rfl) (fun _ => rfl) K0a (fun x h => (Ks9 x.1 x.2.1 x.2.2.1 h).elim fun F hF => ⟨F, fun kend => hF none _⟩)
@[reducible] def J4m  : List PM := [.d (.int .i64)]
def Jy7  : Orc := Orc.of J4m true 0 fun x => (true, [.d .bool (Jod x.1)])
def J4n  : List (FuncId × Orc) := []
theorem Kt1 (F : Nat) (x : Jbo J4m) (kend : List BV → ZO) : Jau prog (bkZ J4n) F 20 104 (Jaf J4m x) [.d .bool] kend = Kxj F x.1 none (fun y0 => kend [BV.d .bool y0]) := by kernel_rfl
theorem Jrd  : Jae prog 104 Jy7 := Ja4 (B0 := bkY J4n) bkN bkG Jaz bkT Kt1 (Jad fz) (by kernel_rfl) (fun _ => rfl) (bkO _) (fun x _ => (Kg1 x.1).elim fun F hF => ⟨F, fun kend => hF none _⟩)
end Go.AI
namespace Go.AI
open Go
open Go.Proofs.Tryz (prog)
set_option linter.unusedVariables false
@[reducible] def Jpd  : List PM := [.d (.slc (.int .u8)), .d (.slc (.int .u8))]
def Jts  : Orc := Orc.of Jpd true 0 fun x => (Jhe x.1 x.2.1, [.d .bool (Jhf x.1 x.2.1)])
@[reducible] def Jcx  : Tpl := { cur := ⟨[(0, .var (.slc (.int .u8))), (0, .var (.slc (.int .u8))), (2, .var .bool), (7, .var (.int .i64)), (0, .var (.int .i64))], 12⟩, stk := [⟨[], 0⟩], heap := [] }
def J4o  : List (FuncId × Orc) := []
def Jpw  : Book := { Γ := gam, orc := Jcg J4o, hint := Jbq [(117, { keep := some [0, 1, 4, 12, 13], keeps := [(4, [0, 1, 4, 12, 13])], own := [], dat := [], stk := [] })] }
def J4p (F : Nat) (nx : Jcx.T → ZO) (kq : ZK) (x : Jcx.T) : ZO := Jj7 F none (fun s1 s2 s4 s12 s13 => nx ((s1, (s2, (s4, (s12, (s13, ()))))), (((), ()), ()))) (fun y0 y1 y2 y3 y4 => kq .ret (Jcx.inst ((y0, (y1, (y2, (y3, (y4, ()))))), (((), ()), ())))) (fun y0 y1 y2 y3 y4 => kq (.exit 0) (Jcx.inst ((y0, (y1, (y2, (y3, (y4, ()))))), (((), ()), ())))) x.1.1 x.1.2.1 x.1.2.2.1 x.1.2.2.2.1 x.1.2.2.2.2.1
def J4q (F m : Nat) (x : Jcx.T) (kq : ZK) : ZO := Jfi F none (fun y0 y1 y2 y3 y4 => kq .ret (Jcx.inst ((y0, (y1, (y2, (y3, (y4, ()))))), (((), ()), ())))) (fun y0 y1 y2 y3 y4 => kq (.exit 0) (Jcx.inst ((y0, (y1, (y2, (y3, (y4, ()))))), (((), ()), ())))) m x.1.1 x.1.2.1 x.1.2.2.1 x.1.2.2.2.1 x.1.2.2.2.2.1
def Jxi (F : Nat) : List (LoE Unit) := [⟨117, 4, LO.of Jcx (J4q F F)⟩]
def Jls (F : Nat) : Jcz Unit := { toBook := Jpw, lo := Jd7 (Jxi F), need := Jbr [] }
theorem Jxj (F : Nat) : Jc4 prog (Jls F) F 117 0 4 Jcx (J4p F) := fun d x KQ => by kernel_rfl
theorem J4r (F : Nat) : Jky prog (Jls F) F := Jb0 (l := Jxi F) rfl (fa (Jaw 0 (by kernel_rfl) (by kernel_rfl) (Jak (Jxj F) (fun _ _ => rfl) (fun _ _ _ _ => rfl))) fz)
theorem J7f (F : Nat) (x : Jbo Jpd) (kend : List BV → ZO) : Jau prog (Jls F) F 20 117 (Jaf Jpd x) [.d .bool] kend = Jys F x.1 x.2.1 none (fun y0 => kend [BV.d .bool y0]) := by kernel_rfl
theorem Ju6  : Jae prog 117 Jts := Ja4 (B0 := Jpw) bkN bkG Jaz bkT J7f (Jad fz) (by kernel_rfl) (fun _ => rfl) J4r (fun x h => (J0y x.1 x.2.1 h).elim fun F hF => ⟨F, fun kend => hF none _⟩)
@[reducible] def Jy8  : List PM := [.d (.arr 32 (.int .u8)), .d (.int .i64), .d (.slc (.int .u8))]
def Ju7  : Orc := Orc.of Jy8 true 1 fun x => (Jk9 x.1 x.2.1 x.2.2.1, [.o 5 (.int .u8) (Jik x.1 x.2.1 x.2.2.1), .d (.int .i64) (Jgb x.1 x.2.1 x.2.2.1)])
@[reducible] def Jf2  : Tpl := { cur := ⟨[(9, .ptr 0 []), (0, .sl 1), (0, .row 2), (19, .var (.int .i64)), (0, .var (.int .i64))], 16⟩, stk := [⟨[(0, .hnd .yield 3)], 0⟩, ⟨[(0, .hnd .yield 3), (0, .ptr 6 []), (0, .ptr 7 []), (1, .var (.int .i64))], 26⟩, ⟨[(0, .hnd .yield 3)], 0⟩, ⟨[(2, .var (.slc (.int .u8))), (0, .ptr 4 []), (0, .ptr 5 []), (1, .nils), (0, .var (.int .i64)), (0, .row 1), (0, .ptr 0 [])], 39⟩, ⟨[], 0⟩], heap := [.box (.var (.int .i64)), .row 5 (.int .u8) false, .row 5 (.int .u8) false, .lp 56 8 ⟨[(3, .ptr 4 []), (0, .ptr 5 []), (4, .ptr 0 [])], 39⟩ .busy, .box (.var (.arr 32 (.int .u8))), .box (.var (.int .i64)), .box (.row 1), .box (.var (.int .i64))] }
@[reducible] def Jf3  : Tpl := { cur := ⟨[(0, .hnd .yield 0), (0, .ptr 4 []), (0, .ptr 6 []), (1, .var (.int .i64))], 26⟩, stk := [⟨[(0, .hnd .yield 0)], 0⟩, ⟨[(2, .var (.slc (.int .u8))), (0, .ptr 1 []), (0, .ptr 2 []), (1, .nils), (0, .var (.int .i64)), (0, .row 5), (0, .ptr 3 [])], 39⟩, ⟨[], 0⟩], heap := [.lp 56 8 ⟨[(3, .ptr 1 []), (0, .ptr 2 []), (4, .ptr 3 [])], 39⟩ .ready, .box (.var (.arr 32 (.int .u8))), .box (.var (.int .i64)), .box (.var (.int .i64)), .box (.row 5), .row 5 (.int .u8) false, .box (.var (.int .i64))] }
def Kil  : List (FuncId × Orc) := [(100, Jfk), (104, Jy7), (106, Kro)]
def Jxk  : Book := { Γ := gam, orc := Jcg Kil, hint := Jbq [(56, { keep := some [9, 10, 11, 31, 32], keeps := [(11, [9, 10, 11, 31, 32])], own := [], dat := [], stk := [[0], [0, 1, 2, 4], [0], [2, 3, 4, 6, 7, 8, 9, 10, 11, 12, 25, 31, 32, 33]] }), (142, { keep := some [0, 1, 2, 4], keeps := [(1, [0, 1, 2, 4])], own := [], dat := [], stk := [[0], [2, 3, 4, 6, 7, 8, 9, 10, 11, 12, 25, 31, 32, 33]] })] }
def Kim (F : Nat) (nx : Jf2.T → ZO) (kq : ZK) (x : Jf2.T) : ZO := Jsl F none (fun part_i part_n s31 s32 i b s7 counter part s key nonce s2 => nx (((), ((part_i, part_n), ((), (s31, (s32, ()))))), ((((), ()), (((), ((), ((), (i, ())))), (((), ()), ((b, ((), ((), ((), (s7, ((), ((), ()))))))), ((), ()))))), (counter, (part, (s, (((), ((), ((), ()))), (key, (nonce, ((), (s2, ()))))))))))) (fun y0 y1 y2 y3 y4 y5 y6 y7 y8 y9 y10 y11 y12 => kq (.exit 3) (Jf2.inst (((), ((y0, y1), ((), (y2, (y3, ()))))), ((((), ()), (((), ((), ((), (y4, ())))), (((), ()), ((y5, ((), ((), ((), (y6, ((), ((), ()))))))), ((), ()))))), (y7, (y8, (y9, (((), ((), ((), ()))), (y10, (y11, ((), (y12, ())))))))))))) x.1.2.1.1 x.1.2.1.2 x.1.2.2.2.1 x.1.2.2.2.2.1 x.2.1.2.1.2.2.2.1 x.2.1.2.2.2.1.1 x.2.1.2.2.2.1.2.2.2.2.1 x.2.2.1 x.2.2.2.1 x.2.2.2.2.1 x.2.2.2.2.2.2.1 x.2.2.2.2.2.2.2.1 x.2.2.2.2.2.2.2.2.2.1
def Kin (F m : Nat) (x : Jf2.T) (kq : ZK) : ZO := Jip F none (fun y0 y1 y2 y3 y4 y5 y6 y7 y8 y9 y10 y11 y12 => kq (.exit 3) (Jf2.inst (((), ((y0, y1), ((), (y2, (y3, ()))))), ((((), ()), (((), ((), ((), (y4, ())))), (((), ()), ((y5, ((), ((), ((), (y6, ((), ((), ()))))))), ((), ()))))), (y7, (y8, (y9, (((), ((), ((), ()))), (y10, (y11, ((), (y12, ())))))))))))) m x.1.2.1.1 x.1.2.1.2 x.1.2.2.2.1 x.1.2.2.2.2.1 x.2.1.2.1.2.2.2.1 x.2.1.2.2.2.1.1 x.2.1.2.2.2.1.2.2.2.2.1 x.2.2.1 x.2.2.2.1 x.2.2.2.2.1 x.2.2.2.2.2.2.1 x.2.2.2.2.2.2.2.1 x.2.2.2.2.2.2.2.2.2.1
def Kio (F : Nat) (nx : Jf3.T → ZO) (kq : ZK) (x : Jf3.T) : ZO := Jnc F none (fun i b s7 key nonce counter out s2 => nx (((), ((), ((), (i, ())))), ((((), ()), ((b, ((), ((), ((), (s7, ((), ((), ()))))))), ((), ()))), (((), ((), ((), ()))), (key, (nonce, (counter, ((), (out, (s2, ())))))))))) (fun y0 y1 y2 y3 y4 y5 y6 y7 => kq (.exit 0) (Jf3.inst (((), ((), ((), (y0, ())))), ((((), ()), ((y1, ((), ((), ((), (y2, ((), ((), ()))))))), ((), ()))), (((), ((), ((), ()))), (y3, (y4, (y5, ((), (y6, (y7, ()))))))))))) x.1.2.2.2.1 x.2.1.2.1.1 x.2.1.2.1.2.2.2.2.1 x.2.2.2.1 x.2.2.2.2.1 x.2.2.2.2.2.1 x.2.2.2.2.2.2.2.1 x.2.2.2.2.2.2.2.2.1
def Kip (F m : Nat) (x : Jf3.T) (kq : ZK) : ZO := Jgu F none (fun y0 y1 y2 y3 y4 y5 y6 y7 => kq (.exit 0) (Jf3.inst (((), ((), ((), (y0, ())))), ((((), ()), ((y1, ((), ((), ((), (y2, ((), ((), ()))))))), ((), ()))), (((), ((), ((), ()))), (y3, (y4, (y5, ((), (y6, (y7, ()))))))))))) m x.1.2.2.2.1 x.2.1.2.1.1 x.2.1.2.1.2.2.2.2.1 x.2.2.2.1 x.2.2.2.2.1 x.2.2.2.2.2.1 x.2.2.2.2.2.2.2.1 x.2.2.2.2.2.2.2.2.1
def J9i (F : Nat) : List (LoE Unit) := [⟨56, 11, LO.of Jf2 (Kin F F)⟩,
 ⟨142, 1, LO.of Jf3 (Kip F F)⟩]
def Jmi (F : Nat) : Jcz Unit := { toBook := Jxk, lo := Jd7 (J9i F), need := Jbr [(142, 1)] }
theorem J4s (F : Nat) : Jc4 prog (Jmi F) F 56 0 11 Jf2 (Kim F) := fun d x KQ => by kernel_rfl
theorem J4t (F : Nat) : Jc4 prog (Jmi F) F 142 0 1 Jf3 (Kio F) := fun d x KQ => by kernel_rfl
theorem Kiq (F : Nat) : Jky prog (Jmi F) F := Jb0 (l := J9i F) rfl (fa (Jaw 0 (by kernel_rfl) (by kernel_rfl) (Jak (J4s F) (fun _ _ => rfl) (fun _ _ _ _ => rfl))) (fa (Jaw 0 (by kernel_rfl) (by kernel_rfl) (Jak (J4t F) (fun _ _ => rfl) (fun _ _ _ _ => rfl))) fz))
theorem Kn2 (F : Nat) (x : Jbo Jy8) (kend : List BV → ZO) : Jau prog (Jmi F) F 20 56 (Jaf Jy8 x) [.o 5 (.int .u8), .d (.int .i64)] kend = Klq F x.1 x.2.1 x.2.2.1 none (fun y0 y1 => kend [BV.o 5 (.int .u8) y0, BV.d (.int .i64) y1]) := by kernel_rfl
theorem Jpx  : Jae prog 56 Ju7 := Ja4 (B0 := Jxk) bkN bkG Jaz bkT Kn2 (Jad (fa Jd0 (fa Jrd (fa Kdp fz)))) (by kernel_rfl) (fun _ => rfl) Kiq (fun x h => (Kcl x.1 x.2.1 x.2.2.1 h).elim fun F hF => ⟨F, fun kend => hF none _⟩)
@[reducible] def Kdq  : List PM := [.d (.slc (.int .u8))]
def J4u  : Orc := Orc.of Kdq true 0 fun x => (Joe x.1, [.d (.arr 32 (.int .u8)) (Jfn x.1), .d (.arr 32 (.int .u8)) (Jgn x.1)])
def J9j  : List (FuncId × Orc) := [(103, J2a)]
theorem K0b (F : Nat) (x : Jbo Kdq) (kend : List BV → ZO) : Jau prog (bkZ J9j) F 20 55 (Jaf Kdq x) [.d (.arr 32 (.int .u8)), .d (.arr 32 (.int .u8))] kend = K64 F x.1 none (fun y0 y1 => kend [BV.d (.arr 32 (.int .u8)) y0, BV.d (.arr 32 (.int .u8)) y1]) := by kernel_rfl
theorem Jtt  : Jae prog 55 J4u := Ja4 (B0 := bkY J9j) bkN bkG Jaz bkT K0b (Jad (fa Jpb fz)) (by kernel_rfl) (fun _ => rfl) (bkO _) (fun x h => (Kmg x.1 h).elim fun F hF => ⟨F, fun kend => hF none _⟩)
@[reducible] def Kn3  : List PM := [.d (.arr 32 (.int .u8)), .d (.int .i64), .d (.slc (.int .u8))]
def Krp  : Orc := Orc.of Kn3 false 0 fun x => (Jz3 x.1 x.2.1 x.2.2.1, [.d (.slc (.int .u8)) (Jz4 x.1 x.2.1 x.2.2.1)])
@[reducible] def Jlt  : Tpl := { cur := ⟨[(1, .var (.int .i64)), (0, .var (.slc (.int .u8))), (0, .ptr 0 []), (3, .row 1), (2, .var (.int .i64))], 17⟩, stk := [⟨[], 0⟩], heap := [.box (.var (.arr 32 (.int .u8))), .row 5 (.int .u8) false] }
def K0c  : List (FuncId × Orc) := [(103, J2a)]
def J9k  : Book := { Γ := gam, orc := Jcg K0c, hint := Jbq [(57, { keep := some [1, 2, 3, 7, 10], keeps := [(3, [1, 2, 3, 7, 10])], own := [(7, 24)], dat := [], stk := [] })] }
def K0d (F : Nat) (nx : Jlt.T → ZO) (kq : ZK) (x : Jlt.T) : ZO := Kbm F none (fun nonce b s10 key l => nx ((nonce, (b, ((), ((), (s10, ()))))), (((), ()), (key, (l, ()))))) (fun y0 y1 y2 y3 y4 => kq (.exit 0) (Jlt.inst ((y0, (y1, ((), ((), (y2, ()))))), (((), ()), (y3, (y4, ())))))) x.1.1 x.1.2.1 x.1.2.2.2.2.1 x.2.2.1 x.2.2.2.1
def K0e (F m : Nat) (x : Jlt.T) (kq : ZK) : ZO := Jsi F none (fun y0 y1 y2 y3 y4 => kq (.exit 0) (Jlt.inst ((y0, (y1, ((), ((), (y2, ()))))), (((), ()), (y3, (y4, ())))))) m x.1.1 x.1.2.1 x.1.2.2.2.2.1 x.2.2.1 x.2.2.2.1
def K0f (F : Nat) : List (LoE Unit) := [⟨57, 3, LO.of Jlt (K0e F F)⟩]
def J4v (F : Nat) : Jcz Unit := { toBook := J9k, lo := Jd7 (K0f F), need := Jbr [] }
theorem Kir (F : Nat) : Jc4 prog (J4v F) F 57 0 3 Jlt (K0d F) := fun d x KQ => by kernel_rfl
theorem K0g (F : Nat) : Jky prog (J4v F) F := Jb0 (l := K0f F) rfl (fa (Jaw 0 (by kernel_rfl) (by kernel_rfl) (Jak (Kir F) (fun _ _ => rfl) (fun _ _ _ _ => rfl))) fz)
theorem K4j (F : Nat) (x : Jbo Kn3) (kend : List BV → ZO) : Jau prog (J4v F) F 20 57 (Jaf Kn3 x) [.d (.slc (.int .u8))] kend = cTag F x.1 x.2.1 x.2.2.1 none (fun y0 => kend [BV.d (.slc (.int .u8)) y0]) := by kernel_rfl
theorem Kdr  : Jae prog 57 Krp := Ja4 (B0 := J9k) bkN bkG Jaz bkT K4j (Jad (fa Jpb fz)) (by kernel_rfl) (fun _ => rfl) K0g (fun x h => (Ktb x.1 x.2.1 x.2.2.1 h).elim fun F hF => ⟨F, fun kend => hF none _⟩)
@[reducible] def Jy9  : List PM := [.d (.slc (.int .u8))]
def Ju8  : Orc := Orc.of Jy9 true 0 fun x => (true, [.d .bool (Jla x.1)])
def J0e  : List (FuncId × Orc) := []
theorem Kn4 (F : Nat) (x : Jbo Jy9) (kend : List BV → ZO) : Jau prog (bkZ J0e) F 20 54 (Jaf Jy9 x) [.d .bool] kend = Klp F x.1 none (fun y0 => kend [BV.d .bool y0]) := by kernel_rfl
theorem Jpy  : Jae prog 54 Ju8 := Ja4 (B0 := bkY J0e) bkN bkG Jaz bkT Kn4 (Jad fz) (by kernel_rfl) (fun _ => rfl) (bkO _) (fun x _ => (Kcm x.1).elim fun F hF => ⟨F, fun kend => hF none _⟩)
@[reducible] def Kds  : List PM := [.d (.slc (.int .u8)), .d (.int .i64), .d (.slc (.int .u8))]
def Kis  : Orc := Orc.of Kds true 1 fun x => (Kbe x.1 x.2.1 x.2.2.1, [.o 5 (.int .u8) (Jof x.1 x.2.1 x.2.2.1), .d (.int .i64) (Jsc x.1 x.2.1 x.2.2.1)])
@[reducible] def Jis  : Tpl := { cur := ⟨[(1, .var (.int .i64)), (0, .row 0), (0, .ptr 1 []), (3, .row 2), (2, .var (.int .i64))], 17⟩, stk := [⟨[(0, .var (.slc (.int .u8))), (0, .var (.int .i64)), (0, .var (.slc (.int .u8))), (6, .ptr 3 []), (25, .row 0)], 5⟩, ⟨[], 0⟩], heap := [.row 5 (.int .u8) false, .box (.var (.arr 32 (.int .u8))), .row 5 (.int .u8) false, .box (.var (.arr 32 (.int .u8)))] }
def Kt2  : List (FuncId × Orc) := [(54, Ju8), (55, J4u), (56, Ju7), (103, J2a)]
def J4w  : Book := { Γ := gam, orc := Jcg Kt2, hint := Jbq [(57, { keep := some [1, 2, 3, 7, 10], keeps := [(3, [1, 2, 3, 7, 10])], own := [(7, 24)], dat := [], stk := [[0, 1, 2, 9, 35]] })] }
def Kt3 (F : Nat) (nx : Jis.T → ZO) (kq : ZK) (x : Jis.T) : ZO := J1y F none (fun nonce s10 key nonce1 b b1 Jpq l authenticate => nx ((nonce, ((), ((), ((), (s10, ()))))), (((key, (nonce1, (b, ((), ((), ()))))), ((), ())), (b1, (Jpq, (l, (authenticate, ()))))))) (fun y0 y1 y2 y3 y4 y5 y6 y7 y8 => kq (.exit 0) (Jis.inst ((y0, ((), ((), ((), (y1, ()))))), (((y2, (y3, (y4, ((), ((), ()))))), ((), ())), (y5, (y6, (y7, (y8, ())))))))) x.1.1 x.1.2.2.2.2.1 x.2.1.1.1 x.2.1.1.2.1 x.2.1.1.2.2.1 x.2.2.1 x.2.2.2.1 x.2.2.2.2.1 x.2.2.2.2.2.1
def Kt4 (F m : Nat) (x : Jis.T) (kq : ZK) : ZO := Jnb F none (fun y0 y1 y2 y3 y4 y5 y6 y7 y8 => kq (.exit 0) (Jis.inst ((y0, ((), ((), ((), (y1, ()))))), (((y2, (y3, (y4, ((), ((), ()))))), ((), ())), (y5, (y6, (y7, (y8, ())))))))) m x.1.1 x.1.2.2.2.2.1 x.2.1.1.1 x.2.1.1.2.1 x.2.1.1.2.2.1 x.2.2.1 x.2.2.2.1 x.2.2.2.2.1 x.2.2.2.2.2.1
def Krq (F : Nat) : List (LoE Unit) := [⟨57, 3, LO.of Jis (Kt4 F F)⟩]
def Jza (F : Nat) : Jcz Unit := { toBook := J4w, lo := Jd7 (Krq F), need := Jbr [] }
theorem Kdt (F : Nat) : Jc4 prog (Jza F) F 57 0 3 Jis (Kt3 F) := fun d x KQ => by kernel_rfl
theorem Kt5 (F : Nat) : Jky prog (Jza F) F := Jb0 (l := Krq F) rfl (fa (Jaw 0 (by kernel_rfl) (by kernel_rfl) (Jak (Kdt F) (fun _ _ => rfl) (fun _ _ _ _ => rfl))) fz)
theorem K0h (F : Nat) (x : Jbo Kds) (kend : List BV → ZO) : Jau prog (Jza F) F 20 25 (Jaf Kds x) [.o 5 (.int .u8), .d (.int .i64)] kend = K65 F x.1 x.2.1 x.2.2.1 none (fun y0 y1 => kend [BV.o 5 (.int .u8) y0, BV.d (.int .i64) y1]) := by kernel_rfl
theorem J7g  : Jae prog 25 Kis := Ja4 (B0 := J4w) bkN bkG Jaz bkT K0h (Jad (fa Jpy (fa Jtt (fa Jpx (fa Jpb fz))))) (by kernel_rfl) (fun _ => rfl) Kt5 (fun x h => (Kmi x.1 x.2.1 x.2.2.1 h).elim fun F hF => ⟨F, fun kend => hF none _⟩)
@[reducible] def J2b  : List PM := [.d (.slc (.int .u8)), .d (.int .i64), .d (.slc (.int .u8))]
def Kit  : Orc := Orc.of J2b true 1 fun x => (Jyl x.1 x.2.1 x.2.2.1, [.o 5 (.int .u8) (Jh1 x.1 x.2.1 x.2.2.1), .d (.int .i64) (Jjz x.1 x.2.1 x.2.2.1)])
def J9l  : List (FuncId × Orc) := [(54, Ju8), (55, J4u), (56, Ju7), (57, Krp), (104, Jy7), (117, Jts)]
theorem K0i (F : Nat) (x : Jbo J2b) (kend : List BV → ZO) : Jau prog (bkZ J9l) F 20 70 (Jaf J2b x) [.o 5 (.int .u8), .d (.int .i64)] kend = K66 F x.1 x.2.1 x.2.2.1 none (fun y0 y1 => kend [BV.o 5 (.int .u8) y0, BV.d (.int .i64) y1]) := by kernel_rfl
theorem J7h  : Jae prog 70 Kit := Ja4 (B0 := bkY J9l) bkN bkG Jaz bkT K0i (Jad (fa Jpy (fa Jtt (fa Jpx (fa Kdr (fa Jrd (fa Ju6 fz))))))) (by kernel_rfl) (fun _ => rfl) (bkO _) (fun x h => (Kmj x.1 x.2.1 x.2.2.1 h).elim fun F hF => ⟨F, fun kend => hF none _⟩)
end Go.AI
namespace Go.AI
open Go
open Go.Proofs.Tryz (prog)
set_option linter.unusedVariables false
@[reducible] def J4x  : List PM := [.d (.slc (.arr 16 (.int .u8)))]
def Jno  : Orc := Orc.of J4x true 1 fun x => (Jhy x.1, [.o 93 (.arr 16 (.int .u8)) (Joa x.1)])
def J4y  : List (FuncId × Orc) := []
theorem Kt6 (F : Nat) (x : Jbo J4x) (kend : List BV → ZO) : Jau prog (bkZ J4y) F 20 86 (Jaf J4x x) [.o 93 (.arr 16 (.int .u8))] kend = Kxb F x.1 none Jmt (fun y0 => kend [BV.o 93 (.arr 16 (.int .u8)) y0]) := by kernel_rfl
theorem Jh7  : Jae prog 86 Jno := Ja4 (B0 := bkY J4y) bkN bkG Jaz bkT Kt6 (Jad fz) (by kernel_rfl) (fun _ => rfl) (bkO _) (fun x h => (Kge x.1 h).elim fun F hF => ⟨F, fun kend => hF none Jmt Jwd _⟩)
@[reducible] def J4z  : List PM := [.d (.slc (.pair (.int .i64) (.pair (.arr 16 (.int .u8)) .unit)))]
def J9m  : Orc := Orc.of J4z true 1 fun x => (Jwe x.1, [.o 155 (.pair (.int .i64) (.pair (.arr 16 (.int .u8)) .unit)) (J1r x.1)])
def J40  : List (FuncId × Orc) := []
theorem Kt7 (F : Nat) (x : Jbo J4z) (kend : List BV → ZO) : Jau prog (bkZ J40) F 20 96 (Jaf J4z x) [.o 155 (.pair (.int .i64) (.pair (.arr 16 (.int .u8)) .unit))] kend = Kxc F x.1 none Jmt (fun y0 => kend [BV.o 155 (.pair (.int .i64) (.pair (.arr 16 (.int .u8)) .unit)) y0]) := by kernel_rfl
theorem J41  : Jae prog 96 J9m := Ja4 (B0 := bkY J40) bkN bkG Jaz bkT Kt7 (Jad fz) (by kernel_rfl) (fun _ => rfl) (bkO _) (fun x h => (Kgf x.1 h).elim fun F hF => ⟨F, fun kend => hF none Jmt Jwd _⟩)
@[reducible] def Kdu  : List PM := [.d (.slc (.int .i64))]
def Kiu  : Orc := Orc.of Kdu true 1 fun x => (J3h x.1, [.o 3 (.int .i64) (Ka8 x.1)])
def J9n  : List (FuncId × Orc) := []
theorem K0j (F : Nat) (x : Jbo Kdu) (kend : List BV → ZO) : Jau prog (bkZ J9n) F 20 95 (Jaf Kdu x) [.o 3 (.int .i64)] kend = K61 F x.1 none Jmt (fun y0 => kend [BV.o 3 (.int .i64) y0]) := by kernel_rfl
theorem J7i  : Jae prog 95 Kiu := Ja4 (B0 := bkY J9n) bkN bkG Jaz bkT K0j (Jad fz) (by kernel_rfl) (fun _ => rfl) (bkO _) (fun x h => (Kl2 x.1 h).elim fun F hF => ⟨F, fun kend => hF none Jmt Jwd _⟩)
@[reducible] def Kdv  : List PM := [.d (.pair (.slc (.arr 16 (.int .u8))) (.pair (.slc (.pair (.int .i64) (.pair (.arr 16 (.int .u8)) .unit))) .unit)), .d (.int .i64), .d (.int .i64)]
def J42  : Orc := Orc.of Kdv true 0 fun x => (Jyj x.1 x.2.1 x.2.2.1, [.d .bool (Jqj x.1 x.2.1 x.2.2.1)])
def J9o  : List (FuncId × Orc) := []
theorem K0k (F : Nat) (x : Jbo Kdv) (kend : List BV → ZO) : Jau prog (bkZ J9o) F 20 85 (Jaf Kdv x) [.d .bool] kend = K62 F x.1 x.2.1 x.2.2.1 none (fun y0 => kend [BV.d .bool y0]) := by kernel_rfl
theorem Jtu  : Jae prog 85 J42 := Ja4 (B0 := bkY J9o) bkN bkG Jaz bkT K0k (Jad fz) (by kernel_rfl) (fun _ => rfl) (bkO _) (fun x h => (Kl3 x.1 x.2.1 x.2.2.1 h).elim fun F hF => ⟨F, fun kend => hF none _⟩)
@[reducible] def Kn5  : List PM := [.d (.int .i64)]
def Krr  : Orc := Orc.of Kn5 false 0 fun x => (Kw4 x.1, [.d (.pair (.slc (.arr 16 (.int .u8))) (.pair (.slc (.pair (.int .i64) (.pair (.arr 16 (.int .u8)) .unit))) .unit)) (Jk7 x.1), .d (.int .i64) (J3i x.1)])
def Kiv  : List (FuncId × Orc) := []
theorem K4k (F : Nat) (x : Jbo Kn5) (kend : List BV → ZO) : Jau prog (bkZ Kiv) F 20 84 (Jaf Kn5 x) [.d (.pair (.slc (.arr 16 (.int .u8))) (.pair (.slc (.pair (.int .i64) (.pair (.arr 16 (.int .u8)) .unit))) .unit)), .d (.int .i64)] kend = dNew F x.1 none (fun y0 y1 => kend [BV.d (.pair (.slc (.arr 16 (.int .u8))) (.pair (.slc (.pair (.int .i64) (.pair (.arr 16 (.int .u8)) .unit))) .unit)) y0, BV.d (.int .i64) y1]) := by kernel_rfl
theorem Kdw  : Jae prog 84 Krr := Ja4 (B0 := bkY Kiv) bkN bkG Jaz bkT K4k (Jad fz) (by kernel_rfl) (fun _ => rfl) (bkO _) (fun x h => (Ks1 x.1 h).elim fun F hF => ⟨F, fun kend => hF none _⟩)
@[reducible] def J43  : List PM := [.d (.pair (.slc (.arr 16 (.int .u8))) (.pair (.slc (.pair (.int .i64) (.pair (.arr 16 (.int .u8)) .unit))) .unit))]
def Jnp  : Orc := Orc.of J43 true 0 fun x => (Jiw x.1, [.d (.int .i64) (Je4 x.1)])
@[reducible] def Jfb  : Tpl := { cur := ⟨[(0, .var (.slc (.pair (.int .i64) (.pair (.arr 16 (.int .u8)) .unit)))), (0, .fn 92 (.pr (.ptr 0 []) (.un))), (2, .var (.int .i64)), (2, .var (.int .i64)), (0, .var (.int .i64))], 10⟩, stk := [⟨[], 9⟩, ⟨[(11, .lit false), (3, .lit false)], 5⟩, ⟨[], 0⟩], heap := [.box (.var (.pair (.slc (.arr 16 (.int .u8))) (.pair (.slc (.pair (.int .i64) (.pair (.arr 16 (.int .u8)) .unit))) .unit)))] }
def Kn6  : List (FuncId × Orc) := []
def J0f  : Book := { Γ := gam, orc := Jcg Kn6, hint := Jbq [(136, { keep := some [0, 1, 4, 7, 8], keeps := [(2, [0, 1, 4, 7, 8])], own := [], dat := [], stk := [[], [11, 15]] })] }
def Kn7 (F : Nat) (nx : Jfb.T → ZO) (kq : ZK) (x : Jfb.T) : ZO := Jwl F none (fun s s4 s7 s8 f => nx ((s, (((), ()), (s4, (s7, (s8, ()))))), (((), (((), ((), ())), ((), ()))), (f, ())))) (fun y0 y1 y2 y3 y4 => kq .ret (Jfb.inst ((y0, (((), ()), (y1, (y2, (y3, ()))))), (((), (((), ((), ())), ((), ()))), (y4, ()))))) (fun y0 y1 y2 y3 y4 => kq (.exit 0) (Jfb.inst ((y0, (((), ()), (y1, (y2, (y3, ()))))), (((), (((), ((), ())), ((), ()))), (y4, ()))))) x.1.1 x.1.2.2.1 x.1.2.2.2.1 x.1.2.2.2.2.1 x.2.2.1
def Kn8 (F m : Nat) (x : Jfb.T) (kq : ZK) : ZO := Jkm F none (fun y0 y1 y2 y3 y4 => kq .ret (Jfb.inst ((y0, (((), ()), (y1, (y2, (y3, ()))))), (((), (((), ((), ())), ((), ()))), (y4, ()))))) (fun y0 y1 y2 y3 y4 => kq (.exit 0) (Jfb.inst ((y0, (((), ()), (y1, (y2, (y3, ()))))), (((), (((), ((), ())), ((), ()))), (y4, ()))))) m x.1.1 x.1.2.2.1 x.1.2.2.2.1 x.1.2.2.2.2.1 x.2.2.1
def Kiw (F : Nat) : List (LoE Unit) := [⟨136, 2, LO.of Jfb (Kn8 F F)⟩]
def Ju9 (F : Nat) : Jcz Unit := { toBook := J0f, lo := Jd7 (Kiw F), need := Jbr [(136, 1)] }
theorem J7j (F : Nat) : Jc4 prog (Ju9 F) F 136 0 2 Jfb (Kn7 F) := fun d x KQ => by kernel_rfl
theorem Kn9 (F : Nat) : Jky prog (Ju9 F) F := Jb0 (l := Kiw F) rfl (fa (Jaw 0 (by kernel_rfl) (by kernel_rfl) (Jak (J7j F) (fun _ _ => rfl) (fun _ _ _ _ => rfl))) fz)
theorem Kt8 (F : Nat) (x : Jbo J43) (kend : List BV → ZO) : Jau prog (Ju9 F) F 20 46 (Jaf J43 x) [.d (.int .i64)] kend = Kxd F x.1 none (fun y0 => kend [BV.d (.int .i64) y0]) := by kernel_rfl
theorem Jh8  : Jae prog 46 Jnp := Ja4 (B0 := J0f) bkN bkG Jaz bkT Kt8 (Jad fz) (by kernel_rfl) (fun _ => rfl) Kn9 (fun x h => (Kgg x.1 h).elim fun F hF => ⟨F, fun kend => hF none _⟩)
@[reducible] def Jva  : List PM := [.d (.pair (.slc (.arr 16 (.int .u8))) (.pair (.slc (.pair (.int .i64) (.pair (.arr 16 (.int .u8)) .unit))) .unit))]
def Jre  : Orc := Orc.of Jva true 1 fun x => (Jhd x.1, [.o 93 (.arr 16 (.int .u8)) (Jii x.1)])
@[reducible] def Jfc  : Tpl := { cur := ⟨[(3, .row 0), (6, .var (.slc (.pair (.int .i64) (.pair (.arr 16 (.int .u8)) .unit)))), (0, .var (.int .i64)), (0, .var (.int .i64))], 11⟩, stk := [⟨[], 0⟩], heap := [.row 93 (.arr 16 (.int .u8)) false] }
def Kdx  : List (FuncId × Orc) := [(86, Jno)]
def Jtv  : Book := { Γ := gam, orc := Jcg Kdx, hint := Jbq [(87, { keep := some [3, 10, 11, 12], keeps := [(3, [3, 10, 11, 12])], own := [], dat := [], stk := [] })] }
def Kdy (F : Nat) (nx : Jfc.T → ZO) (kq : ZK) (x : Jfc.T) : ZO := Jol F none (fun s10 s11 s12 out => nx (((), (s10, (s11, (s12, ())))), (((), ()), (out, ())))) (fun y0 y1 y2 y3 => kq (.exit 0) (Jfc.inst (((), (y0, (y1, (y2, ())))), (((), ()), (y3, ()))))) x.1.2.1 x.1.2.2.1 x.1.2.2.2.1 x.2.2.1
def Kdz (F m : Nat) (x : Jfc.T) (kq : ZK) : ZO := Jhh F none (fun y0 y1 y2 y3 => kq (.exit 0) (Jfc.inst (((), (y0, (y1, (y2, ())))), (((), ()), (y3, ()))))) m x.1.2.1 x.1.2.2.1 x.1.2.2.2.1 x.2.2.1
def J44 (F : Nat) : List (LoE Unit) := [⟨87, 3, LO.of Jfc (Kdz F F)⟩]
def Jpe (F : Nat) : Jcz Unit := { toBook := Jtv, lo := Jd7 (J44 F), need := Jbr [] }
theorem J04 (F : Nat) : Jc4 prog (Jpe F) F 87 0 3 Jfc (Kdy F) := fun d x KQ => by kernel_rfl
theorem Kd0 (F : Nat) : Jky prog (Jpe F) F := Jb0 (l := J44 F) rfl (fa (Jaw 0 (by kernel_rfl) (by kernel_rfl) (Jak (J04 F) (fun _ _ => rfl) (fun _ _ _ _ => rfl))) fz)
theorem Kix (F : Nat) (x : Jbo Jva) (kend : List BV → ZO) : Jau prog (Jpe F) F 20 87 (Jaf Jva x) [.o 93 (.arr 16 (.int .u8))] kend = Kbg F x.1 none (fun y0 => kend [BV.o 93 (.arr 16 (.int .u8)) y0]) := by kernel_rfl
theorem Jnq  : Jae prog 87 Jre := Ja4 (B0 := Jtv) bkN bkG Jaz bkT Kix (Jad (fa Jh7 fz)) (by kernel_rfl) (fun _ => rfl) Kd0 (fun x h => (J6u x.1 h).elim fun F hF => ⟨F, fun kend => hF none _⟩)
@[reducible] def Kd1  : List PM := [.d (.pair (.slc (.arr 16 (.int .u8))) (.pair (.slc (.pair (.int .i64) (.pair (.arr 16 (.int .u8)) .unit))) .unit)), .d (.int .i64), .d (.int .i64)]
def Kiy  : Orc := Orc.of Kd1 true 1 fun x => (Ka9 x.1 x.2.1 x.2.2.1, [.o 93 (.arr 16 (.int .u8)) (Jed x.1 x.2.1 x.2.2.1), .d (.int .i64) (Jr8 x.1 x.2.1 x.2.2.1)])
def J9p  : List (FuncId × Orc) := [(46, Jnp), (85, J42), (86, Jno), (87, Jre)]
theorem K0l (F : Nat) (x : Jbo Kd1) (kend : List BV → ZO) : Jau prog (bkZ J9p) F 20 39 (Jaf Kd1 x) [.o 93 (.arr 16 (.int .u8)), .d (.int .i64)] kend = K63 F x.1 x.2.1 x.2.2.1 none (fun y0 y1 => kend [BV.o 93 (.arr 16 (.int .u8)) y0, BV.d (.int .i64) y1]) := by kernel_rfl
theorem J7k  : Jae prog 39 Kiy := Ja4 (B0 := bkY J9p) bkN bkG Jaz bkT K0l (Jad (fa Jh8 (fa Jtu (fa Jh7 (fa Jnq fz))))) (by kernel_rfl) (fun _ => rfl) (bkO _) (fun x h => (Kl4 x.1 x.2.1 x.2.2.1 h).elim fun F hF => ⟨F, fun kend => hF none _⟩)
@[reducible] def Koa  : List PM := [.d (.pair (.slc (.arr 16 (.int .u8))) (.pair (.slc (.pair (.int .i64) (.pair (.arr 16 (.int .u8)) .unit))) .unit)), .d (.slc (.pair (.int .i64) (.pair (.int .i64) (.pair (.slc (.arr 16 (.int .u8))) .unit))))]
def Jxl  : Orc := Orc.of Koa false 0 fun x => (Jz0 x.1 x.2.1, [.d (.pair (.slc (.arr 16 (.int .u8))) (.pair (.slc (.pair (.int .i64) (.pair (.arr 16 (.int .u8)) .unit))) .unit)) (Jgi x.1 x.2.1), .d (.int .i64) (Klh x.1 x.2.1), .d (.int .i64) (Jk8 x.1 x.2.1)])
@[reducible] def Jlu  : Tpl := { cur := ⟨[(0, .ptr 0 []), (2, .ptr 3 []), (14, .var (.slc (.arr 16 (.int .u8)))), (0, .var (.int .i64)), (0, .var (.int .i64))], 20⟩, stk := [⟨[(1, .var (.slc (.pair (.int .i64) (.pair (.int .i64) (.pair (.slc (.arr 16 (.int .u8))) .unit))))), (2, .ptr 4 []), (0, .var (.int .i64)), (0, .var (.int .i64)), (1, .ptr 0 []), (0, .ptr 5 []), (0, .var (.int .i64)), (11, .var (.slc (.pair (.int .i64) (.pair (.int .i64) (.pair (.slc (.arr 16 (.int .u8))) .unit))))), (0, .var (.int .i64)), (0, .var (.int .i64))], 27⟩, ⟨[], 0⟩], heap := [.box (.pr (.row 1) (.pr (.row 2) (.var .unit))), .row 93 (.arr 16 (.int .u8)) false, .row 155 (.pair (.int .i64) (.pair (.arr 16 (.int .u8)) .unit)) false, .box (.var (.pair (.int .i64) (.pair (.int .i64) (.pair (.slc (.arr 16 (.int .u8))) .unit)))), .box (.var (.pair (.slc (.arr 16 (.int .u8))) (.pair (.slc (.pair (.int .i64) (.pair (.arr 16 (.int .u8)) .unit))) .unit))), .box (.fns [some 97, some 98])] }
@[reducible] def Jh9  : Tpl := { cur := ⟨[(1, .var (.slc (.pair (.int .i64) (.pair (.int .i64) (.pair (.slc (.arr 16 (.int .u8))) .unit))))), (2, .ptr 0 []), (0, .var (.int .i64)), (0, .var (.int .i64)), (1, .ptr 1 []), (0, .ptr 4 []), (12, .var (.slc (.pair (.int .i64) (.pair (.int .i64) (.pair (.slc (.arr 16 (.int .u8))) .unit))))), (0, .var (.int .i64)), (0, .var (.int .i64))], 27⟩, stk := [⟨[], 0⟩], heap := [.box (.var (.pair (.slc (.arr 16 (.int .u8))) (.pair (.slc (.pair (.int .i64) (.pair (.arr 16 (.int .u8)) .unit))) .unit))), .box (.pr (.row 2) (.pr (.row 3) (.var .unit))), .row 93 (.arr 16 (.int .u8)) false, .row 155 (.pair (.int .i64) (.pair (.arr 16 (.int .u8)) .unit)) false, .box (.fns [some 97, some 98])] }
def K0m  : List (FuncId × Orc) := [(46, Jnp), (85, J42), (86, Jno), (87, Jre), (96, J9m)]
def J9q  : Book := { Γ := gam, orc := Jcg K0m, hint := Jbq [(22, { keep := some [1, 4, 5, 6, 8, 9, 22, 23, 24], keeps := [(6, [1, 4, 5, 6, 8, 9, 22, 23, 24])], own := [], dat := [], stk := [], ownb := [(8, 1, 37)] }), (97, { keep := some [0, 3, 18, 19, 20], keeps := [(4, [0, 3, 18, 19, 20])], own := [], dat := [], stk := [[1, 2, 4, 5, 6, 8, 9, 10, 20, 22, 23, 24]] })] }
def K0n (F : Nat) (nx : Jlu.T → ZO) (kq : ZK) (x : Jlu.T) : ZO := Kbh F none (fun s18 s19 s20 l s5 s6 i s22 s23 s24 h1 h2 op s4 => nx (((), ((), (s18, (s19, (s20, ()))))), (((l, ((), (s5, (s6, ((), ((), (i, (s22, (s23, (s24, ())))))))))), ((), ())), (((), ((), ())), (h1, (h2, (op, (s4, ((), ()))))))))) (fun y0 y1 y2 y3 y4 y5 y6 y7 y8 y9 y10 y11 y12 y13 => kq (.exit 0) (Jlu.inst (((), ((), (y0, (y1, (y2, ()))))), (((y3, ((), (y4, (y5, ((), ((), (y6, (y7, (y8, (y9, ())))))))))), ((), ())), (((), ((), ())), (y10, (y11, (y12, (y13, ((), ())))))))))) x.1.2.2.1 x.1.2.2.2.1 x.1.2.2.2.2.1 x.2.1.1.1 x.2.1.1.2.2.1 x.2.1.1.2.2.2.1 x.2.1.1.2.2.2.2.2.2.1 x.2.1.1.2.2.2.2.2.2.2.1 x.2.1.1.2.2.2.2.2.2.2.2.1 x.2.1.1.2.2.2.2.2.2.2.2.2.1 x.2.2.2.1 x.2.2.2.2.1 x.2.2.2.2.2.1 x.2.2.2.2.2.2.1
def K0o (F m : Nat) (x : Jlu.T) (kq : ZK) : ZO := Jse F none (fun y0 y1 y2 y3 y4 y5 y6 y7 y8 y9 y10 y11 y12 y13 => kq (.exit 0) (Jlu.inst (((), ((), (y0, (y1, (y2, ()))))), (((y3, ((), (y4, (y5, ((), ((), (y6, (y7, (y8, (y9, ())))))))))), ((), ())), (((), ((), ())), (y10, (y11, (y12, (y13, ((), ())))))))))) m x.1.2.2.1 x.1.2.2.2.1 x.1.2.2.2.2.1 x.2.1.1.1 x.2.1.1.2.2.1 x.2.1.1.2.2.2.1 x.2.1.1.2.2.2.2.2.2.1 x.2.1.1.2.2.2.2.2.2.2.1 x.2.1.1.2.2.2.2.2.2.2.2.1 x.2.1.1.2.2.2.2.2.2.2.2.2.1 x.2.2.2.1 x.2.2.2.2.1 x.2.2.2.2.2.1 x.2.2.2.2.2.2.1
def K0p (F : Nat) (nx : Jh9.T → ZO) (kq : ZK) (x : Jh9.T) : ZO := Kbi F none (fun l s5 s6 s22 s23 s24 s4 h2 h3 => nx ((l, ((), (s5, (s6, ((), ((), (s22, (s23, (s24, ()))))))))), (((), ()), (s4, (((), ((), ())), (h2, (h3, ((), ())))))))) (fun y0 y1 y2 y3 y4 y5 y6 y7 y8 => kq .ret (Jh9.inst ((y0, ((), (y1, (y2, ((), ((), (y3, (y4, (y5, ()))))))))), (((), ()), (y6, (((), ((), ())), (y7, (y8, ((), ()))))))))) (fun y0 y1 y2 y3 y4 y5 y6 y7 y8 => kq (.exit 0) (Jh9.inst ((y0, ((), (y1, (y2, ((), ((), (y3, (y4, (y5, ()))))))))), (((), ()), (y6, (((), ((), ())), (y7, (y8, ((), ()))))))))) x.1.1 x.1.2.2.1 x.1.2.2.2.1 x.1.2.2.2.2.2.2.1 x.1.2.2.2.2.2.2.2.1 x.1.2.2.2.2.2.2.2.2.1 x.2.2.1 x.2.2.2.2.1 x.2.2.2.2.2.1
def K0q (F m : Nat) (x : Jh9.T) (kq : ZK) : ZO := Jom F none (fun y0 y1 y2 y3 y4 y5 y6 y7 y8 => kq .ret (Jh9.inst ((y0, ((), (y1, (y2, ((), ((), (y3, (y4, (y5, ()))))))))), (((), ()), (y6, (((), ((), ())), (y7, (y8, ((), ()))))))))) (fun y0 y1 y2 y3 y4 y5 y6 y7 y8 => kq (.exit 0) (Jh9.inst ((y0, ((), (y1, (y2, ((), ((), (y3, (y4, (y5, ()))))))))), (((), ()), (y6, (((), ((), ())), (y7, (y8, ((), ()))))))))) m x.1.1 x.1.2.2.1 x.1.2.2.2.1 x.1.2.2.2.2.2.2.1 x.1.2.2.2.2.2.2.2.1 x.1.2.2.2.2.2.2.2.2.1 x.2.2.1 x.2.2.2.2.1 x.2.2.2.2.2.1
def K0r (F : Nat) : List (LoE Unit) := [⟨97, 4, LO.of Jlu (K0o F F)⟩,
 ⟨22, 6, LO.of Jh9 (K0q F F)⟩]
def Jxm (F : Nat) : Jcz Unit := { toBook := J9q, lo := Jd7 (K0r F), need := Jbr [(22, 1)] }
theorem Kiz (F : Nat) : Jc4 prog (Jxm F) F 97 0 4 Jlu (K0n F) := fun d x KQ => by kernel_rfl
theorem Ki0 (F : Nat) : Jc4 prog (Jxm F) F 22 0 6 Jh9 (K0p F) := fun d x KQ => by kernel_rfl
theorem K0s (F : Nat) : Jky prog (Jxm F) F := Jb0 (l := K0r F) rfl (fa (Jaw 0 (by kernel_rfl) (by kernel_rfl) (Jak (Kiz F) (fun _ _ => rfl) (fun _ _ _ _ => rfl))) (fa (Jaw 0 (by kernel_rfl) (by kernel_rfl) (Jak (Ki0 F) (fun _ _ => rfl) (fun _ _ _ _ => rfl))) fz))
theorem K4l (F : Nat) (x : Jbo Koa) (kend : List BV → ZO) : Jau prog (Jxm F) F 20 22 (Jaf Koa x) [.d (.pair (.slc (.arr 16 (.int .u8))) (.pair (.slc (.pair (.int .i64) (.pair (.arr 16 (.int .u8)) .unit))) .unit)), .d (.int .i64), .d (.int .i64)] kend = dRun F x.1 x.2.1 none (fun y0 y1 y2 => kend [BV.d (.pair (.slc (.arr 16 (.int .u8))) (.pair (.slc (.pair (.int .i64) (.pair (.arr 16 (.int .u8)) .unit))) .unit)) y0, BV.d (.int .i64) y1, BV.d (.int .i64) y2]) := by kernel_rfl
theorem Jkf  : Jae prog 22 Jxl := Ja4 (B0 := J9q) bkN bkG Jaz bkT K4l (Jad (fa Jh8 (fa Jtu (fa Jh7 (fa Jnq (fa J41 fz)))))) (by kernel_rfl) (fun _ => rfl) K0s (fun x h => (Ks2 x.1 x.2.1 h).elim fun F hF => ⟨F, fun kend => hF none _⟩)
@[reducible] def Jzb  : List PM := [.d (.slc (.int .i64)), .d (.int .i64)]
def J45  : Orc := Orc.of Jzb false 0 fun x => (Jqk x.1 x.2.1, [.d (.int .i64) (Jij x.1 x.2.1), .d (.slc (.int .i64)) (Jm0 x.1 x.2.1)])
def J0g  : List (FuncId × Orc) := []
theorem Kob (F : Nat) (x : Jbo Jzb) (kend : List BV → ZO) : Jau prog (bkZ J0g) F 20 94 (Jaf Jzb x) [.d (.int .i64), .d (.slc (.int .i64))] kend = Kll F x.1 x.2.1 none (fun y0 y1 => kend [BV.d (.int .i64) y0, BV.d (.slc (.int .i64)) y1]) := by kernel_rfl
theorem J05  : Jae prog 94 J45 := Ja4 (B0 := bkY J0g) bkN bkG Jaz bkT Kob (Jad fz) (by kernel_rfl) (fun _ => rfl) (bkO _) (fun x h => (Kb3 x.1 x.2.1 h).elim fun F hF => ⟨F, fun kend => hF none _⟩)
@[reducible] def J46  : List PM := [.d (.pair (.slc (.arr 16 (.int .u8))) (.pair (.slc (.pair (.int .i64) (.pair (.arr 16 (.int .u8)) .unit))) .unit)), .d (.slc (.int .i64))]
def J9r  : Orc := Orc.of J46 false 1 fun x => (Jwf x.1 x.2.1, [.d (.pair (.slc (.arr 16 (.int .u8))) (.pair (.slc (.pair (.int .i64) (.pair (.arr 16 (.int .u8)) .unit))) .unit)) (Jql x.1 x.2.1), .o 3 (.int .i64) (Jqm x.1 x.2.1), .d (.int .i64) (Jqn x.1 x.2.1)])
@[reducible] def Jg6  : Tpl := { cur := ⟨[(1, .var (.slc (.int .i64))), (0, .ptr 0 []), (1, .ptr 1 []), (3, .hnd .map 2), (0, .row 3), (14, .var (.slc (.pair (.int .i64) (.pair (.arr 16 (.int .u8)) .unit)))), (0, .var (.int .i64)), (0, .var (.int .i64))], 68⟩, stk := [⟨[], 0⟩], heap := [.box (.var (.pair (.slc (.arr 16 (.int .u8))) (.pair (.slc (.pair (.int .i64) (.pair (.arr 16 (.int .u8)) .unit))) .unit))), .box (.var (.pair (.slc (.arr 16 (.int .u8))) (.pair (.slc (.pair (.int .i64) (.pair (.arr 16 (.int .u8)) .unit))) .unit))), .mps 3 36 93 (.int .i64) (.arr 16 (.int .u8)), .row 3 (.int .i64) false] }
@[reducible] def Jg7  : Tpl := { cur := ⟨[(1, .var (.slc (.int .i64))), (2, .ptr 0 []), (3, .hnd .map 1), (3, .ptr 2 []), (53, .row 4), (0, .var (.int .i64)), (0, .var (.int .i64))], 26⟩, stk := [⟨[], 0⟩], heap := [.box (.var (.pair (.slc (.arr 16 (.int .u8))) (.pair (.slc (.pair (.int .i64) (.pair (.arr 16 (.int .u8)) .unit))) .unit))), .mp 3 36 (.int .i64) (.slc (.arr 16 (.int .u8))), .box (.pr (.row 3) (.var (.pair (.slc (.pair (.int .i64) (.pair (.arr 16 (.int .u8)) .unit))) .unit))), .row 93 (.arr 16 (.int .u8)) false, .row 3 (.int .i64) false] }
def Koc  : List (FuncId × Orc) := [(46, Jnp), (86, Jno), (94, J45), (95, Kiu)]
def J0h  : Book := { Γ := gam, orc := Jcg Koc, hint := Jbq [(47, { keep := some [1, 2, 4, 8, 9, 12, 24, 25, 26, 66, 67, 68], keeps := [(7, [1, 2, 4, 8, 9, 24, 25, 26]), (16, [1, 4, 8, 12, 66, 67, 68])], own := [(9, 57)], dat := [], stk := [], fz := [(16, [8])] })] }
def Kod (F : Nat) (nx : Jg6.T → ZO) (kq : ZK) (x : Jg6.T) : ZO := Jwm F none (fun choices s24 s25 s26 d_ s4 versions places => nx ((choices, ((), ((), ((), ((), (s24, (s25, (s26, ())))))))), (((), ()), (d_, (s4, (versions, (places, ()))))))) (fun y0 y1 y2 y3 y4 y5 y6 y7 => kq (.exit 0) (Jg6.inst ((y0, ((), ((), ((), ((), (y1, (y2, (y3, ())))))))), (((), ()), (y4, (y5, (y6, (y7, ())))))))) x.1.1 x.1.2.2.2.2.2.1 x.1.2.2.2.2.2.2.1 x.1.2.2.2.2.2.2.2.1 x.2.2.1 x.2.2.2.1 x.2.2.2.2.1 x.2.2.2.2.2.1
def Koe (F m : Nat) (x : Jg6.T) (kq : ZK) : ZO := Jkn F none (fun y0 y1 y2 y3 y4 y5 y6 y7 => kq (.exit 0) (Jg6.inst ((y0, ((), ((), ((), ((), (y1, (y2, (y3, ())))))))), (((), ()), (y4, (y5, (y6, (y7, ())))))))) m x.1.1 x.1.2.2.2.2.2.1 x.1.2.2.2.2.2.2.1 x.1.2.2.2.2.2.2.2.1 x.2.2.1 x.2.2.2.1 x.2.2.2.2.1 x.2.2.2.2.2.1
def Kof (F : Nat) (nx : Jg7.T → ZO) (kq : ZK) (x : Jg7.T) : ZO := Jwn F none (fun choices s67 s68 s4 versions out h3 s66 => nx ((choices, ((), ((), ((), ((), (s67, (s68, ()))))))), (((), ()), (s4, (versions, (((), out), (h3, (s66, ())))))))) (fun y0 y1 y2 y3 y4 y5 y6 y7 => kq (.exit 2) (Jg7.inst ((y0, ((), ((), ((), ((), (y1, (y2, ()))))))), (((), ()), (y3, (y4, (((), y5), (y6, (y7, ()))))))))) x.1.1 x.1.2.2.2.2.2.1 x.1.2.2.2.2.2.2.1 x.2.2.1 x.2.2.2.1 x.2.2.2.2.1.2 x.2.2.2.2.2.1 x.2.2.2.2.2.2.1
def Kog (F m : Nat) (x : Jg7.T) (kq : ZK) : ZO := Jko F none (fun y0 y1 y2 y3 y4 y5 y6 y7 => kq (.exit 2) (Jg7.inst ((y0, ((), ((), ((), ((), (y1, (y2, ()))))))), (((), ()), (y3, (y4, (((), y5), (y6, (y7, ()))))))))) m x.1.1 x.1.2.2.2.2.2.1 x.1.2.2.2.2.2.2.1 x.2.2.1 x.2.2.2.1 x.2.2.2.2.1.2 x.2.2.2.2.2.1 x.2.2.2.2.2.2.1
def Ki1 (F : Nat) : List (LoE Unit) := [⟨47, 7, LO.of Jg6 (Koe F F)⟩,
 ⟨47, 16, LO.of Jg7 (Kog F F)⟩]
def Jpf (F : Nat) : Jcz Unit := { toBook := J0h, lo := Jd7 (Ki1 F), need := Jbr [] }
theorem J7l (F : Nat) : Jc4 prog (Jpf F) F 47 0 7 Jg6 (Kod F) := fun d x KQ => by kernel_rfl
theorem J7m (F : Nat) : Jc4 prog (Jpf F) F 47 1 16 Jg7 (Kof F) := fun d x KQ => by kernel_rfl
theorem Koh (F : Nat) : Jky prog (Jpf F) F := Jb0 (l := Ki1 F) rfl (fa (Jaw 0 (by kernel_rfl) (by kernel_rfl) (Jak (J7l F) (fun _ _ => rfl) (fun _ _ _ _ => rfl))) (fa (Jaw 1 (by kernel_rfl) (by kernel_rfl) (Jak (J7m F) (fun _ _ => rfl) (fun _ _ _ _ => rfl))) fz))
theorem Kt9 (F : Nat) (x : Jbo J46) (kend : List BV → ZO) : Jau prog (Jpf F) F 20 47 (Jaf J46 x) [.d (.pair (.slc (.arr 16 (.int .u8))) (.pair (.slc (.pair (.int .i64) (.pair (.arr 16 (.int .u8)) .unit))) .unit)), .o 3 (.int .i64), .d (.int .i64)] kend = Kxe F x.1 x.2.1 none (fun y0 y1 y2 => kend [BV.d (.pair (.slc (.arr 16 (.int .u8))) (.pair (.slc (.pair (.int .i64) (.pair (.arr 16 (.int .u8)) .unit))) .unit)) y0, BV.o 3 (.int .i64) y1, BV.d (.int .i64) y2]) := by kernel_rfl
theorem J47  : Jae prog 47 J9r := Ja4 (B0 := J0h) bkN bkG Jaz bkT Kt9 (Jad (fa Jh8 (fa Jh7 (fa J05 (fa J7i fz))))) (by kernel_rfl) (fun _ => rfl) Koh (fun x h => (Kgj x.1 x.2.1 h).elim fun F hF => ⟨F, fun kend => hF none _⟩)
@[reducible] def Jpg  : List PM := [.d (.pair (.slc (.arr 16 (.int .u8))) (.pair (.slc (.pair (.int .i64) (.pair (.arr 16 (.int .u8)) .unit))) .unit)), .d (.slc (.pair (.int .i64) (.pair (.int .i64) (.pair (.slc (.arr 16 (.int .u8))) .unit)))), .d (.int .i64), .d (.slc (.int .i64))]
def Jtw  : Orc := Orc.of Jpg false 1 fun x => (Jqo x.1 x.2.1 x.2.2.1 x.2.2.2.1, [.d (.pair (.slc (.arr 16 (.int .u8))) (.pair (.slc (.pair (.int .i64) (.pair (.arr 16 (.int .u8)) .unit))) .unit)) (Jjx x.1 x.2.1 x.2.2.1 x.2.2.2.1), .o 3 (.int .i64) (Job x.1 x.2.1 x.2.2.1 x.2.2.2.1), .d (.int .i64) (Jhz x.1 x.2.1 x.2.2.1 x.2.2.2.1)])
def Jrf  : List (FuncId × Orc) := [(22, Jxl), (46, Jnp), (47, J9r)]
theorem J7n (F : Nat) (x : Jbo Jpg) (kend : List BV → ZO) : Jau prog (bkZ Jrf) F 20 21 (Jaf Jpg x) [.d (.pair (.slc (.arr 16 (.int .u8))) (.pair (.slc (.pair (.int .i64) (.pair (.arr 16 (.int .u8)) .unit))) .unit)), .o 3 (.int .i64), .d (.int .i64)] kend = Jyp F x.1 x.2.1 x.2.2.1 x.2.2.2.1 none (fun y0 y1 y2 => kend [BV.d (.pair (.slc (.arr 16 (.int .u8))) (.pair (.slc (.pair (.int .i64) (.pair (.arr 16 (.int .u8)) .unit))) .unit)) y0, BV.o 3 (.int .i64) y1, BV.d (.int .i64) y2]) := by kernel_rfl
theorem Jvb  : Jae prog 21 Jtw := Ja4 (B0 := bkY Jrf) bkN bkG Jaz bkT J7n (Jad (fa Jkf (fa Jh8 (fa J47 fz)))) (by kernel_rfl) (fun _ => rfl) (bkO _) (fun x h => (J0t x.1 x.2.1 x.2.2.1 x.2.2.2.1 h).elim fun F hF => ⟨F, fun kend => hF none _⟩)
end Go.AI
namespace Go.AI
open Go Go.Proofs
def rcvs (f : FuncId) : Option Rcv := bif Nat.beq f 88 then some { clo := 127, ncap := 2, pan := 186, sto := [(0, 24, none), (1, 4, some false)] } else none
theorem K8j (p q : Value) (w : World) : CallsDIn (Fe none) 0 Tryz.prog 127 #[p, q] .returning w fun e u' w' => (∃ v, e = .returned v) ∧ u' = .returning ∧ w' = w := by
 refine callsDIn_of_wpSIn Tryz.func127 rfl trivial fun c₀ cs hu => ?_
 apply wpSIn_seq
 apply wpSIn_region
 simp [wpOpsSIn, go_sem, recoverD, hu, Tryz.ntmps127, Exit.thenS]
 apply wpSIn_seq
 apply wpSIn_region
 simp [wpOpsSIn, go_sem, Exit.thenS]
 refine wpSIn_cond (t := false) (by simp [Act.eval, Array.replicate]) ?_
 simp only [Bool.false_eq_true, if_false]
 refine wpSIn_of_wpIn rfl (wpIn_skip ?_)
 cases c₀
 simp_all [bodyPostS, results, Tryz.results127]
theorem K8k (p q : Value) (w w' : World) (h : Kfs Tryz.prog [p, q] [(0, 24, none), (1, 4, some false)] (w.alloc (.cells #[] 186)) w') :
  CallsDIn (Fe none) 0 Tryz.prog 127 #[p, q] (.panicking (panicked 186)) w fun e u' w'' => (∃ v, e = .returned v) ∧ settle u' = .returning ∧ w'' = w' := by
 obtain ⟨w1, h1, w2, h2, h3⟩ := h
 simp only [Kfs] at h3
 subst h3
 have hta : ∀ w, (Instr.typeAssert (.iface 186 (.agg #[])) 20 186 true).run Tryz.prog w = .ok (.tuple #[.agg #[], .bool true]) w := fun w => by kernel_rfl
 refine callsDIn_of_wpSIn Tryz.func127 rfl trivial fun c₀ cs hu => ?_
 apply wpSIn_seq
 apply wpSIn_region
 simp [wpOpsSIn, go_sem, recoverD, hu, Tryz.ntmps127, Exit.thenS, panicked]
 apply wpSIn_seq
 apply wpSIn_region
 simp [wpOpsSIn, go_sem, Exit.thenS]
 refine wpSIn_cond (t := true) (by simp [Act.eval, Array.replicate]) ?_
 simp only [if_true]
 apply wpSIn_seq
 apply wpSIn_seq
 apply wpSIn_region
 simp [wpOpsSIn, go_sem, Exit.thenS, hta]
 apply wpSIn_seq
 apply wpSIn_region
 simp [wpOpsSIn, go_sem, Exit.thenS]
 refine wpSIn_cond (t := false) (by simp [Act.eval, Array.replicate]) ?_
 simp only [Bool.false_eq_true, if_false]
 refine wpSIn_of_wpIn rfl (wpIn_skip ?_)
 simp only [Exit.thenS]
 apply wpSIn_region
 have g1 : (Instr.storeAt 24 p (.slice none 0 0)).run Tryz.prog (w.alloc (.cells #[] 186)) = .ok () w1 := h1
 have g2 : (Instr.storeAt 4 q (.bool false)).run Tryz.prog w1 = .ok () w' := h2
 show wpOpsSIn (Fe none) 0 Tryz.prog _ _ [0, 1] _ _ _
 simp [wpOpsSIn, execOp, Act.eval, Act.put, Region.wanted, g1, g2, bodyPostS, results, Tryz.results127, settle]
 exact ⟨fun _ _ => trivial, fun _ _ => trivial⟩
theorem K8l  : Ksg Tryz.prog rcvs := by
 intro f rc h
 unfold rcvs at h
 cases hf : Nat.beq f 88 with
 | false => rw [hf] at h; cases h
 | true =>
  rw [hf] at h
  cases h
  have two : ∀ caps : Array Value, caps.size = 2 → ∃ p q, caps = #[p, q] := fun caps h => by
   obtain ⟨l⟩ := caps
   match l, h with
   | [p, q], _ => exact ⟨p, q, rfl⟩
  refine ⟨⟨Tryz.f127, Tryz.func127, by kernel_rfl, by kernel_rfl⟩, fun caps w h => ?_, fun caps w h => ⟨.cells #[] 186, fun w' hs => ?_⟩⟩
  ·obtain ⟨p, q, rfl⟩ := two caps h
   exact K8j p q w
  ·obtain ⟨p, q, rfl⟩ := two caps h
   exact K8k p q w w' hs
end Go.AI
namespace Go.AI
open Go
open Go.Proofs.Tryz (prog)
set_option linter.unusedVariables false
@[reducible] def Jzc  : List PM := [.d (.int .u32)]
def J48  : Orc := Orc.of Jzc true 0 fun x => (Jwh x.1, [.d (.int .u32) (Ji7 x.1)])
@[reducible] def Jf4  : Tpl := { cur := ⟨[(0, .var (.int .u32)), (3, .var (.int .i64))], 11⟩, stk := [⟨[], 0⟩], heap := [] }
def Ki2  : List (FuncId × Orc) := []
def Jxn  : Book := { Γ := gam, orc := Jcg Ki2, hint := Jbq [(178, { keep := some [0, 4], keeps := [(2, [0, 4])], own := [], dat := [], stk := [] })] }
def Ki3 (F : Nat) (nx : Jf4.T → ZO) (kq : ZK) (x : Jf4.T) : ZO := Jyt F none (fun register s4 => nx ((register, (s4, ())), (((), ()), ()))) (fun y0 y1 => kq (.exit 0) (Jf4.inst ((y0, (y1, ())), (((), ()), ())))) x.1.1 x.1.2.1
def Ki4 (F m : Nat) (x : Jf4.T) (kq : ZK) : ZO := Jld F none (fun y0 y1 => kq (.exit 0) (Jf4.inst ((y0, (y1, ())), (((), ()), ())))) m x.1.1 x.1.2.1
def J9s (F : Nat) : List (LoE Unit) := [⟨178, 2, LO.of Jf4 (Ki4 F F)⟩]
def Jrg (F : Nat) : Jcz Unit := { toBook := Jxn, lo := Jd7 (J9s F), need := Jbr [] }
theorem J49 (F : Nat) : Jc4 prog (Jrg F) F 178 0 2 Jf4 (Ki3 F) := fun d x KQ => by kernel_rfl
theorem Ki5 (F : Nat) : Jky prog (Jrg F) F := Jb0 (l := J9s F) rfl (fa (Jaw 0 (by kernel_rfl) (by kernel_rfl) (Jak (J49 F) (fun _ _ => rfl) (fun _ _ _ _ => rfl))) fz)
theorem Koi (F : Nat) (x : Jbo Jzc) (kend : List BV → ZO) : Jau prog (Jrg F) F 20 178 (Jaf Jzc x) [.d (.int .u32)] kend = Klr F x.1 none (fun y0 => kend [BV.d (.int .u32) y0]) := by kernel_rfl
theorem J06  : Jae prog 178 J48 := Ja4 (B0 := Jxn) bkN bkG Jaz bkT Koi (Jad fz) (by kernel_rfl) (fun _ => rfl) Ki5 (fun x h => (Kcn x.1 h).elim fun F hF => ⟨F, fun kend => hF none _⟩)
@[reducible] def J5a  : List PM := []
def J9t  : Orc := Orc.of J5a true 0 fun x => (J1v, [.d (.arr 256 (.int .u32)) (Jj0)])
@[reducible] def Jg8  : Tpl := { cur := ⟨[(0, .ptr 0 []), (0, .ptr 1 []), (1, .var (.int .i64))], 9⟩, stk := [⟨[], 0⟩], heap := [.box (.var (.arr 256 (.int .u32))), .box (.var (.arr 256 (.int .u32)))] }
def Koj  : List (FuncId × Orc) := [(178, J48)]
def J0i  : Book := { Γ := gam, orc := Jcg Koj, hint := Jbq [(170, { keep := some [0, 1, 3], keeps := [(3, [0, 1, 3])], own := [], dat := [], stk := [] })] }
def Kok (F : Nat) (nx : Jg8.T → ZO) (kq : ZK) (x : Jg8.T) : ZO := J3s F none (fun s3 s0 out => nx (((), ((), (s3, ()))), (((), ()), (s0, (out, ()))))) (fun y0 y1 y2 => kq (.exit 0) (Jg8.inst (((), ((), (y0, ()))), (((), ()), (y1, (y2, ())))))) x.1.2.2.1 x.2.2.1 x.2.2.2.1
def Kol (F m : Nat) (x : Jg8.T) (kq : ZK) : ZO := Jnd F none (fun y0 y1 y2 => kq (.exit 0) (Jg8.inst (((), ((), (y0, ()))), (((), ()), (y1, (y2, ())))))) m x.1.2.2.1 x.2.2.1 x.2.2.2.1
def Ki6 (F : Nat) : List (LoE Unit) := [⟨170, 3, LO.of Jg8 (Kol F F)⟩]
def Jvc (F : Nat) : Jcz Unit := { toBook := J0i, lo := Jd7 (Ki6 F), need := Jbr [] }
theorem J7o (F : Nat) : Jc4 prog (Jvc F) F 170 0 3 Jg8 (Kok F) := fun d x KQ => by kernel_rfl
theorem Kom (F : Nat) : Jky prog (Jvc F) F := Jb0 (l := Ki6 F) rfl (fa (Jaw 0 (by kernel_rfl) (by kernel_rfl) (Jak (J7o F) (fun _ _ => rfl) (fun _ _ _ _ => rfl))) fz)
theorem Kua (F : Nat) (x : Jbo J5a) (kend : List BV → ZO) : Jau prog (Jvc F) F 20 170 (Jaf J5a x) [.d (.arr 256 (.int .u32))] kend = Kxk F  none (fun y0 => kend [BV.d (.arr 256 (.int .u32)) y0]) := by kernel_rfl
theorem J5b  : Jae prog 170 J9t := Ja4 (B0 := J0i) bkN bkG Jaz bkT Kua (Jad (fa J06 fz)) (by kernel_rfl) (fun _ => rfl) Kom (fun x h => (Kg2  h).elim fun F hF => ⟨F, fun kend => hF none _⟩)
@[reducible] def Kon  : List PM := [.d (.int .u32), .d (.slc (.int .u8))]
def Krs  : Orc := Orc.of Kon true 0 fun x => (Kf8 x.1 x.2.1, [.d (.int .u32) (Kqb x.1 x.2.1)])
@[reducible] def Jlv  : Tpl := { cur := ⟨[(0, .hnd .yield 0), (4, .var (.slc (.int .u8))), (0, .var (.int .i64)), (0, .var (.int .i64))], 8⟩, stk := [⟨[(0, .hnd .yield 0)], 0⟩, ⟨[(1, .fn 171 (.pr (.ptr 3 []) (.un))), (0, .ptr 1 []), (1, .var (.int .u32))], 15⟩, ⟨[(6, .var (.int .u32))], 4⟩, ⟨[], 0⟩], heap := [.lp 159 3 ⟨[(2, .ptr 1 []), (2, .ptr 2 [])], 14⟩ .ready, .box (.var (.int .u32)), .box (.var (.arr 256 (.int .u32))), .box (.var (.slc (.int .u8)))] }
def K0t  : List (FuncId × Orc) := [(170, J9t)]
def J9u  : Book := { Γ := gam, orc := Jcg K0t, hint := Jbq [(171, { keep := some [0, 5, 6, 7], keeps := [(1, [0, 5, 6, 7])], own := [], dat := [], stk := [[0], [1, 2, 4, 6, 9], [6]] })] }
def K0u (F : Nat) (nx : Jlv.T → ZO) (kq : ZK) (x : Jlv.T) : ZO := Kbt F none (fun s5 s6 s7 s4 s61 register t bytes => nx (((), (s5, (s6, (s7, ())))), ((((), ()), ((((), ()), ((), (s4, ()))), ((s61, ()), ((), ())))), (((), ((), ())), (register, (t, (bytes, ()))))))) (fun y0 y1 y2 y3 y4 y5 y6 y7 => kq (.exit 0) (Jlv.inst (((), (y0, (y1, (y2, ())))), ((((), ()), ((((), ()), ((), (y3, ()))), ((y4, ()), ((), ())))), (((), ((), ())), (y5, (y6, (y7, ())))))))) x.1.2.1 x.1.2.2.1 x.1.2.2.2.1 x.2.1.2.1.2.2.1 x.2.1.2.2.1.1 x.2.2.2.1 x.2.2.2.2.1 x.2.2.2.2.2.1
def K0v (F m : Nat) (x : Jlv.T) (kq : ZK) : ZO := Jsm F none (fun y0 y1 y2 y3 y4 y5 y6 y7 => kq (.exit 0) (Jlv.inst (((), (y0, (y1, (y2, ())))), ((((), ()), ((((), ()), ((), (y3, ()))), ((y4, ()), ((), ())))), (((), ((), ())), (y5, (y6, (y7, ())))))))) m x.1.2.1 x.1.2.2.1 x.1.2.2.2.1 x.2.1.2.1.2.2.1 x.2.1.2.2.1.1 x.2.2.2.1 x.2.2.2.2.1 x.2.2.2.2.2.1
def K0w (F : Nat) : List (LoE Unit) := [⟨171, 1, LO.of Jlv (K0v F F)⟩]
def J5c (F : Nat) : Jcz Unit := { toBook := J9u, lo := Jd7 (K0w F), need := Jbr [(171, 1)] }
theorem Ki7 (F : Nat) : Jc4 prog (J5c F) F 171 0 1 Jlv (K0u F) := fun d x KQ => by kernel_rfl
theorem K0x (F : Nat) : Jky prog (J5c F) F := Jb0 (l := K0w F) rfl (fa (Jaw 0 (by kernel_rfl) (by kernel_rfl) (Jak (Ki7 F) (fun _ _ => rfl) (fun _ _ _ _ => rfl))) fz)
theorem K4m (F : Nat) (x : Jbo Kon) (kend : List BV → ZO) : Jau prog (J5c F) F 20 145 (Jaf Kon x) [.d (.int .u32)] kend = cUpd F x.1 x.2.1 none (fun y0 => kend [BV.d (.int .u32) y0]) := by kernel_rfl
theorem Kd2  : Jae prog 145 Krs := Ja4 (B0 := J9u) bkN bkG Jaz bkT K4m (Jad (fa J5b fz)) (by kernel_rfl) (fun _ => rfl) K0x (fun x h => (Kte x.1 x.2.1 h).elim fun F hF => ⟨F, fun kend => hF none _⟩)
@[reducible] def Koo  : List PM := [.d (.slc (.int .u8))]
def Kd3  : Orc := Orc.of Koo true 0 fun x => (J8r x.1, [.d (.int .u32) (J8s x.1)])
def Ki8  : List (FuncId × Orc) := [(145, Krs)]
theorem K4n (F : Nat) (x : Jbo Koo) (kend : List BV → ZO) : Jau prog (bkZ Ki8) F 20 110 (Jaf Koo x) [.d (.int .u32)] kend = cSum F x.1 none (fun y0 => kend [BV.d (.int .u32) y0]) := by kernel_rfl
theorem Jxo  : Jae prog 110 Kd3 := Ja4 (B0 := bkY Ki8) bkN bkG Jaz bkT K4n (Jad (fa Kd2 fz)) (by kernel_rfl) (fun _ => rfl) (bkO _) (fun x h => (Ktf x.1 h).elim fun F hF => ⟨F, fun kend => hF none _⟩)
@[reducible] def J5d  : List PM := [.d (.int .i64)]
def Js4  : Orc := Orc.of J5d true 0 fun x => (Jj1 x.1, [.d (.int .i64) (Jj2 x.1)])
def J5e  : List (FuncId × Orc) := []
theorem Kub (F : Nat) (x : Jbo J5d) (kend : List BV → ZO) : Jau prog (bkZ J5e) F 20 107 (Jaf J5d x) [.d (.int .i64)] kend = Kxl F x.1 none (fun y0 => kend [BV.d (.int .i64) y0]) := by kernel_rfl
theorem Jlw  : Jae prog 107 Js4 := Ja4 (B0 := bkY J5e) bkN bkG Jaz bkT Kub (Jad fz) (by kernel_rfl) (fun _ => rfl) (bkO _) (fun x h => (Kg7 x.1 h).elim fun F hF => ⟨F, fun kend => hF none _⟩)
@[reducible] def J5f  : List PM := [.d (.int .i64)]
def J9v  : Orc := Orc.of J5f true 0 fun x => (J1w x.1, [.d (.int .i64) (Jix x.1)])
def J5g  : List (FuncId × Orc) := [(107, Js4)]
theorem Kuc (F : Nat) (x : Jbo J5f) (kend : List BV → ZO) : Jau prog (bkZ J5g) F 20 58 (Jaf J5f x) [.d (.int .i64)] kend = Kxm F x.1 none (fun y0 => kend [BV.d (.int .i64) y0]) := by kernel_rfl
theorem J5h  : Jae prog 58 J9v := Ja4 (B0 := bkY J5g) bkN bkG Jaz bkT Kuc (Jad (fa Jlw fz)) (by kernel_rfl) (fun _ => rfl) (bkO _) (fun x h => (Kg8 x.1 h).elim fun F hF => ⟨F, fun kend => hF none _⟩)
@[reducible] def J5i  : List PM := [.d (.pair (.int .i64) (.pair (.int .i64) (.pair (.int .i64) .unit)))]
def Jzd  : Orc := Orc.of J5i true 0 fun x => (true, [.d (.int .i64) (Jj3 x.1)])
def J5j  : List (FuncId × Orc) := []
theorem Kud (F : Nat) (x : Jbo J5i) (kend : List BV → ZO) : Jau prog (bkZ J5j) F 20 24 (Jaf J5i x) [.d (.int .i64)] kend = Kxn F x.1 none (fun y0 => kend [BV.d (.int .i64) y0]) := by kernel_rfl
theorem Jrh  : Jae prog 24 Jzd := Ja4 (B0 := bkY J5j) bkN bkG Jaz bkT Kud (Jad fz) (by kernel_rfl) (fun _ => rfl) (bkO _) (fun x _ => (Kg9 x.1).elim fun F hF => ⟨F, fun kend => hF none _⟩)
@[reducible] def Kd4  : List PM := []
def J5k  : Orc := Orc.of Kd4 true 0 fun x => (J3l, [.d (.arr 16 (.int .u8)) (Jym)])
def J9w  : List (FuncId × Orc) := []
theorem K0y (F : Nat) (x : Jbo Kd4) (kend : List BV → ZO) : Jau prog (bkZ J9w) F 20 40 (Jaf Kd4 x) [.d (.arr 16 (.int .u8))] kend = K9t F  none (fun y0 => kend [BV.d (.arr 16 (.int .u8)) y0]) := by kernel_rfl
theorem Jtx  : Jae prog 40 J5k := Ja4 (B0 := bkY J9w) bkN bkG Jaz bkT K0y (Jad fz) (by kernel_rfl) (fun _ => rfl) (bkO _) (fun x h => (Kmn  h).elim fun F hF => ⟨F, fun kend => hF none _⟩)
@[reducible] def J5l  : List PM := [.d (.slc (.int .u8))]
def J9x  : Orc := Orc.of J5l true 0 fun x => (Jmc x.1, [.d (.int .i64) (Jci x.1)])
@[reducible] def Jg9  : Tpl := { cur := ⟨[(3, .var (.int .i64)), (2, .var (.slc (.int .u8))), (0, .var (.int .i64)), (0, .var (.int .i64))], 10⟩, stk := [⟨[], 0⟩], heap := [] }
def Kop  : List (FuncId × Orc) := []
def J0j  : Book := { Γ := gam, orc := Jcg Kop, hint := Jbq [(129, { keep := some [3, 6, 7, 8], keeps := [(3, [3, 6, 7, 8])], own := [], dat := [], stk := [] })] }
def Koq (F : Nat) (nx : Jg9.T → ZO) (kq : ZK) (x : Jg9.T) : ZO := Jwu F none (fun n s6 s7 s8 => nx ((n, (s6, (s7, (s8, ())))), (((), ()), ()))) (fun y0 y1 y2 y3 => kq (.exit 0) (Jg9.inst ((y0, (y1, (y2, (y3, ())))), (((), ()), ())))) x.1.1 x.1.2.1 x.1.2.2.1 x.1.2.2.2.1
def Kor (F m : Nat) (x : Jg9.T) (kq : ZK) : ZO := Jks F none (fun y0 y1 y2 y3 => kq (.exit 0) (Jg9.inst ((y0, (y1, (y2, (y3, ())))), (((), ()), ())))) m x.1.1 x.1.2.1 x.1.2.2.1 x.1.2.2.2.1
def Ki9 (F : Nat) : List (LoE Unit) := [⟨129, 3, LO.of Jg9 (Kor F F)⟩]
def Jvd (F : Nat) : Jcz Unit := { toBook := J0j, lo := Jd7 (Ki9 F), need := Jbr [] }
theorem J7p (F : Nat) : Jc4 prog (Jvd F) F 129 0 3 Jg9 (Koq F) := fun d x KQ => by kernel_rfl
theorem Kos (F : Nat) : Jky prog (Jvd F) F := Jb0 (l := Ki9 F) rfl (fa (Jaw 0 (by kernel_rfl) (by kernel_rfl) (Jak (J7p F) (fun _ _ => rfl) (fun _ _ _ _ => rfl))) fz)
theorem Kue (F : Nat) (x : Jbo J5l) (kend : List BV → ZO) : Jau prog (Jvd F) F 20 129 (Jaf J5l x) [.d (.int .i64)] kend = Kxo F x.1 none (fun y0 => kend [BV.d (.int .i64) y0]) := by kernel_rfl
theorem J5m  : Jae prog 129 J9x := Ja4 (B0 := J0j) bkN bkG Jaz bkT Kue (Jad fz) (by kernel_rfl) (fun _ => rfl) Kos (fun x h => (Kg5 x.1 h).elim fun F hF => ⟨F, fun kend => hF none _⟩)
@[reducible] def Kot  : List PM := [.d (.slc (.int .u8)), .d (.int .i64)]
def Krt  : Orc := Orc.of Kot true 0 fun x => (J3m x.1 x.2.1, [.d (.arr 16 (.int .u8)) (Jwi x.1 x.2.1)])
@[reducible] def Jlx  : Tpl := { cur := ⟨[(0, .sl 0), (0, .var (.int .i64)), (4, .var (.int .i64)), (0, .var (.int .i64))], 15⟩, stk := [⟨[(0, .var (.slc (.int .u8))), (3, .ptr 1 []), (0, .ptr 0 [])], 19⟩, ⟨[], 0⟩], heap := [.box (.var (.arr 16 (.int .u8))), .box (.var (.arr 16 (.int .u8)))] }
@[reducible] def Jly  : Tpl := { cur := ⟨[(0, .sl 0), (0, .var (.int .i64)), (4, .var (.int .i64)), (0, .var (.int .i64))], 15⟩, stk := [⟨[(0, .var (.slc (.int .u8))), (3, .ptr 1 []), (0, .ptr 0 []), (4, .sl 0)], 14⟩, ⟨[], 0⟩], heap := [.box (.var (.arr 16 (.int .u8))), .box (.var (.arr 16 (.int .u8)))] }
@[reducible] def Jlz  : Tpl := { cur := ⟨[(0, .sl 0), (0, .var (.int .i64)), (4, .var (.int .i64)), (0, .var (.int .i64))], 15⟩, stk := [⟨[(0, .var (.slc (.int .u8))), (3, .ptr 1 []), (0, .ptr 0 []), (4, .sl 0), (8, .sl 0)], 5⟩, ⟨[], 0⟩], heap := [.box (.var (.arr 16 (.int .u8))), .box (.var (.arr 16 (.int .u8)))] }
def K0z  : List (FuncId × Orc) := [(107, Js4), (110, Kd3)]
def J9y  : Book := { Γ := gam, orc := Jcg K0z, hint := Jbq [(109, { keep := some [0, 1, 6, 7], keeps := [(1, [0, 1, 6, 7])], own := [], dat := [], stk := [[0, 4, 5, 10, 19]] })] }
def K00 (F : Nat) (nx : Jlx.T → ZO) (kq : ZK) (x : Jlx.T) : ZO := Kbu F none (fun to_i to_n n s6 s7 payload to s4 => nx (((to_i, to_n), (n, (s6, (s7, ())))), (((payload, ((), ((), ()))), ((), ())), (to, (s4, ()))))) (fun y0 y1 y2 y3 y4 y5 y6 y7 => kq (.exit 0) (Jlx.inst (((y0, y1), (y2, (y3, (y4, ())))), (((y5, ((), ((), ()))), ((), ())), (y6, (y7, ())))))) x.1.1.1 x.1.1.2 x.1.2.1 x.1.2.2.1 x.1.2.2.2.1 x.2.1.1.1 x.2.2.1 x.2.2.2.1
def K01 (F m : Nat) (x : Jlx.T) (kq : ZK) : ZO := Jot F none (fun y0 y1 y2 y3 y4 y5 y6 y7 => kq (.exit 0) (Jlx.inst (((y0, y1), (y2, (y3, (y4, ())))), (((y5, ((), ((), ()))), ((), ())), (y6, (y7, ())))))) m x.1.1.1 x.1.1.2 x.1.2.1 x.1.2.2.1 x.1.2.2.2.1 x.2.1.1.1 x.2.2.1 x.2.2.2.1
def K02 (F : Nat) (nx : Jly.T → ZO) (kq : ZK) (x : Jly.T) : ZO := Kbv F none (fun to_i to_n n s6 s7 payload s10_i s10_n to s4 => nx (((to_i, to_n), (n, (s6, (s7, ())))), (((payload, ((), ((), ((s10_i, s10_n), ())))), ((), ())), (to, (s4, ()))))) (fun y0 y1 y2 y3 y4 y5 y6 y7 y8 y9 => kq (.exit 0) (Jly.inst (((y0, y1), (y2, (y3, (y4, ())))), (((y5, ((), ((), ((y6, y7), ())))), ((), ())), (y8, (y9, ())))))) x.1.1.1 x.1.1.2 x.1.2.1 x.1.2.2.1 x.1.2.2.2.1 x.2.1.1.1 x.2.1.1.2.2.2.1.1 x.2.1.1.2.2.2.1.2 x.2.2.1 x.2.2.2.1
def K03 (F m : Nat) (x : Jly.T) (kq : ZK) : ZO := Jmg F none (fun y0 y1 y2 y3 y4 y5 y6 y7 y8 y9 => kq (.exit 0) (Jly.inst (((y0, y1), (y2, (y3, (y4, ())))), (((y5, ((), ((), ((y6, y7), ())))), ((), ())), (y8, (y9, ())))))) m x.1.1.1 x.1.1.2 x.1.2.1 x.1.2.2.1 x.1.2.2.2.1 x.2.1.1.1 x.2.1.1.2.2.2.1.1 x.2.1.1.2.2.2.1.2 x.2.2.1 x.2.2.2.1
def K04 (F : Nat) (nx : Jlz.T → ZO) (kq : ZK) (x : Jlz.T) : ZO := Kbw F none (fun to_i to_n n s6 s7 payload s10_i s10_n s19_i s19_n to s4 => nx (((to_i, to_n), (n, (s6, (s7, ())))), (((payload, ((), ((), ((s10_i, s10_n), ((s19_i, s19_n), ()))))), ((), ())), (to, (s4, ()))))) (fun y0 y1 y2 y3 y4 y5 y6 y7 y8 y9 y10 y11 => kq (.exit 0) (Jlz.inst (((y0, y1), (y2, (y3, (y4, ())))), (((y5, ((), ((), ((y6, y7), ((y8, y9), ()))))), ((), ())), (y10, (y11, ())))))) x.1.1.1 x.1.1.2 x.1.2.1 x.1.2.2.1 x.1.2.2.2.1 x.2.1.1.1 x.2.1.1.2.2.2.1.1 x.2.1.1.2.2.2.1.2 x.2.1.1.2.2.2.2.1.1 x.2.1.1.2.2.2.2.1.2 x.2.2.1 x.2.2.2.1
def K05 (F m : Nat) (x : Jlz.T) (kq : ZK) : ZO := Jou F none (fun y0 y1 y2 y3 y4 y5 y6 y7 y8 y9 y10 y11 => kq (.exit 0) (Jlz.inst (((y0, y1), (y2, (y3, (y4, ())))), (((y5, ((), ((), ((y6, y7), ((y8, y9), ()))))), ((), ())), (y10, (y11, ())))))) m x.1.1.1 x.1.1.2 x.1.2.1 x.1.2.2.1 x.1.2.2.2.1 x.2.1.1.1 x.2.1.1.2.2.2.1.1 x.2.1.1.2.2.2.1.2 x.2.1.1.2.2.2.2.1.1 x.2.1.1.2.2.2.2.1.2 x.2.2.1 x.2.2.2.1
def K06 (F : Nat) : List (LoE Unit) := [⟨109, 1, LO.orT Jlx (K01 F F) (LO.orT Jly (K03 F F) (LO.of Jlz (K05 F F)))⟩]
def Jri (F : Nat) : Jcz Unit := { toBook := J9y, lo := Jd7 (K06 F), need := Jbr [] }
theorem Kja (F : Nat) : Jc4 prog (Jri F) F 109 0 1 Jlx (K00 F) := fun d x KQ => by kernel_rfl
theorem Kjb (F : Nat) : Jc4 prog (Jri F) F 109 0 1 Jly (K02 F) := fun d x KQ => by kernel_rfl
theorem Kjc (F : Nat) : Jc4 prog (Jri F) F 109 0 1 Jlz (K04 F) := fun d x KQ => by kernel_rfl
theorem K07 (F : Nat) : Jky prog (Jri F) F := Jb0 (l := K06 F) rfl (fa (Jaw 0 (by kernel_rfl) (by kernel_rfl) (Ka1 (Jak (Kja F) (fun _ _ => rfl) (fun _ _ _ _ => rfl)) (Ka1 (Jak (Kjb F) (fun _ _ => rfl) (fun _ _ _ _ => rfl)) (Jak (Kjc F) (fun _ _ => rfl) (fun _ _ _ _ => rfl))))) fz)
theorem K4o (F : Nat) (x : Jbo Kot) (kend : List BV → ZO) : Jau prog (Jri F) F 20 62 (Jaf Kot x) [.d (.arr 16 (.int .u8))] kend = lEnd F x.1 x.2.1 none (fun y0 => kend [BV.d (.arr 16 (.int .u8)) y0]) := by kernel_rfl
theorem Kd5  : Jae prog 62 Krt := Ja4 (B0 := J9y) bkN bkG Jaz bkT K4o (Jad (fa Jlw (fa Jxo fz))) (by kernel_rfl) (fun _ => rfl) K07 (fun x h => (Ktg x.1 x.2.1 h).elim fun F hF => ⟨F, fun kend => hF none _⟩)
@[reducible] def J5n  : List PM := [.d (.int .i64), .d (.slc (.arr 16 (.int .u8)))]
def Jze  : Orc := Orc.of J5n false 0 fun x => (Jj4 x.1 x.2.1, [.d (.pair (.int .i64) (.pair (.int .i64) (.pair (.slc (.arr 16 (.int .u8))) .unit))) (Jj5 x.1 x.2.1)])
def J5o  : List (FuncId × Orc) := []
theorem Kuf (F : Nat) (x : Jbo J5n) (kend : List BV → ZO) : Jau prog (bkZ J5o) F 20 60 (Jaf J5n x) [.d (.pair (.int .i64) (.pair (.int .i64) (.pair (.slc (.arr 16 (.int .u8))) .unit)))] kend = K5f F x.1 x.2.1 none (fun y0 => kend [BV.d (.pair (.int .i64) (.pair (.int .i64) (.pair (.slc (.arr 16 (.int .u8))) .unit))) y0]) := by kernel_rfl
theorem Jrj  : Jae prog 60 Jze := Ja4 (B0 := bkY J5o) bkN bkG Jaz bkT Kuf (Jad fz) (by kernel_rfl) (fun _ => rfl) (bkO _) (fun x h => (Kha x.1 x.2.1 h).elim fun F hF => ⟨F, fun kend => hF none _⟩)
@[reducible] def Kd6  : List PM := []
def J5p  : Orc := Orc.of Kd6 false 0 fun x => (Jog, [.d (.pair (.int .i64) (.pair (.int .i64) (.pair (.slc (.arr 16 (.int .u8))) .unit))) (Joh)])
def J9z  : List (FuncId × Orc) := []
theorem K08 (F : Nat) (x : Jbo Kd6) (kend : List BV → ZO) : Jau prog (bkZ J9z) F 20 61 (Jaf Kd6 x) [.d (.pair (.int .i64) (.pair (.int .i64) (.pair (.slc (.arr 16 (.int .u8))) .unit)))] kend = K9u F  none (fun y0 => kend [BV.d (.pair (.int .i64) (.pair (.int .i64) (.pair (.slc (.arr 16 (.int .u8))) .unit))) y0]) := by kernel_rfl
theorem Jty  : Jae prog 61 J5p := Ja4 (B0 := bkY J9z) bkN bkG Jaz bkT K08 (Jad fz) (by kernel_rfl) (fun _ => rfl) (bkO _) (fun x h => (Kmo  h).elim fun F hF => ⟨F, fun kend => hF none _⟩)
@[reducible] def Jgd  : Tpl := { cur := ⟨[(0, .var (.slc (.int .u8))), (0, .fn 132 (.un)), (2, .var (.int .i64)), (2, .var (.int .i64)), (0, .var (.int .i64))], 10⟩, stk := [⟨[], 9⟩, ⟨[], 0⟩], heap := [] }
def Kug  : List (FuncId × Orc) := []
def J5q  : Book := { Γ := gam, orc := Jcg Kug, hint := Jbq [(151, { keep := some [0, 1, 4, 7, 8], keeps := [(2, [0, 1, 4, 7, 8])], own := [], dat := [], stk := [[]] })] }
def Kuh (F : Nat) (nx : Jgd.T → ZO) (kq : ZK) (x : Jgd.T) : ZO := J1z F none (fun s s4 s7 s8 => nx ((s, ((), (s4, (s7, (s8, ()))))), (((), ((), ())), ()))) (fun y0 y1 y2 y3 => kq .ret (Jgd.inst ((y0, ((), (y1, (y2, (y3, ()))))), (((), ((), ())), ())))) (fun y0 y1 y2 y3 => kq (.exit 0) (Jgd.inst ((y0, ((), (y1, (y2, (y3, ()))))), (((), ((), ())), ())))) x.1.1 x.1.2.2.1 x.1.2.2.2.1 x.1.2.2.2.2.1
def Kui (F m : Nat) (x : Jgd.T) (kq : ZK) : ZO := Jne F none (fun y0 y1 y2 y3 => kq .ret (Jgd.inst ((y0, ((), (y1, (y2, (y3, ()))))), (((), ((), ())), ())))) (fun y0 y1 y2 y3 => kq (.exit 0) (Jgd.inst ((y0, ((), (y1, (y2, (y3, ()))))), (((), ((), ())), ())))) m x.1.1 x.1.2.2.1 x.1.2.2.2.1 x.1.2.2.2.2.1
def Kru (F : Nat) : List (LoE Unit) := [⟨151, 2, LO.of Jgd (Kui F F)⟩]
def Js5 (F : Nat) : Jcz Unit := { toBook := J5q, lo := Jd7 (Kru F), need := Jbr [(151, 1)] }
theorem Kd7 (F : Nat) : Jc4 prog (Js5 F) F 151 0 2 Jgd (Kuh F) := fun d x KQ => by kernel_rfl
theorem Kuj (F : Nat) : Jky prog (Js5 F) F := Jb0 (l := Kru F) rfl (fa (Jaw 0 (by kernel_rfl) (by kernel_rfl) (Jak (Kd7 F) (fun _ _ => rfl) (fun _ _ _ _ => rfl))) fz)
theorem K09 (F : Nat) (s : ZB) (kend : List BV → ZO) : Jau prog (Js5 F) F 20 131 [.d (.slc (.int .u8)) s, .f 132] [.d .bool] kend = K68 F s none (fun y0 => kend [BV.d .bool y0]) := by kernel_rfl
theorem Jtz  : Jae prog 131 (Orc.of [.d (.slc (.int .u8)), .f] true 0 fun x => ((Nat.beq x.2.1 132) && Ksy x.1 x.2.1, [.d .bool (Ksz x.1 x.2.1)])) := Jea (B0 := J5q) bkN bkG Jaz bkT (Jad fz) (by kernel_rfl) (fun x h => by
 obtain ⟨x0, x1, _⟩ := x
 simp only [Bool.and_eq_true] at h
 obtain ⟨e, h⟩ := h
 have e := Nat.eq_of_beq_eq_true e
 subst e
 obtain ⟨F, hF⟩ := Kmp x0 h
 exact ⟨F, 20, Js5 F, rfl, Kuj F, fun kend => (K09 F x0 kend).trans (hF none (fun y0 => kend [BV.d .bool y0]))⟩)
def K1a  : Orc := Orc.of [.d (.slc (.int .u8)), .f] true 0 fun x => ((Nat.beq x.2.1 132) && Ksy x.1 x.2.1, [.d .bool (Ksz x.1 x.2.1)])
theorem Kjd  : Jae prog 131 K1a := Jiv Jtz.1 (fun x h => by
 obtain ⟨x0, x1, _⟩ := x
 simp only [Bool.and_eq_true] at h
 obtain ⟨e, _⟩ := h
 rcases e with e
 ·have e := Nat.eq_of_beq_eq_true e
  subst e
  exact ⟨_, Jtz, rfl⟩)
@[reducible] def Jzf  : List PM := [.d (.int .i64)]
def J5r  : Orc := Orc.of Jzf false 0 fun x => (J3n x.1, [.d (.pair (.int .i64) (.pair (.int .i64) (.pair (.int .i64) .unit))) (Jil x.1), .d (.slc (.pair (.int .i64) (.pair (.int .i64) (.pair (.slc (.arr 16 (.int .u8))) .unit)))) (Jew x.1), .d (.int .i64) (Jm2 x.1)])
def J0k  : List (FuncId × Orc) := [(40, J5k), (60, Jze), (61, J5p)]
theorem Kou (F : Nat) (x : Jbo Jzf) (kend : List BV → ZO) : Jau prog (bkZ J0k) F 20 83 (Jaf Jzf x) [.d (.pair (.int .i64) (.pair (.int .i64) (.pair (.int .i64) .unit))), .d (.slc (.pair (.int .i64) (.pair (.int .i64) (.pair (.slc (.arr 16 (.int .u8))) .unit)))), .d (.int .i64)] kend = Kls F x.1 none (fun y0 y1 y2 => kend [BV.d (.pair (.int .i64) (.pair (.int .i64) (.pair (.int .i64) .unit))) y0, BV.d (.slc (.pair (.int .i64) (.pair (.int .i64) (.pair (.slc (.arr 16 (.int .u8))) .unit)))) y1, BV.d (.int .i64) y2]) := by kernel_rfl
theorem J07  : Jae prog 83 J5r := Ja4 (B0 := bkY J0k) bkN bkG Jaz bkT Kou (Jad (fa Jtx (fa Jrj (fa Jty fz)))) (by kernel_rfl) (fun _ => rfl) (bkO _) (fun x h => (Kcr x.1 h).elim fun F hF => ⟨F, fun kend => hF none _⟩)
@[reducible] def Jzg  : List PM := [.d (.pair (.int .i64) (.pair (.int .i64) (.pair (.int .i64) .unit))), .d (.slc (.int .u8))]
def J5s  : Orc := Orc.of Jzg false 0 fun x => (Jwj x.1 x.2.1, [.d (.pair (.int .i64) (.pair (.int .i64) (.pair (.int .i64) .unit))) (Jm3 x.1 x.2.1), .d (.slc (.pair (.int .i64) (.pair (.int .i64) (.pair (.slc (.arr 16 (.int .u8))) .unit)))) (Jm4 x.1 x.2.1), .d (.int .i64) (Jm5 x.1 x.2.1)])
@[reducible] def Jf5  : Tpl := { cur := ⟨[(0, .hnd .yield 0), (0, .ptr 5 []), (0, .ptr 6 []), (1, .var (.int .i64))], 26⟩, stk := [⟨[(0, .hnd .yield 0)], 0⟩, ⟨[(2, .ptr 1 [])], 13⟩, ⟨[(0, .hnd .yield 2)], 0⟩, ⟨[(1, .var (.slc (.int .u8))), (0, .ptr 7 []), (1, .ptr 8 []), (0, .nils), (0, .var (.int .i64)), (1, .var (.int .i64)), (0, .nils), (0, .ptr 3 [])], 66⟩, ⟨[], 0⟩], heap := [.lp 108 2 ⟨[(2, .ptr 1 [])], 13⟩ .ready, .box (.hnd .yield 2), .lp 26 13 ⟨[(10, .ptr 3 [])], 66⟩ .ready, .box (.row 4), .row 93 (.arr 16 (.int .u8)) false, .box (.var (.slc (.int .u8))), .box (.var (.int .i64)), .box (.var (.pair (.int .i64) (.pair (.int .i64) (.pair (.int .i64) .unit)))), .box (.var (.pair (.int .i64) (.pair (.int .i64) (.pair (.int .i64) .unit))))] }
def Kje  : List (FuncId × Orc) := [(24, Jzd), (58, J9v), (60, Jze), (61, J5p), (62, Krt)]
def Jxp  : Book := { Γ := gam, orc := Jcg Kje, hint := Jbq [(26, { keep := some [], keeps := [], own := [], dat := [], stk := [], rgb := [(5012, [(10, 0, 36)])] }), (142, { keep := some [0, 1, 2, 4], keeps := [(1, [0, 1, 2, 4])], own := [], dat := [], stk := [[0], [2, 3, 4, 7, 15], [0], [1, 2, 4, 5, 6, 8, 9, 10, 11, 40, 45, 49, 63, 64, 67, 73]] })] }
def Kjf (F : Nat) (nx : Jf5.T → ZO) (kq : ZK) (x : Jf5.T) : ZO := Jsn F none (fun i payload s6 n parts s1 s2 l s4 => nx (((), ((), ((), (i, ())))), ((((), ()), (((), ()), (((), ()), ((payload, ((), ((), ((), (s6, (n, ((), ((), ())))))))), ((), ()))))), (((), ()), ((), (((), ()), ((), (parts, (s1, (s2, (l, (s4, ())))))))))))) (fun y0 y1 y2 y3 y4 y5 y6 y7 y8 => kq (.exit 0) (Jf5.inst (((), ((), ((), (y0, ())))), ((((), ()), (((), ()), (((), ()), ((y1, ((), ((), ((), (y2, (y3, ((), ((), ())))))))), ((), ()))))), (((), ()), ((), (((), ()), ((), (y4, (y5, (y6, (y7, (y8, ()))))))))))))) x.1.2.2.2.1 x.2.1.2.2.2.1.1 x.2.1.2.2.2.1.2.2.2.2.1 x.2.1.2.2.2.1.2.2.2.2.2.1 x.2.2.2.2.2.2.1 x.2.2.2.2.2.2.2.1 x.2.2.2.2.2.2.2.2.1 x.2.2.2.2.2.2.2.2.2.1 x.2.2.2.2.2.2.2.2.2.2.1
def Kjg (F m : Nat) (x : Jf5.T) (kq : ZK) : ZO := Jiq F none (fun y0 y1 y2 y3 y4 y5 y6 y7 y8 => kq (.exit 0) (Jf5.inst (((), ((), ((), (y0, ())))), ((((), ()), (((), ()), (((), ()), ((y1, ((), ((), ((), (y2, (y3, ((), ((), ())))))))), ((), ()))))), (((), ()), ((), (((), ()), ((), (y4, (y5, (y6, (y7, (y8, ()))))))))))))) m x.1.2.2.2.1 x.2.1.2.2.2.1.1 x.2.1.2.2.2.1.2.2.2.2.1 x.2.1.2.2.2.1.2.2.2.2.2.1 x.2.2.2.2.2.2.1 x.2.2.2.2.2.2.2.1 x.2.2.2.2.2.2.2.2.1 x.2.2.2.2.2.2.2.2.2.1 x.2.2.2.2.2.2.2.2.2.2.1
def J90 (F : Nat) : List (LoE Unit) := [⟨142, 1, LO.of Jf5 (Kjg F F)⟩]
def Jrk (F : Nat) : Jcz Unit := { toBook := Jxp, lo := Jd7 (J90 F), need := Jbr [(142, 2)] }
theorem J5t (F : Nat) : Jc4 prog (Jrk F) F 142 0 1 Jf5 (Kjf F) := fun d x KQ => by kernel_rfl
theorem Kjh (F : Nat) : Jky prog (Jrk F) F := Jb0 (l := J90 F) rfl (fa (Jaw 0 (by kernel_rfl) (by kernel_rfl) (Jak (J5t F) (fun _ _ => rfl) (fun _ _ _ _ => rfl))) fz)
theorem Kov (F : Nat) (x : Jbo Jzg) (kend : List BV → ZO) : Jau prog (Jrk F) F 20 26 (Jaf Jzg x) [.d (.pair (.int .i64) (.pair (.int .i64) (.pair (.int .i64) .unit))), .d (.slc (.pair (.int .i64) (.pair (.int .i64) (.pair (.slc (.arr 16 (.int .u8))) .unit)))), .d (.int .i64)] kend = Klt F x.1 x.2.1 none (fun y0 y1 y2 => kend [BV.d (.pair (.int .i64) (.pair (.int .i64) (.pair (.int .i64) .unit))) y0, BV.d (.slc (.pair (.int .i64) (.pair (.int .i64) (.pair (.slc (.arr 16 (.int .u8))) .unit)))) y1, BV.d (.int .i64) y2]) := by kernel_rfl
theorem J08  : Jae prog 26 J5s := Ja4 (B0 := Jxp) bkN bkG Jaz bkT Kov (Jad (fa Jrh (fa J5h (fa Jrj (fa Jty (fa Kd5 fz)))))) (by kernel_rfl) (fun _ => rfl) Kjh (fun x h => (Kct x.1 x.2.1 h).elim fun F hF => ⟨F, fun kend => hF none _⟩)
@[reducible] def Kd8  : List PM := [.d (.slc (.arr 16 (.int .u8))), .d (.int .i64)]
def Kji  : Orc := Orc.of Kd8 false 0 fun x => (Jyo x.1 x.2.1, [.d (.slc (.slc (.int .u8))) (Jwk x.1 x.2.1), .d (.int .i64) (Jj6 x.1 x.2.1)])
@[reducible] def Jge  : Tpl := { cur := ⟨[(0, .ptr 0 []), (0, .var (.int .i64)), (2, .ptr 1 []), (0, .ptr 3 []), (0, .ptr 4 []), (0, .var (.int .i64))], 63⟩, stk := [⟨[(0, .ptr 1 []), (0, .ptr 3 [])], 0⟩, ⟨[(0, .var (.slc (.arr 16 (.int .u8)))), (0, .var (.int .i64)), (2, .nils), (0, .var (.int .i64)), (0, .row 5), (0, .ptr 0 []), (0, .var (.int .i64))], 36⟩, ⟨[], 0⟩], heap := [.box (.var (.pair (.slc (.arr 16 (.int .u8))) .unit)), .box (.row 2), .row 5 (.int .u8) false, .box (.var .bool), .box (.var (.arr 16 (.int .u8))), .row 24 (.slc (.int .u8)) false] }
@[reducible] def Jnr  : Tpl := { cur := ⟨[(0, .var (.slc (.arr 16 (.int .u8)))), (0, .var (.int .i64)), (2, .nils), (0, .var (.int .i64)), (0, .row 0), (0, .ptr 1 [])], 37⟩, stk := [⟨[], 0⟩], heap := [.row 24 (.slc (.int .u8)) false, .box (.var (.pair (.slc (.arr 16 (.int .u8))) .unit))] }
@[reducible] def J5u  : Tpl := { cur := ⟨[(0, .var (.slc (.arr 16 (.int .u8)))), (0, .var (.int .i64)), (2, .row 0), (0, .var (.int .i64)), (0, .row 0), (0, .ptr 1 [])], 37⟩, stk := [⟨[], 0⟩], heap := [.row 24 (.slc (.int .u8)) false, .box (.var (.pair (.slc (.arr 16 (.int .u8))) .unit))] }
def Kuk  : List (FuncId × Orc) := [(107, Js4), (110, Kd3), (129, J9x), (131, K1a)]
def J5v  : Book := { Γ := gam, orc := Jcg Kuk, hint := Jbq [(41, { keep := some [0, 1, 4, 5, 6, 7], keeps := [(5, [0, 1, 4, 5, 6, 7])], own := [(6, 51)], dat := [], stk := [] }), (88, { keep := some [0, 1, 4, 5, 6, 7], keeps := [(4, [0, 1, 4, 5, 6, 7])], own := [], dat := [], stk := [[0, 1, 2, 3, 4, 5, 6, 7], [0, 1, 4, 5, 6, 7, 8]], rgb := [(5002, [(4, 0, 24)])] })], rcv := rcvs }
def Kul (F : Nat) (nx : Jge.T → ZO) (kq : ZK) (x : Jge.T) : ZO := J10 F none (fun number count l first s5 left r payload ok p out => nx (((), (number, ((), ((), ((), (count, ())))))), ((((), ((), ())), ((l, (first, ((), (s5, ((), ((), (left, ()))))))), ((), ()))), (r, ((), (payload, (ok, (p, (out, ()))))))))) (fun y0 y1 y2 y3 y4 y5 y6 y7 y8 y9 y10 => kq (.panic 186) (Jge.inst (((), (y0, ((), ((), ((), (y1, ())))))), ((((), ((), ())), ((y2, (y3, ((), (y4, ((), ((), (y5, ()))))))), ((), ()))), (y6, ((), (y7, (y8, (y9, (y10, ())))))))))) (fun y0 y1 y2 y3 y4 y5 y6 y7 y8 y9 y10 => kq (.exit 0) (Jge.inst (((), (y0, ((), ((), ((), (y1, ())))))), ((((), ((), ())), ((y2, (y3, ((), (y4, ((), ((), (y5, ()))))))), ((), ()))), (y6, ((), (y7, (y8, (y9, (y10, ())))))))))) x.1.2.1 x.1.2.2.2.2.2.1 x.2.1.2.1.1 x.2.1.2.1.2.1 x.2.1.2.1.2.2.2.1 x.2.1.2.1.2.2.2.2.2.2.1 x.2.2.1 x.2.2.2.2.1 x.2.2.2.2.2.1 x.2.2.2.2.2.2.1 x.2.2.2.2.2.2.2.1
def Kum (F m : Nat) (x : Jge.T) (kq : ZK) : ZO := Jnf F none (fun y0 y1 y2 y3 y4 y5 y6 y7 y8 y9 y10 => kq (.panic 186) (Jge.inst (((), (y0, ((), ((), ((), (y1, ())))))), ((((), ((), ())), ((y2, (y3, ((), (y4, ((), ((), (y5, ()))))))), ((), ()))), (y6, ((), (y7, (y8, (y9, (y10, ())))))))))) (fun y0 y1 y2 y3 y4 y5 y6 y7 y8 y9 y10 => kq (.exit 0) (Jge.inst (((), (y0, ((), ((), ((), (y1, ())))))), ((((), ((), ())), ((y2, (y3, ((), (y4, ((), ((), (y5, ()))))))), ((), ()))), (y6, ((), (y7, (y8, (y9, (y10, ())))))))))) m x.1.2.1 x.1.2.2.2.2.2.1 x.2.1.2.1.1 x.2.1.2.1.2.1 x.2.1.2.1.2.2.2.1 x.2.1.2.1.2.2.2.2.2.2.1 x.2.2.1 x.2.2.2.2.1 x.2.2.2.2.2.1 x.2.2.2.2.2.2.1 x.2.2.2.2.2.2.2.1
def Kun (F : Nat) (nx : Jnr.T → ZO) (kq : ZK) (x : Jnr.T) : ZO := J11 F none (fun l first s5 out r => nx ((l, (first, ((), (s5, ((), ((), ())))))), (((), ()), (out, (r, ()))))) (fun y0 y1 y2 y3 y4 => kq .ret (J5u.inst ((y0, (y1, ((), (y2, ((), ((), ())))))), (((), ()), (y3, (y4, ())))))) x.1.1 x.1.2.1 x.1.2.2.2.1 x.2.2.1 x.2.2.2.1
def Kuo (F m : Nat) (x : Jnr.T) (kq : ZK) : ZO := Jng F none (fun y0 y1 y2 y3 y4 => kq .ret (J5u.inst ((y0, (y1, ((), (y2, ((), ((), ())))))), (((), ()), (y3, (y4, ())))))) m x.1.1 x.1.2.1 x.1.2.2.2.1 x.2.2.1 x.2.2.2.1
def Krv (F : Nat) : List (LoE Unit) := [⟨88, 4, LO.of Jge (Kum F F)⟩,
 ⟨41, 5, LO.of Jnr (Kuo F F)⟩]
def Js6 (F : Nat) : Jcz Unit := { toBook := J5v, lo := Jd7 (Krv F), need := Jbr [(41, 3), (88, 2)] }
theorem Kd9 (F : Nat) : Jc4 prog (Js6 F) F 88 0 4 Jge (Kul F) := fun d x KQ => by kernel_rfl
theorem Kea (F : Nat) : Jc4 prog (Js6 F) F 41 0 5 Jnr (Kun F) := fun d x KQ => by kernel_rfl
theorem Kup (F : Nat) : Jky prog (Js6 F) F := Jb0 (l := Krv F) rfl (fa (Jaw 0 (by kernel_rfl) (by kernel_rfl) (Jak (Kd9 F) (fun _ _ => rfl) (fun _ _ _ _ => rfl))) (fa (Jaw 0 (by kernel_rfl) (by kernel_rfl) (Jak (Kea F) (fun _ _ => rfl) (fun _ _ _ _ => rfl))) fz))
theorem K1b (F : Nat) (x : Jbo Kd8) (kend : List BV → ZO) : Jau prog (Js6 F) F 20 41 (Jaf Kd8 x) [.d (.slc (.slc (.int .u8))), .d (.int .i64)] kend = K69 F x.1 x.2.1 none (fun y0 y1 => kend [BV.d (.slc (.slc (.int .u8))) y0, BV.d (.int .i64) y1]) := by kernel_rfl
theorem J7q  : Jae prog 41 Kji := Ja4 (B0 := J5v) bkN bkG Jaz bkT K1b (Jad (fa Jlw (fa Jxo (fa J5m (fa Kjd fz))))) (by kernel_rfl) (fun _ => rfl) Kup (fun x h => (Kms x.1 x.2.1 h).elim fun F hF => ⟨F, fun kend => hF none _⟩) (hR := K8l)
@[reducible] def J2c  : List PM := [.d (.pair (.slc (.arr 16 (.int .u8))) (.pair (.slc (.pair (.int .i64) (.pair (.arr 16 (.int .u8)) .unit))) .unit))]
def Kjj  : Orc := Orc.of J2c false 0 fun x => (Jjl x.1, [.d (.pair (.int .i64) (.pair (.int .i64) (.pair (.int .i64) .unit))) (Joi x.1), .d (.slc (.slc (.int .u8))) (Jmd x.1), .d (.int .i64) (Jme x.1)])
def J91  : List (FuncId × Orc) := [(39, Kiy), (40, J5k), (41, Kji)]
theorem K1c (F : Nat) (x : Jbo J2c) (kend : List BV → ZO) : Jau prog (bkZ J91) F 20 19 (Jaf J2c x) [.d (.pair (.int .i64) (.pair (.int .i64) (.pair (.int .i64) .unit))), .d (.slc (.slc (.int .u8))), .d (.int .i64)] kend = K7a F x.1 none (fun y0 y1 y2 => kend [BV.d (.pair (.int .i64) (.pair (.int .i64) (.pair (.int .i64) .unit))) y0, BV.d (.slc (.slc (.int .u8))) y1, BV.d (.int .i64) y2]) := by kernel_rfl
theorem J7r  : Jae prog 19 Kjj := Ja4 (B0 := bkY J91) bkN bkG Jaz bkT K1c (Jad (fa J7k (fa Jtx (fa J7q fz)))) (by kernel_rfl) (fun _ => rfl) (bkO _) (fun x h => (Kmu x.1 h).elim fun F hF => ⟨F, fun kend => hF none _⟩)
end Go.AI
namespace Go.AI
open Go
open Go.Proofs.Tryz (prog)
set_option linter.unusedVariables false
@[reducible] def Jxq  : List PM := [.d (.slc (.pair (.int .i64) (.pair (.slc (.int .u8)) .unit)))]
def Jzh  : Orc := Orc.of Jxq true 0 fun x => (Jmf x.1, [.d (.int .i64) (Jiy x.1)])
@[reducible] def Jfd  : Tpl := { cur := ⟨[(2, .var (.int .i64)), (5, .var (.slc (.pair (.int .i64) (.pair (.slc (.int .u8)) .unit)))), (0, .var (.int .i64)), (0, .var (.int .i64))], 14⟩, stk := [⟨[], 0⟩], heap := [] }
def Kow  : List (FuncId × Orc) := []
def J0l  : Book := { Γ := gam, orc := Jcg Kow, hint := Jbq [(37, { keep := some [2, 8, 9, 10], keeps := [(4, [2, 8, 9, 10])], own := [], dat := [], stk := [] })] }
def Kox (F : Nat) (nx : Jfd.T → ZO) (kq : ZK) (x : Jfd.T) : ZO := Jwv F none (fun s2 s8 s9 s10 => nx ((s2, (s8, (s9, (s10, ())))), (((), ()), ()))) (fun y0 y1 y2 y3 => kq .ret (Jfd.inst ((y0, (y1, (y2, (y3, ())))), (((), ()), ())))) (fun y0 y1 y2 y3 => kq (.exit 0) (Jfd.inst ((y0, (y1, (y2, (y3, ())))), (((), ()), ())))) x.1.1 x.1.2.1 x.1.2.2.1 x.1.2.2.2.1
def Koy (F m : Nat) (x : Jfd.T) (kq : ZK) : ZO := Jkt F none (fun y0 y1 y2 y3 => kq .ret (Jfd.inst ((y0, (y1, (y2, (y3, ())))), (((), ()), ())))) (fun y0 y1 y2 y3 => kq (.exit 0) (Jfd.inst ((y0, (y1, (y2, (y3, ())))), (((), ()), ())))) m x.1.1 x.1.2.1 x.1.2.2.1 x.1.2.2.2.1
def Kjk (F : Nat) : List (LoE Unit) := [⟨37, 4, LO.of Jfd (Koy F F)⟩]
def Jve (F : Nat) : Jcz Unit := { toBook := J0l, lo := Jd7 (Kjk F), need := Jbr [(37, 1)] }
theorem J7s (F : Nat) : Jc4 prog (Jve F) F 37 0 4 Jfd (Kox F) := fun d x KQ => by kernel_rfl
theorem Koz (F : Nat) : Jky prog (Jve F) F := Jb0 (l := Kjk F) rfl (fa (Jaw 0 (by kernel_rfl) (by kernel_rfl) (Jak (J7s F) (fun _ _ => rfl) (fun _ _ _ _ => rfl))) fz)
theorem Kuq (F : Nat) (x : Jbo Jxq) (kend : List BV → ZO) : Jau prog (Jve F) F 20 37 (Jaf Jxq x) [.d (.int .i64)] kend = Kxp F x.1 none (fun y0 => kend [BV.d (.int .i64) y0]) := by kernel_rfl
theorem Jrl  : Jae prog 37 Jzh := Ja4 (B0 := J0l) bkN bkG Jaz bkT Kuq (Jad fz) (by kernel_rfl) (fun _ => rfl) Koz (fun x h => (Khg x.1 h).elim fun F hF => ⟨F, fun kend => hF none _⟩)
def Kjl  : List (FuncId × Orc) := [(51, Jq7)]
def Jxr  : Book := { Γ := gam, orc := Jcg Kjl, hint := Jbq [] }
def J92 (F : Nat) : List (LoE Unit) := []
def Jrm (F : Nat) : Jcz Unit := { toBook := Jxr, lo := Jd7 (J92 F), need := Jbr [] }
theorem Kjm (F : Nat) : Jky prog (Jrm F) F := Jb0 (l := J92 F) rfl fz
theorem Ko0 (F : Nat) (b : ZB) (x_ : Int) (kend : List BV → ZO) : Jau prog (Jrm F) F 20 50 [.d (.slc (.int .u8)) b, .f 51, .d (.int .i64) x_] [.o 5 (.int .u8)] kend = Klu F b x_ none (fun y0 => kend [BV.o 5 (.int .u8) y0]) := by kernel_rfl
theorem Jpz  : Jae prog 50 (Orc.of [.d (.slc (.int .u8)), .f, .d (.int .i64)] true 1 fun x => ((Nat.beq x.2.1 51) && Joj x.1 x.2.1 x.2.2.1, [.o 5 (.int .u8) (Jjm x.1 x.2.1 x.2.2.1)])) := Jea (B0 := Jxr) bkN bkG Jaz bkT (Jad (fa Jtb fz)) (by kernel_rfl) (fun x h => by
 obtain ⟨x0, x1, x2, _⟩ := x
 simp only [Bool.and_eq_true] at h
 obtain ⟨e, h⟩ := h
 have e := Nat.eq_of_beq_eq_true e
 subst e
 obtain ⟨F, hF⟩ := Kcv x0 x2 h
 exact ⟨F, 20, Jrm F, rfl, Kjm F, fun kend => (Ko0 F x0 x2 kend).trans (hF none (fun y0 => kend [BV.o 5 (.int .u8) y0]))⟩)
def Kjn  : Orc := Orc.of [.d (.slc (.int .u8)), .f, .d (.int .i64)] true 1 fun x => ((Nat.beq x.2.1 51) && Joj x.1 x.2.1 x.2.2.1, [.o 5 (.int .u8) (Jjm x.1 x.2.1 x.2.2.1)])
theorem J7t  : Jae prog 50 Kjn := Jiv Jpz.1 (fun x h => by
 obtain ⟨x0, x1, x2, _⟩ := x
 simp only [Bool.and_eq_true] at h
 obtain ⟨e, _⟩ := h
 rcases e with e
 ·have e := Nat.eq_of_beq_eq_true e
  subst e
  exact ⟨_, Jpz, rfl⟩)
def Kjo  : List (FuncId × Orc) := [(53, Jnn)]
def Jxs  : Book := { Γ := gam, orc := Jcg Kjo, hint := Jbq [] }
def J93 (F : Nat) : List (LoE Unit) := []
def Jrn (F : Nat) : Jcz Unit := { toBook := Jxs, lo := Jd7 (J93 F), need := Jbr [] }
theorem Kjp (F : Nat) : Jky prog (Jrn F) F := Jb0 (l := J93 F) rfl fz
theorem Ko1 (F : Nat) (b x_ : ZB) (kend : List BV → ZO) : Jau prog (Jrn F) F 20 52 [.d (.slc (.int .u8)) b, .f 53, .d (.slc (.int .u8)) x_] [.o 5 (.int .u8)] kend = Klv F b x_ none (fun y0 => kend [BV.o 5 (.int .u8) y0]) := by kernel_rfl
theorem Jp0  : Jae prog 52 (Orc.of [.d (.slc (.int .u8)), .f, .d (.slc (.int .u8))] true 1 fun x => ((Nat.beq x.2.1 53) && Juq x.1 x.2.1 x.2.2.1, [.o 5 (.int .u8) (Jqs x.1 x.2.1 x.2.2.1)])) := Jea (B0 := Jxs) bkN bkG Jaz bkT (Jad (fa Jp7 fz)) (by kernel_rfl) (fun x h => by
 obtain ⟨x0, x1, x2, _⟩ := x
 simp only [Bool.and_eq_true] at h
 obtain ⟨e, h⟩ := h
 have e := Nat.eq_of_beq_eq_true e
 subst e
 obtain ⟨F, hF⟩ := Kcw x0 x2 h
 exact ⟨F, 20, Jrn F, rfl, Kjp F, fun kend => (Ko1 F x0 x2 kend).trans (hF none (fun y0 => kend [BV.o 5 (.int .u8) y0]))⟩)
def Kjq  : Orc := Orc.of [.d (.slc (.int .u8)), .f, .d (.slc (.int .u8))] true 1 fun x => ((Nat.beq x.2.1 53) && Juq x.1 x.2.1 x.2.2.1, [.o 5 (.int .u8) (Jqs x.1 x.2.1 x.2.2.1)])
theorem J7u  : Jae prog 52 Kjq := Jiv Jp0.1 (fun x h => by
 obtain ⟨x0, x1, x2, _⟩ := x
 simp only [Bool.and_eq_true] at h
 obtain ⟨e, _⟩ := h
 rcases e with e
 ·have e := Nat.eq_of_beq_eq_true e
  subst e
  exact ⟨_, Jp0, rfl⟩)
@[reducible] def Jns  : List PM := [.d (.slc (.pair (.int .i64) (.pair (.slc (.int .u8)) .unit)))]
def Jvf  : Orc := Orc.of Jns true 1 fun x => (Jqt x.1, [.o 5 (.int .u8) (Jcy x.1), .d (.int .i64) (Jim x.1)])
@[reducible] def Jdf  : Tpl := { cur := ⟨[(5, .row 0), (10, .var (.slc (.pair (.int .i64) (.pair (.slc (.int .u8)) .unit)))), (0, .var (.int .i64)), (0, .var (.int .i64))], 15⟩, stk := [⟨[], 0⟩], heap := [.row 5 (.int .u8) false] }
def Kjr  : List (FuncId × Orc) := [(37, Jzh), (50, Kjn), (52, Kjq)]
def Jxt  : Book := { Γ := gam, orc := Jcg Kjr, hint := Jbq [(23, { keep := some [5, 16, 17, 18], keeps := [(6, [5, 16, 17, 18])], own := [], dat := [], stk := [] })] }
def Kjs (F : Nat) (nx : Jdf.T → ZO) (kq : ZK) (x : Jdf.T) : ZO := Jso F none (fun s16 s17 s18 b => nx (((), (s16, (s17, (s18, ())))), (((), ()), (b, ())))) (fun y0 y1 y2 y3 => kq (.exit 0) (Jdf.inst (((), (y0, (y1, (y2, ())))), (((), ()), (y3, ()))))) x.1.2.1 x.1.2.2.1 x.1.2.2.2.1 x.2.2.1
def Kjt (F m : Nat) (x : Jdf.T) (kq : ZK) : ZO := Jfw F none (fun y0 y1 y2 y3 => kq (.exit 0) (Jdf.inst (((), (y0, (y1, (y2, ())))), (((), ()), (y3, ()))))) m x.1.2.1 x.1.2.2.1 x.1.2.2.2.1 x.2.2.1
def Jzi (F : Nat) : List (LoE Unit) := [⟨23, 6, LO.of Jdf (Kjt F F)⟩]
def Jro (F : Nat) : Jcz Unit := { toBook := Jxt, lo := Jd7 (Jzi F), need := Jbr [] }
def Kju (Jds : (List ZR) → Bool) (Jdj : (List ZR) → Int) (Jei : ZB → Nat → Int → Bool) (Jd6 : ZB → Nat → Int → ZB) (Jes : ZB → Nat → ZB → Bool) (Jer : ZB → Nat → ZB → ZB) {X : Type} (F : Nat) (fail : X) (next ex0 : List ZR → Int → Int → ZB → X) (s16 : List ZR) (s17 s18 : Int) (b : ZB) : X :=
 bif (decide (s18 < s17)) then
  bif ((decide ((0 : Int) ≤ s18)) && (decide (s18 < ((s16.length : Nat) : Int)))) then
  bif (Jei b (51 : Nat) (List.getD s16 (s18).toNat ((0 : Int), (([] : ZB), ()))).1) then
  bif (Jes (Jd6 b (51 : Nat) (List.getD s16 (s18).toNat ((0 : Int), (([] : ZB), ()))).1) (53 : Nat) (List.getD s16 (s18).toNat ((0 : Int), (([] : ZB), ()))).2.1) then
  next s16 s17 (Jay s18 (1 : Int)) (Jer (Jd6 b (51 : Nat) (List.getD s16 (s18).toNat ((0 : Int), (([] : ZB), ()))).1) (53 : Nat) (List.getD s16 (s18).toNat ((0 : Int), (([] : ZB), ()))).2.1)
  else fail
  else fail
  else fail
 else
 ex0 s16 s17 s18 b
def K1d (Jds : (List ZR) → Bool) (Jdj : (List ZR) → Int) (Jei : ZB → Nat → Int → Bool) (Jd6 : ZB → Nat → Int → ZB) (Jes : ZB → Nat → ZB → Bool) (Jer : ZB → Nat → ZB → ZB) {X : Type} (F : Nat) (l : List ZR) (fail : X) (ret : ZB → Int → X) : X :=
 bif (Jds l) then
 bif ((Jdj l) != (0 : Int)) then
  ret ([] : ZB) (Jdj l)
 else
 bif (Jei ([] : ZB) (51 : Nat) ((l.length : Nat) : Int)) then
 Jfw F fail
  (fun (s16 : List ZR) (s17 : Int) (s18 : Int) (b : ZB) =>
   bif (decide (((b.length : Nat) : Int) > (65536 : Int))) then
    ret ([] : ZB) (5 : Int)
   else
   ret b (0 : Int))
  F l ((l.length : Nat) : Int) (0 : Int) (Jd6 ([] : ZB) (51 : Nat) ((l.length : Nat) : Int))
 else fail
 else fail
def J7v (Jds : (List ZR) → Bool) (Jdj : (List ZR) → Int) (Jei : ZB → Nat → Int → Bool) (Jd6 : ZB → Nat → Int → ZB) (Jes : ZB → Nat → ZB → Bool) (Jer : ZB → Nat → ZB → ZB) : List (FuncId × Orc) := [(37, Orc.of Jxq true 0 fun x => (Jds x.1, [.d (.int .i64) (Jdj x.1)])), (50, Orc.of [.d (.slc (.int .u8)), .f, .d (.int .i64)] true 1 fun x => ((Nat.beq x.2.1 51) && Jei x.1 x.2.1 x.2.2.1, [.o 5 (.int .u8) (Jd6 x.1 x.2.1 x.2.2.1)])), (52, Orc.of [.d (.slc (.int .u8)), .f, .d (.slc (.int .u8))] true 1 fun x => ((Nat.beq x.2.1 53) && Jes x.1 x.2.1 x.2.2.1, [.o 5 (.int .u8) (Jer x.1 x.2.1 x.2.2.1)]))]
def J5w (Jds : (List ZR) → Bool) (Jdj : (List ZR) → Int) (Jei : ZB → Nat → Int → Bool) (Jd6 : ZB → Nat → Int → ZB) (Jes : ZB → Nat → ZB → Bool) (Jer : ZB → Nat → ZB → ZB) : Book := { Γ := gam, orc := Jcg (J7v Jds Jdj Jei Jd6 Jes Jer), hint := Jbq [(23, { keep := some [5, 16, 17, 18], keeps := [(6, [5, 16, 17, 18])], own := [], dat := [], stk := [] })] }
def Jt0 (Jds : (List ZR) → Bool) (Jdj : (List ZR) → Int) (Jei : ZB → Nat → Int → Bool) (Jd6 : ZB → Nat → Int → ZB) (Jes : ZB → Nat → ZB → Bool) (Jer : ZB → Nat → ZB → ZB) (F : Nat) : Jcz Unit := { toBook := J5w Jds Jdj Jei Jd6 Jes Jer, lo := Jd7 (Jzi F), need := Jbr [] }
def J7w (Jds : (List ZR) → Bool) (Jdj : (List ZR) → Int) (Jei : ZB → Nat → Int → Bool) (Jd6 : ZB → Nat → Int → ZB) (Jes : ZB → Nat → ZB → Bool) (Jer : ZB → Nat → ZB → ZB) (F : Nat) (nx : Jdf.T → ZO) (kq : ZK) (x : Jdf.T) : ZO := Kju Jds Jdj Jei Jd6 Jes Jer F none (fun s16 s17 s18 b => nx (((), (s16, (s17, (s18, ())))), (((), ()), (b, ())))) (fun y0 y1 y2 y3 => kq (.exit 0) (Jdf.inst (((), (y0, (y1, (y2, ())))), (((), ()), (y3, ()))))) x.1.2.1 x.1.2.2.1 x.1.2.2.2.1 x.2.2.1
theorem Jzj (Jds : (List ZR) → Bool) (Jdj : (List ZR) → Int) (Jei : ZB → Nat → Int → Bool) (Jd6 : ZB → Nat → Int → ZB) (Jes : ZB → Nat → ZB → Bool) (Jer : ZB → Nat → ZB → ZB) (F : Nat) : Jc4 prog (Jt0 Jds Jdj Jei Jd6 Jes Jer F) F 23 0 6 Jdf (J7w Jds Jdj Jei Jd6 Jes Jer F) := fun d x KQ => by kernel_rfl
theorem Keb (Jds : (List ZR) → Bool) (Jdj : (List ZR) → Int) (Jei : ZB → Nat → Int → Bool) (Jd6 : ZB → Nat → Int → ZB) (Jes : ZB → Nat → ZB → Bool) (Jer : ZB → Nat → ZB → ZB) (F : Nat) (x : Jbo Jns) (kend : List BV → ZO) : Jau prog (Jt0 Jds Jdj Jei Jd6 Jes Jer F) F 20 23 (Jaf Jns x) [.o 5 (.int .u8), .d (.int .i64)] kend = K1d Jds Jdj Jei Jd6 Jes Jer F x.1 none (fun y0 y1 => kend [BV.o 5 (.int .u8) y0, BV.d (.int .i64) y1]) := by kernel_rfl
theorem J5x (F : Nat) : Jc4 prog (Jro F) F 23 0 6 Jdf (Kjs F) := Jzj Jmf Jiy Joj Jjm Juq Jqs F
theorem Kjv (F : Nat) : Jky prog (Jro F) F := Jb0 (l := Jzi F) rfl (fa (Jaw 0 (by kernel_rfl) (by kernel_rfl) (Jak (J5x F) (fun _ _ => rfl) (fun _ _ _ _ => rfl))) fz)
theorem Ko2 (F : Nat) (x : Jbo Jns) (kend : List BV → ZO) : Jau prog (Jro F) F 20 23 (Jaf Jns x) [.o 5 (.int .u8), .d (.int .i64)] kend = Klw F x.1 none (fun y0 y1 => kend [BV.o 5 (.int .u8) y0, BV.d (.int .i64) y1]) := Keb Jmf Jiy Joj Jjm Juq Jqs F x kend
theorem Jp1  : Jae prog 23 Jvf := Ja4 (B0 := Jxt) bkN bkG Jaz bkT Ko2 (Jad (fa Jrl (fa J7t (fa J7u fz)))) (by kernel_rfl) (fun _ => rfl) Kjv (fun x h => (Kcx x.1 h).elim fun F hF => ⟨F, fun kend => hF none _⟩)
@[reducible] def Jku  : List PM := [.d (.slc (.int .u8))]
def J5y  : Orc := Orc.of Jku false 0 fun x => (Ji8 x.1, [.d (.slc (.pair (.int .i64) (.pair (.slc (.int .u8)) .unit))) (Jex x.1), .d (.int .i64) (Jey x.1)])
@[reducible] def Jcj  : Tpl := { cur := ⟨[(1, .ptr 0 []), (0, .nils), (0, .var (.int .i64)), (2, .row 1), (12, .var (.int .i64)), (0, .var (.int .i64))], 24⟩, stk := [⟨[], 0⟩], heap := [.box (.var (.slc (.int .u8))), .row 66 (.pair (.int .i64) (.pair (.slc (.int .u8)) .unit)) false] }
def Kjw  : List (FuncId × Orc) := [(72, Jq8), (75, Jtr)]
def Jxu  : Book := { Γ := gam, orc := Jcg Kjw, hint := Jbq [(33, { keep := some [1, 2, 3, 6, 19, 20], keeps := [(11, [1, 2, 3, 6, 19, 20])], own := [(6, 25)], dat := [], stk := [] })] }
def Kjx (F : Nat) (nx : Jcj.T → ZO) (kq : ZK) (x : Jcj.T) : ZO := Jsp F none (fun s3 s19 s20 b out => nx (((), ((), (s3, ((), (s19, (s20, ())))))), (((), ()), (b, (out, ()))))) (fun y0 y1 y2 y3 y4 => kq .ret (Jcj.inst (((), ((), (y0, ((), (y1, (y2, ())))))), (((), ()), (y3, (y4, ())))))) (fun y0 y1 y2 y3 y4 => kq (.exit 0) (Jcj.inst (((), ((), (y0, ((), (y1, (y2, ())))))), (((), ()), (y3, (y4, ())))))) x.1.2.2.1 x.1.2.2.2.2.1 x.1.2.2.2.2.2.1 x.2.2.1 x.2.2.2.1
def Kjy (F m : Nat) (x : Jcj.T) (kq : ZK) : ZO := Je7 F none (fun y0 y1 y2 y3 y4 => kq .ret (Jcj.inst (((), ((), (y0, ((), (y1, (y2, ())))))), (((), ()), (y3, (y4, ())))))) (fun y0 y1 y2 y3 y4 => kq (.exit 0) (Jcj.inst (((), ((), (y0, ((), (y1, (y2, ())))))), (((), ()), (y3, (y4, ())))))) m x.1.2.2.1 x.1.2.2.2.2.1 x.1.2.2.2.2.2.1 x.2.2.1 x.2.2.2.1
def Jzk (F : Nat) : List (LoE Unit) := [⟨33, 11, LO.of Jcj (Kjy F F)⟩]
def Jrp (F : Nat) : Jcz Unit := { toBook := Jxu, lo := Jd7 (Jzk F), need := Jbr [(33, 1)] }
def Kjz (Jcd : ZB → Bool) (Jbd : ZB → Int) (Jap : ZB → ZB) (Ja2 : ZB → Int) (Jbv : ZB → Bool) (Jbf Jbg : ZB → ZB) (Ja3 : ZB → Int) {X : Type} (F : Nat) (fail : X) (next ex0 ex1 : Int → Int → Int → ZB → List ZR → X) (s3 s19 s20 : Int) (b : ZB) (out : List ZR) : X :=
 bif (decide (s20 < s19)) then
  bif (Jcd b) then
  bif ((Ja2 b) == (0 : Int)) then
   bif ((Ja2 b) != (0 : Int)) then
    ex0 (Ja2 b) s19 s20 (Jap b) out
   else
   bif (decide ((Jbd b) ≥ (1 : Int))) then
    bif (!(decide ((Jbd b) ≤ (4 : Int)))) then
     ex0 (1 : Int) s19 s20 (Jap b) out
    else
    bif (Jbv (Jap b)) then
    bif ((Ja3 (Jap b)) == (0 : Int)) then
     bif ((Ja3 (Jap b)) != (0 : Int)) then
      ex0 (Ja3 (Jap b)) s19 s20 (Jbg (Jap b)) out
     else
     bif (decide ((out ++ ([((Jbd b), ((Jbf (Jap b)), ()))] : List ZR)).length ≤ big)) then
     next s3 s19 (Jay s20 (1 : Int)) (Jbg (Jap b)) (out ++ ([((Jbd b), ((Jbf (Jap b)), ()))] : List ZR))
     else fail
    else
    bif ((Ja3 (Jap b)) != (0 : Int)) then
     ex0 (Ja3 (Jap b)) s19 s20 (Jap b) out
    else
    bif (decide ((out ++ ([((Jbd b), (([] : ZB), ()))] : List ZR)).length ≤ big)) then
    next s3 s19 (Jay s20 (1 : Int)) (Jap b) (out ++ ([((Jbd b), (([] : ZB), ()))] : List ZR))
    else fail
    else fail
   else
   ex0 (1 : Int) s19 s20 (Jap b) out
  else
  bif ((Ja2 b) != (0 : Int)) then
   ex0 (Ja2 b) s19 s20 b out
  else
  ex0 (1 : Int) s19 s20 b out
  else fail
 else
 ex1 s3 s19 s20 b out
def K1e (Jcd : ZB → Bool) (Jbd : ZB → Int) (Jap : ZB → ZB) (Ja2 : ZB → Int) (Jbv : ZB → Bool) (Jbf Jbg : ZB → ZB) (Ja3 : ZB → Int) {X : Type} (F : Nat) (b : ZB) (fail : X) (ret : List ZR → Int → X) : X :=
 bif (decide (((b.length : Nat) : Int) > (65536 : Int))) then
  ret ([] : List ZR) (5 : Int)
 else
 bif (Jcd b) then
 bif ((Ja2 b) == (0 : Int)) then
  bif ((Ja2 b) != (0 : Int)) then
   ret ([] : List ZR) (Ja2 b)
  else
  bif (decide ((Jbd b) > (1024 : Int))) then
   ret ([] : List ZR) (6 : Int)
  else
  Je7 F fail
   (fun (s3 : Int) (s19 : Int) (s20 : Int) (b1 : ZB) (out : List ZR) =>
    ret ([] : List ZR) s3)
   (fun (s31 : Int) (s191 : Int) (s201 : Int) (b2 : ZB) (out1 : List ZR) =>
    bif (decide (((b2.length : Nat) : Int) > (0 : Int))) then
     ret ([] : List ZR) (3 : Int)
    else
    ret out1 (0 : Int))
   F (0 : Int) (Jbd b) (0 : Int) (Jap b) ([] : List ZR)
 else
 bif ((Ja2 b) != (0 : Int)) then
  ret ([] : List ZR) (Ja2 b)
 else
 Je7 F fail
  (fun (s32 : Int) (s192 : Int) (s202 : Int) (b3 : ZB) (out2 : List ZR) =>
   ret ([] : List ZR) s32)
  (fun (s33 : Int) (s193 : Int) (s203 : Int) (b4 : ZB) (out3 : List ZR) =>
   bif (decide (((b4.length : Nat) : Int) > (0 : Int))) then
    ret ([] : List ZR) (3 : Int)
   else
   ret out3 (0 : Int))
  F (0 : Int) (0 : Int) (0 : Int) b ([] : List ZR)
 else fail
def J7x (Jcd : ZB → Bool) (Jbd : ZB → Int) (Jap : ZB → ZB) (Ja2 : ZB → Int) (Jbv : ZB → Bool) (Jbf Jbg : ZB → ZB) (Ja3 : ZB → Int) : List (FuncId × Orc) := [(72, Orc.of Jo9 false 0 fun x => (Jcd x.1, [.d (.int .i64) (Jbd x.1), .d (.slc (.int .u8)) (Jap x.1), .d (.int .i64) (Ja2 x.1)])), (75, Orc.of Jke false 0 fun x => (Jbv x.1, [.d (.slc (.int .u8)) (Jbf x.1), .d (.slc (.int .u8)) (Jbg x.1), .d (.int .i64) (Ja3 x.1)]))]
def J5z (Jcd : ZB → Bool) (Jbd : ZB → Int) (Jap : ZB → ZB) (Ja2 : ZB → Int) (Jbv : ZB → Bool) (Jbf Jbg : ZB → ZB) (Ja3 : ZB → Int) : Book := { Γ := gam, orc := Jcg (J7x Jcd Jbd Jap Ja2 Jbv Jbf Jbg Ja3), hint := Jbq [(33, { keep := some [1, 2, 3, 6, 19, 20], keeps := [(11, [1, 2, 3, 6, 19, 20])], own := [(6, 25)], dat := [], stk := [] })] }
def Jt1 (Jcd : ZB → Bool) (Jbd : ZB → Int) (Jap : ZB → ZB) (Ja2 : ZB → Int) (Jbv : ZB → Bool) (Jbf Jbg : ZB → ZB) (Ja3 : ZB → Int) (F : Nat) : Jcz Unit := { toBook := J5z Jcd Jbd Jap Ja2 Jbv Jbf Jbg Ja3, lo := Jd7 (Jzk F), need := Jbr [(33, 1)] }
def J7y (Jcd : ZB → Bool) (Jbd : ZB → Int) (Jap : ZB → ZB) (Ja2 : ZB → Int) (Jbv : ZB → Bool) (Jbf Jbg : ZB → ZB) (Ja3 : ZB → Int) (F : Nat) (nx : Jcj.T → ZO) (kq : ZK) (x : Jcj.T) : ZO := Kjz Jcd Jbd Jap Ja2 Jbv Jbf Jbg Ja3 F none (fun s3 s19 s20 b out => nx (((), ((), (s3, ((), (s19, (s20, ())))))), (((), ()), (b, (out, ()))))) (fun y0 y1 y2 y3 y4 => kq .ret (Jcj.inst (((), ((), (y0, ((), (y1, (y2, ())))))), (((), ()), (y3, (y4, ())))))) (fun y0 y1 y2 y3 y4 => kq (.exit 0) (Jcj.inst (((), ((), (y0, ((), (y1, (y2, ())))))), (((), ()), (y3, (y4, ())))))) x.1.2.2.1 x.1.2.2.2.2.1 x.1.2.2.2.2.2.1 x.2.2.1 x.2.2.2.1
theorem Jzl (Jcd : ZB → Bool) (Jbd : ZB → Int) (Jap : ZB → ZB) (Ja2 : ZB → Int) (Jbv : ZB → Bool) (Jbf Jbg : ZB → ZB) (Ja3 : ZB → Int) (F : Nat) : Jc4 prog (Jt1 Jcd Jbd Jap Ja2 Jbv Jbf Jbg Ja3 F) F 33 0 11 Jcj (J7y Jcd Jbd Jap Ja2 Jbv Jbf Jbg Ja3 F) := fun d x KQ => by kernel_rfl
theorem Kec (Jcd : ZB → Bool) (Jbd : ZB → Int) (Jap : ZB → ZB) (Ja2 : ZB → Int) (Jbv : ZB → Bool) (Jbf Jbg : ZB → ZB) (Ja3 : ZB → Int) (F : Nat) (x : Jbo Jku) (kend : List BV → ZO) : Jau prog (Jt1 Jcd Jbd Jap Ja2 Jbv Jbf Jbg Ja3 F) F 20 33 (Jaf Jku x) [.d (.slc (.pair (.int .i64) (.pair (.slc (.int .u8)) .unit))), .d (.int .i64)] kend = K1e Jcd Jbd Jap Ja2 Jbv Jbf Jbg Ja3 F x.1 none (fun y0 y1 => kend [BV.d (.slc (.pair (.int .i64) (.pair (.slc (.int .u8)) .unit))) y0, BV.d (.int .i64) y1]) := by kernel_rfl
theorem J50 (F : Nat) : Jc4 prog (Jrp F) F 33 0 11 Jcj (Kjx F) := Jzl Jeu Jao Jal Jbi Jfu Jef Jeg Jct F
theorem Kj0 (F : Nat) : Jky prog (Jrp F) F := Jb0 (l := Jzk F) rfl (fa (Jaw 0 (by kernel_rfl) (by kernel_rfl) (Jak (J50 F) (fun _ _ => rfl) (fun _ _ _ _ => rfl))) fz)
theorem Ko3 (F : Nat) (x : Jbo Jku) (kend : List BV → ZO) : Jau prog (Jrp F) F 20 33 (Jaf Jku x) [.d (.slc (.pair (.int .i64) (.pair (.slc (.int .u8)) .unit))), .d (.int .i64)] kend = Klx F x.1 none (fun y0 y1 => kend [BV.d (.slc (.pair (.int .i64) (.pair (.slc (.int .u8)) .unit))) y0, BV.d (.int .i64) y1]) := Kec Jeu Jao Jal Jbi Jfu Jef Jeg Jct F x kend
theorem J09  : Jae prog 33 J5y := Ja4 (B0 := Jxu) bkN bkG Jaz bkT Ko3 (Jad (fa Jnm (fa Ju3 fz))) (by kernel_rfl) (fun _ => rfl) Kj0 (fun x h => (Kcz x.1 h).elim fun F hF => ⟨F, fun kend => hF none _⟩)
end Go.AI
namespace Go.AI
open Go
open Go.Proofs.Tryz (prog)
set_option linter.unusedVariables false
@[reducible] def Jzm  : List PM := [.d (.pair (.int .i64) (.pair (.int .i64) (.pair (.int .i64) .unit))), .d (.slc (.int .u8)), .d (.slc (.pair (.int .i64) (.pair (.slc (.int .u8)) .unit)))]
def Jph  : Orc := Orc.of Jzm false 0 fun x => (Ji9 x.1 x.2.1 x.2.2.1, [.d (.pair (.int .i64) (.pair (.int .i64) (.pair (.int .i64) .unit))) (Jdl x.1 x.2.1 x.2.2.1), .d (.slc (.pair (.int .i64) (.pair (.int .i64) (.pair (.slc (.arr 16 (.int .u8))) .unit)))) (Jav x.1 x.2.1 x.2.2.1), .d (.int .i64) (Jhg x.1 x.2.1 x.2.2.1)])
def J0m  : List (FuncId × Orc) := [(23, Jvf), (24, Jzd), (25, Kis), (26, J5s)]
theorem Ko4 (F : Nat) (x : Jbo Jzm) (kend : List BV → ZO) : Jau prog (bkZ J0m) F 20 10 (Jaf Jzm x) [.d (.pair (.int .i64) (.pair (.int .i64) (.pair (.int .i64) .unit))), .d (.slc (.pair (.int .i64) (.pair (.int .i64) (.pair (.slc (.arr 16 (.int .u8))) .unit)))), .d (.int .i64)] kend = Kly F x.1 x.2.1 x.2.2.1 none (fun y0 y1 y2 => kend [BV.d (.pair (.int .i64) (.pair (.int .i64) (.pair (.int .i64) .unit))) y0, BV.d (.slc (.pair (.int .i64) (.pair (.int .i64) (.pair (.slc (.arr 16 (.int .u8))) .unit)))) y1, BV.d (.int .i64) y2]) := by kernel_rfl
theorem Jjp  : Jae prog 10 Jph := Ja4 (B0 := bkY J0m) bkN bkG Jaz bkT Ko4 (Jad (fa Jp1 (fa Jrh (fa J7g (fa J08 fz))))) (by kernel_rfl) (fun _ => rfl) (bkO _) (fun x h => (Kc2 x.1 x.2.1 x.2.2.1 h).elim fun F hF => ⟨F, fun kend => hF none _⟩)
@[reducible] def Jms  : List PM := []
def Jrq  : Orc := Orc.of Jms true 0 fun x => (true, [.d .bool (Jcb)])
def Jp2  : List (FuncId × Orc) := [(10, Jph), (23, Jvf)]
theorem J51 (F : Nat) (x : Jbo Jms) (kend : List BV → ZO) : Jau prog (bkZ Jp2) F 20 9 (Jaf Jms x) [.d .bool] kend = Jut F  none (fun y0 => kend [BV.d .bool y0]) := by kernel_rfl
theorem Jtc  : Jae prog 9 Jrq := Ja4 (B0 := bkY Jp2) bkN bkG Jaz bkT J51 (Jad (fa Jjp (fa Jp1 fz))) (by kernel_rfl) (fun _ => rfl) (bkO _) (fun x _ => (Jy1 ).elim fun F hF => ⟨F, fun kend => hF none _⟩)
end Go.AI
namespace Go.AI
open Go
open Go.Proofs.Tryz (prog)
set_option linter.unusedVariables false
@[reducible] def Jnt  : List PM := [.d (.pair (.slc (.arr 16 (.int .u8))) (.pair (.slc (.pair (.int .i64) (.pair (.arr 16 (.int .u8)) .unit))) .unit)), .d (.slc (.int .u8))]
def J52  : Orc := Orc.of Jnt false 0 fun x => (Jqu x.1 x.2.1, [.d (.pair (.int .i64) (.pair (.int .i64) (.pair (.int .i64) .unit))) (Jkl x.1 x.2.1), .d (.slc (.slc (.pair (.int .i64) (.pair (.slc (.int .u8)) .unit)))) (Jm7 x.1 x.2.1), .d (.int .i64) (Jm8 x.1 x.2.1)])
@[reducible] def Jdg  : Tpl := { cur := ⟨[(0, .hnd .yield 0), (1, .ptr 6 []), (4, .var (.slc (.slc (.int .u8)))), (0, .var (.int .i64)), (0, .var (.int .i64))], 21⟩, stk := [⟨[(0, .hnd .yield 0)], 0⟩, ⟨[(1, .var (.slc (.int .u8))), (2, .ptr 1 []), (0, .ptr 2 []), (0, .ptr 3 []), (0, .ptr 7 []), (2, .ptr 4 [])], 39⟩, ⟨[], 0⟩], heap := [.lp 14 8 ⟨[(4, .ptr 1 []), (0, .ptr 2 []), (0, .ptr 3 []), (3, .ptr 4 [])], 39⟩ .ready, .box (.var (.pair (.int .i64) (.pair (.int .i64) (.pair (.int .i64) .unit)))), .box (.nils), .box (.var (.int .i64)), .box (.row 5), .row 25 (.slc (.pair (.int .i64) (.pair (.slc (.int .u8)) .unit))) false, .box (.var (.slc (.int .u8))), .box (.var (.pair (.int .i64) (.pair (.int .i64) (.pair (.int .i64) .unit))))] }
@[reducible] def Jpi  : Tpl := { cur := ⟨[(0, .hnd .yield 0), (1, .ptr 6 []), (4, .var (.slc (.slc (.int .u8)))), (0, .var (.int .i64)), (0, .var (.int .i64))], 21⟩, stk := [⟨[(0, .hnd .yield 0)], 0⟩, ⟨[(1, .var (.slc (.int .u8))), (2, .ptr 1 []), (0, .ptr 2 []), (0, .ptr 3 []), (0, .ptr 7 []), (2, .ptr 4 [])], 39⟩, ⟨[], 0⟩], heap := [.lp 14 8 ⟨[(4, .ptr 1 []), (0, .ptr 2 []), (0, .ptr 3 []), (3, .ptr 4 [])], 39⟩ (.done .ret), .box (.var (.pair (.int .i64) (.pair (.int .i64) (.pair (.int .i64) .unit)))), .box (.nils), .box (.var (.int .i64)), .box (.row 5), .row 25 (.slc (.pair (.int .i64) (.pair (.slc (.int .u8)) .unit))) false, .box (.var (.slc (.int .u8))), .box (.var (.pair (.int .i64) (.pair (.int .i64) (.pair (.int .i64) .unit))))] }
def Kj1  : List (FuncId × Orc) := [(19, Kjj), (33, J5y), (70, Kit)]
def Jxv  : Book := { Γ := gam, orc := Jcg Kj1, hint := Jbq [(14, { keep := some [], keeps := [], own := [], dat := [], stk := [], rgb := [(5007, [(10, 0, 41)])] }), (69, { keep := some [0, 2, 7, 8, 9], keeps := [(1, [0, 2, 7, 8, 9])], own := [], dat := [], stk := [[0], [1, 4, 5, 6, 7, 10, 11, 12, 13, 31, 32, 34, 41]] })] }
def Kj2 (F : Nat) (nx : Jdg.T → ZO) (kq : ZK) (x : Jdg.T) : ZO := Jsr F none (fun s7 s8 s9 key s4 s6 out s2 l => nx (((), ((), (s7, (s8, (s9, ()))))), ((((), ()), ((key, ((), ((), ((), ((), ((), ())))))), ((), ()))), (((), ((), ((), ((), ())))), (s4, ((), (s6, ((), (out, (s2, (l, ()))))))))))) (fun y0 y1 y2 y3 y4 y5 y6 y7 y8 => kq .ret (Jpi.inst (((), ((), (y0, (y1, (y2, ()))))), ((((), ()), ((y3, ((), ((), ((), ((), ((), ())))))), ((), ()))), (((), ((), ((), ((), ())))), (y4, ((), (y5, ((), (y6, (y7, (y8, ())))))))))))) (fun y0 y1 y2 y3 y4 y5 y6 y7 y8 => kq (.exit 0) (Jdg.inst (((), ((), (y0, (y1, (y2, ()))))), ((((), ()), ((y3, ((), ((), ((), ((), ((), ())))))), ((), ()))), (((), ((), ((), ((), ())))), (y4, ((), (y5, ((), (y6, (y7, (y8, ())))))))))))) x.1.2.2.1 x.1.2.2.2.1 x.1.2.2.2.2.1 x.2.1.2.1.1 x.2.2.2.1 x.2.2.2.2.2.1 x.2.2.2.2.2.2.2.1 x.2.2.2.2.2.2.2.2.1 x.2.2.2.2.2.2.2.2.2.1
def Kj3 (F m : Nat) (x : Jdg.T) (kq : ZK) : ZO := Jgv F none (fun y0 y1 y2 y3 y4 y5 y6 y7 y8 => kq .ret (Jpi.inst (((), ((), (y0, (y1, (y2, ()))))), ((((), ()), ((y3, ((), ((), ((), ((), ((), ())))))), ((), ()))), (((), ((), ((), ((), ())))), (y4, ((), (y5, ((), (y6, (y7, (y8, ())))))))))))) (fun y0 y1 y2 y3 y4 y5 y6 y7 y8 => kq (.exit 0) (Jdg.inst (((), ((), (y0, (y1, (y2, ()))))), ((((), ()), ((y3, ((), ((), ((), ((), ((), ())))))), ((), ()))), (((), ((), ((), ((), ())))), (y4, ((), (y5, ((), (y6, (y7, (y8, ())))))))))))) m x.1.2.2.1 x.1.2.2.2.1 x.1.2.2.2.2.1 x.2.1.2.1.1 x.2.2.2.1 x.2.2.2.2.2.1 x.2.2.2.2.2.2.2.1 x.2.2.2.2.2.2.2.2.1 x.2.2.2.2.2.2.2.2.2.1
def Jzn (F : Nat) : List (LoE Unit) := [⟨69, 1, LO.of Jdg (Kj3 F F)⟩]
def Jrr (F : Nat) : Jcz Unit := { toBook := Jxv, lo := Jd7 (Jzn F), need := Jbr [(69, 1)] }
def Kj4 (Jep : (ZD) → Bool) (Jdt : (ZD) → (ZL)) (Jdi : (ZD) → (List ZB)) (Jdh : (ZD) → Int) (Jcp : ZB → Bool) (Jb2 : ZB → (List ZR)) (Jb1 : ZB → Int) (Jeq : ZB → Int → ZB → Bool) (Jco : ZB → Int → ZB → ZB) (Jda : ZB → Int → ZB → Int) {X : Type} (F : Nat) (fail : X) (next ex0 ex1 : List ZB → Int → Int → ZB → ZL → Int → List (List ZR) → ZB → ZL → X) (s7 : List ZB) (s8 s9 : Int) (key : ZB) (s4 : ZL) (s6 : Int) (out : List (List ZR)) (s2 : ZB) (l : ZL) : X :=
 bif (decide (s9 < s8)) then
  bif ((decide ((0 : Int) ≤ s9)) && (decide (s9 < ((s7.length : Nat) : Int)))) then
  bif (decide (((s2.length : Nat) : Int) > (0 : Int))) then
   bif (Jeq s2 (Jay s9 (1 : Int)) (List.getD s7 (s9).toNat ([] : ZB))) then
   bif ((Jda s2 (Jay s9 (1 : Int)) (List.getD s7 (s9).toNat ([] : ZB))) == (0 : Int)) then
    bif (Jcp (Jco s2 (Jay s9 (1 : Int)) (List.getD s7 (s9).toNat ([] : ZB)))) then
    bif ((Jb1 (Jco s2 (Jay s9 (1 : Int)) (List.getD s7 (s9).toNat ([] : ZB)))) != (0 : Int)) then
     ex0 s7 s8 s9 key ((0 : Int), ((0 : Int), ((0 : Int), ()))) (Jb1 (Jco s2 (Jay s9 (1 : Int)) (List.getD s7 (s9).toNat ([] : ZB)))) out s2 l
    else
    bif (decide ((out ++ ([(Jb2 (Jco s2 (Jay s9 (1 : Int)) (List.getD s7 (s9).toNat ([] : ZB))))] : List (List ZR))).length ≤ big)) then
    next s7 s8 (Jay s9 (1 : Int)) key s4 s6 (out ++ ([(Jb2 (Jco s2 (Jay s9 (1 : Int)) (List.getD s7 (s9).toNat ([] : ZB))))] : List (List ZR))) s2 l
    else fail
    else fail
   else
   bif ((Jda s2 (Jay s9 (1 : Int)) (List.getD s7 (s9).toNat ([] : ZB))) != (0 : Int)) then
    ex0 s7 s8 s9 key ((0 : Int), ((0 : Int), ((0 : Int), ()))) (Jda s2 (Jay s9 (1 : Int)) (List.getD s7 (s9).toNat ([] : ZB))) out s2 l
   else
   bif (decide ((out ++ ([([] : List ZR)] : List (List ZR))).length ≤ big)) then
   next s7 s8 (Jay s9 (1 : Int)) key s4 s6 (out ++ ([([] : List ZR)] : List (List ZR))) s2 l
   else fail
   else fail
  else
  bif (Jcp (List.getD s7 (s9).toNat ([] : ZB))) then
  bif ((Jb1 (List.getD s7 (s9).toNat ([] : ZB))) != (0 : Int)) then
   ex0 s7 s8 s9 key ((0 : Int), ((0 : Int), ((0 : Int), ()))) (Jb1 (List.getD s7 (s9).toNat ([] : ZB))) out s2 l
  else
  bif (decide ((out ++ ([(Jb2 (List.getD s7 (s9).toNat ([] : ZB)))] : List (List ZR))).length ≤ big)) then
  next s7 s8 (Jay s9 (1 : Int)) key s4 s6 (out ++ ([(Jb2 (List.getD s7 (s9).toNat ([] : ZB)))] : List (List ZR))) s2 l
  else fail
  else fail
  else fail
 else
 ex1 s7 s8 s9 key s4 s6 out s2 l
def K1f (Jep : (ZD) → Bool) (Jdt : (ZD) → (ZL)) (Jdi : (ZD) → (List ZB)) (Jdh : (ZD) → Int) (Jcp : ZB → Bool) (Jb2 : ZB → (List ZR)) (Jb1 : ZB → Int) (Jeq : ZB → Int → ZB → Bool) (Jco : ZB → Int → ZB → ZB) (Jda : ZB → Int → ZB → Int) {X : Type} (F : Nat) (d_ : ZD) (key : ZB) (fail : X) (ret : ZL → List (List ZR) → Int → X) : X :=
 bif (Jep d_) then
 bif ((Jdh d_) != (0 : Int)) then
  ret ((0 : Int), ((0 : Int), ((0 : Int), ()))) ([] : List (List ZR)) (Jdh d_)
 else
 bif (decide (((key.length : Nat) : Int) > (64 : Int))) then
  ret ((0 : Int), ((0 : Int), ((0 : Int), ()))) ([] : List (List ZR)) (1 : Int)
 else
 Jgv F fail
  (fun (s7 : List ZB) (s8 : Int) (s9 : Int) (Jpq : ZB) (s4 : ZL) (s6 : Int) (out : List (List ZR)) (s2 : ZB) (l : ZL) =>
   ret s4 ([] : List (List ZR)) s6)
  (fun (s71 : List ZB) (s81 : Int) (s91 : Int) (key2 : ZB) (s41 : ZL) (s61 : Int) (out1 : List (List ZR)) (s21 : ZB) (l1 : ZL) =>
   ret l1 out1 (0 : Int))
  F (Jdi d_) (((Jdi d_).length : Nat) : Int) (0 : Int) key ((0 : Int), ((0 : Int), ((0 : Int), ()))) (0 : Int) ([] : List (List ZR)) key (Jdt d_)
 else fail
def J7z (Jep : (ZD) → Bool) (Jdt : (ZD) → (ZL)) (Jdi : (ZD) → (List ZB)) (Jdh : (ZD) → Int) (Jcp : ZB → Bool) (Jb2 : ZB → (List ZR)) (Jb1 : ZB → Int) (Jeq : ZB → Int → ZB → Bool) (Jco : ZB → Int → ZB → ZB) (Jda : ZB → Int → ZB → Int) : List (FuncId × Orc) := [(19, Orc.of J2c false 0 fun x => (Jep x.1, [.d (.pair (.int .i64) (.pair (.int .i64) (.pair (.int .i64) .unit))) (Jdt x.1), .d (.slc (.slc (.int .u8))) (Jdi x.1), .d (.int .i64) (Jdh x.1)])), (33, Orc.of Jku false 0 fun x => (Jcp x.1, [.d (.slc (.pair (.int .i64) (.pair (.slc (.int .u8)) .unit))) (Jb2 x.1), .d (.int .i64) (Jb1 x.1)])), (70, Orc.of J2b true 1 fun x => (Jeq x.1 x.2.1 x.2.2.1, [.o 5 (.int .u8) (Jco x.1 x.2.1 x.2.2.1), .d (.int .i64) (Jda x.1 x.2.1 x.2.2.1)]))]
def J53 (Jep : (ZD) → Bool) (Jdt : (ZD) → (ZL)) (Jdi : (ZD) → (List ZB)) (Jdh : (ZD) → Int) (Jcp : ZB → Bool) (Jb2 : ZB → (List ZR)) (Jb1 : ZB → Int) (Jeq : ZB → Int → ZB → Bool) (Jco : ZB → Int → ZB → ZB) (Jda : ZB → Int → ZB → Int) : Book := { Γ := gam, orc := Jcg (J7z Jep Jdt Jdi Jdh Jcp Jb2 Jb1 Jeq Jco Jda), hint := Jbq [(14, { keep := some [], keeps := [], own := [], dat := [], stk := [], rgb := [(5007, [(10, 0, 41)])] }), (69, { keep := some [0, 2, 7, 8, 9], keeps := [(1, [0, 2, 7, 8, 9])], own := [], dat := [], stk := [[0], [1, 4, 5, 6, 7, 10, 11, 12, 13, 31, 32, 34, 41]] })] }
def Jt2 (Jep : (ZD) → Bool) (Jdt : (ZD) → (ZL)) (Jdi : (ZD) → (List ZB)) (Jdh : (ZD) → Int) (Jcp : ZB → Bool) (Jb2 : ZB → (List ZR)) (Jb1 : ZB → Int) (Jeq : ZB → Int → ZB → Bool) (Jco : ZB → Int → ZB → ZB) (Jda : ZB → Int → ZB → Int) (F : Nat) : Jcz Unit := { toBook := J53 Jep Jdt Jdi Jdh Jcp Jb2 Jb1 Jeq Jco Jda, lo := Jd7 (Jzn F), need := Jbr [(69, 1)] }
def J70 (Jep : (ZD) → Bool) (Jdt : (ZD) → (ZL)) (Jdi : (ZD) → (List ZB)) (Jdh : (ZD) → Int) (Jcp : ZB → Bool) (Jb2 : ZB → (List ZR)) (Jb1 : ZB → Int) (Jeq : ZB → Int → ZB → Bool) (Jco : ZB → Int → ZB → ZB) (Jda : ZB → Int → ZB → Int) (F : Nat) (nx : Jdg.T → ZO) (kq : ZK) (x : Jdg.T) : ZO := Kj4 Jep Jdt Jdi Jdh Jcp Jb2 Jb1 Jeq Jco Jda F none (fun s7 s8 s9 key s4 s6 out s2 l => nx (((), ((), (s7, (s8, (s9, ()))))), ((((), ()), ((key, ((), ((), ((), ((), ((), ())))))), ((), ()))), (((), ((), ((), ((), ())))), (s4, ((), (s6, ((), (out, (s2, (l, ()))))))))))) (fun y0 y1 y2 y3 y4 y5 y6 y7 y8 => kq .ret (Jpi.inst (((), ((), (y0, (y1, (y2, ()))))), ((((), ()), ((y3, ((), ((), ((), ((), ((), ())))))), ((), ()))), (((), ((), ((), ((), ())))), (y4, ((), (y5, ((), (y6, (y7, (y8, ())))))))))))) (fun y0 y1 y2 y3 y4 y5 y6 y7 y8 => kq (.exit 0) (Jdg.inst (((), ((), (y0, (y1, (y2, ()))))), ((((), ()), ((y3, ((), ((), ((), ((), ((), ())))))), ((), ()))), (((), ((), ((), ((), ())))), (y4, ((), (y5, ((), (y6, (y7, (y8, ())))))))))))) x.1.2.2.1 x.1.2.2.2.1 x.1.2.2.2.2.1 x.2.1.2.1.1 x.2.2.2.1 x.2.2.2.2.2.1 x.2.2.2.2.2.2.2.1 x.2.2.2.2.2.2.2.2.1 x.2.2.2.2.2.2.2.2.2.1
theorem Jzo (Jep : (ZD) → Bool) (Jdt : (ZD) → (ZL)) (Jdi : (ZD) → (List ZB)) (Jdh : (ZD) → Int) (Jcp : ZB → Bool) (Jb2 : ZB → (List ZR)) (Jb1 : ZB → Int) (Jeq : ZB → Int → ZB → Bool) (Jco : ZB → Int → ZB → ZB) (Jda : ZB → Int → ZB → Int) (F : Nat) : Jc4 prog (Jt2 Jep Jdt Jdi Jdh Jcp Jb2 Jb1 Jeq Jco Jda F) F 69 0 1 Jdg (J70 Jep Jdt Jdi Jdh Jcp Jb2 Jb1 Jeq Jco Jda F) := fun d x KQ => by kernel_rfl
theorem Ked (Jep : (ZD) → Bool) (Jdt : (ZD) → (ZL)) (Jdi : (ZD) → (List ZB)) (Jdh : (ZD) → Int) (Jcp : ZB → Bool) (Jb2 : ZB → (List ZR)) (Jb1 : ZB → Int) (Jeq : ZB → Int → ZB → Bool) (Jco : ZB → Int → ZB → ZB) (Jda : ZB → Int → ZB → Int) (F : Nat) (x : Jbo Jnt) (kend : List BV → ZO) : Jau prog (Jt2 Jep Jdt Jdi Jdh Jcp Jb2 Jb1 Jeq Jco Jda F) F 20 14 (Jaf Jnt x) [.d (.pair (.int .i64) (.pair (.int .i64) (.pair (.int .i64) .unit))), .d (.slc (.slc (.pair (.int .i64) (.pair (.slc (.int .u8)) .unit)))), .d (.int .i64)] kend = K1f Jep Jdt Jdi Jdh Jcp Jb2 Jb1 Jeq Jco Jda F x.1 x.2.1 none (fun y0 y1 y2 => kend [BV.d (.pair (.int .i64) (.pair (.int .i64) (.pair (.int .i64) .unit))) y0, BV.d (.slc (.slc (.pair (.int .i64) (.pair (.slc (.int .u8)) .unit)))) y1, BV.d (.int .i64) y2]) := by kernel_rfl
theorem J54 (F : Nat) : Jc4 prog (Jrr F) F 69 0 1 Jdg (Kj2 F) := Jzo Jjl Joi Jmd Jme Ji8 Jex Jey Jyl Jh1 Jjz F
theorem Kj5 (F : Nat) : Jky prog (Jrr F) F := Jb0 (l := Jzn F) rfl (fa (Jaw 0 (by kernel_rfl) (by kernel_rfl) (Jak (J54 F) (fun _ _ => rfl) (fun _ _ _ _ => rfl))) fz)
theorem Ko5 (F : Nat) (x : Jbo Jnt) (kend : List BV → ZO) : Jau prog (Jrr F) F 20 14 (Jaf Jnt x) [.d (.pair (.int .i64) (.pair (.int .i64) (.pair (.int .i64) .unit))), .d (.slc (.slc (.pair (.int .i64) (.pair (.slc (.int .u8)) .unit)))), .d (.int .i64)] kend = Klz F x.1 x.2.1 none (fun y0 y1 y2 => kend [BV.d (.pair (.int .i64) (.pair (.int .i64) (.pair (.int .i64) .unit))) y0, BV.d (.slc (.slc (.pair (.int .i64) (.pair (.slc (.int .u8)) .unit)))) y1, BV.d (.int .i64) y2]) := Ked Jjl Joi Jmd Jme Ji8 Jex Jey Jyl Jh1 Jjz F x kend
theorem J1a  : Jae prog 14 J52 := Ja4 (B0 := Jxv) bkN bkG Jaz bkT Ko5 (Jad (fa J7r (fa J09 (fa J7h fz)))) (by kernel_rfl) (fun _ => rfl) Kj5 (fun x h => (Kc5 x.1 x.2.1 h).elim fun F hF => ⟨F, fun kend => hF none _⟩)
end Go.AI
namespace Go.AI
open Go
open Go.Proofs.Tryz (prog)
set_option linter.unusedVariables false
@[reducible] def Ko6  : List PM := [.d (.slc (.pair (.int .i64) (.pair (.slc (.int .u8)) .unit)))]
def Krw  : Orc := Orc.of Ko6 true 0 fun x => (Kqc x.1, [.d .bool (J8u x.1)])
@[reducible] def Jia  : Tpl := { cur := ⟨[(0, .var (.slc (.pair (.int .i64) (.pair (.slc (.int .u8)) .unit)))), (1, .var .bool), (0, .var (.int .i64))], 20⟩, stk := [⟨[], 0⟩], heap := [] }
def K1g  : List (FuncId × Orc) := []
def J94  : Book := { Γ := gam, orc := Jcg K1g, hint := Jbq [(8, { keep := some [0, 2, 3], keeps := [(2, [0, 2, 3])], own := [], dat := [], stk := [] })] }
def K1h (F : Nat) (nx : Jia.T → ZO) (kq : ZK) (x : Jia.T) : ZO := Kbx F none (fun l s2 i => nx ((l, (s2, (i, ()))), (((), ()), ()))) (fun y0 y1 y2 => kq .ret (Jia.inst ((y0, (y1, (y2, ()))), (((), ()), ())))) (fun y0 y1 y2 => kq (.exit 0) (Jia.inst ((y0, (y1, (y2, ()))), (((), ()), ())))) x.1.1 x.1.2.1 x.1.2.2.1
def K1i (F m : Nat) (x : Jia.T) (kq : ZK) : ZO := Jsq F none (fun y0 y1 y2 => kq .ret (Jia.inst ((y0, (y1, (y2, ()))), (((), ()), ())))) (fun y0 y1 y2 => kq (.exit 0) (Jia.inst ((y0, (y1, (y2, ()))), (((), ()), ())))) m x.1.1 x.1.2.1 x.1.2.2.1
def K1j (F : Nat) : List (LoE Unit) := [⟨8, 2, LO.of Jia (K1i F F)⟩]
def J55 (F : Nat) : Jcz Unit := { toBook := J94, lo := Jd7 (K1j F), need := Jbr [] }
theorem Kj6 (F : Nat) : Jc4 prog (J55 F) F 8 0 2 Jia (K1h F) := fun d x KQ => by kernel_rfl
theorem K1k (F : Nat) : Jky prog (J55 F) F := Jb0 (l := K1j F) rfl (fa (Jaw 0 (by kernel_rfl) (by kernel_rfl) (Jak (Kj6 F) (fun _ _ => rfl) (fun _ _ _ _ => rfl))) fz)
theorem K4p (F : Nat) (x : Jbo Ko6) (kend : List BV → ZO) : Jau prog (J55 F) F 20 8 (Jaf Ko6 x) [.d .bool] kend = uFew F x.1 none (fun y0 => kend [BV.d .bool y0]) := by kernel_rfl
theorem Kee  : Jae prog 8 Krw := Ja4 (B0 := J94) bkN bkG Jaz bkT K4p (Jad fz) (by kernel_rfl) (fun _ => rfl) K1k (fun x h => (Ktp x.1 h).elim fun F hF => ⟨F, fun kend => hF none _⟩)
@[reducible] def Kef  : List PM := [.d (.slc (.pair (.int .i64) (.pair (.slc (.int .u8)) .unit))), .d (.slc (.pair (.int .i64) (.pair (.slc (.int .u8)) .unit)))]
def Kj7  : Orc := Orc.of Kef true 0 fun x => (Kbf x.1 x.2.1, [.d .bool (J3o x.1 x.2.1)])
@[reducible] def Jgf  : Tpl := { cur := ⟨[(0, .var (.slc (.pair (.int .i64) (.pair (.slc (.int .u8)) .unit)))), (0, .var (.slc (.pair (.int .i64) (.pair (.slc (.int .u8)) .unit)))), (2, .var .bool), (0, .var (.int .i64))], 37⟩, stk := [⟨[], 0⟩], heap := [] }
def Kur  : List (FuncId × Orc) := []
def J56  : Book := { Γ := gam, orc := Jcg Kur, hint := Jbq [(36, { keep := some [0, 1, 4, 5], keeps := [(4, [0, 1, 4, 5])], own := [], dat := [], stk := [] })] }
def Kus (F : Nat) (nx : Jgf.T → ZO) (kq : ZK) (x : Jgf.T) : ZO := J12 F none (fun a b s4 i => nx ((a, (b, (s4, (i, ())))), (((), ()), ()))) (fun y0 y1 y2 y3 => kq .ret (Jgf.inst ((y0, (y1, (y2, (y3, ())))), (((), ()), ())))) (fun y0 y1 y2 y3 => kq (.exit 0) (Jgf.inst ((y0, (y1, (y2, (y3, ())))), (((), ()), ())))) x.1.1 x.1.2.1 x.1.2.2.1 x.1.2.2.2.1
def Kut (F m : Nat) (x : Jgf.T) (kq : ZK) : ZO := Jnh F none (fun y0 y1 y2 y3 => kq .ret (Jgf.inst ((y0, (y1, (y2, (y3, ())))), (((), ()), ())))) (fun y0 y1 y2 y3 => kq (.exit 0) (Jgf.inst ((y0, (y1, (y2, (y3, ())))), (((), ()), ())))) m x.1.1 x.1.2.1 x.1.2.2.1 x.1.2.2.2.1
def Krx (F : Nat) : List (LoE Unit) := [⟨36, 4, LO.of Jgf (Kut F F)⟩]
def Jzp (F : Nat) : Jcz Unit := { toBook := J56, lo := Jd7 (Krx F), need := Jbr [] }
theorem Keg (F : Nat) : Jc4 prog (Jzp F) F 36 0 4 Jgf (Kus F) := fun d x KQ => by kernel_rfl
theorem Kuu (F : Nat) : Jky prog (Jzp F) F := Jb0 (l := Krx F) rfl (fa (Jaw 0 (by kernel_rfl) (by kernel_rfl) (Jak (Keg F) (fun _ _ => rfl) (fun _ _ _ _ => rfl))) fz)
theorem K1l (F : Nat) (x : Jbo Kef) (kend : List BV → ZO) : Jau prog (Jzp F) F 20 36 (Jaf Kef x) [.d .bool] kend = K7b F x.1 x.2.1 none (fun y0 => kend [BV.d .bool y0]) := by kernel_rfl
theorem J71  : Jae prog 36 Kj7 := Ja4 (B0 := J56) bkN bkG Jaz bkT K1l (Jad fz) (by kernel_rfl) (fun _ => rfl) Kuu (fun x h => (Kmw x.1 x.2.1 h).elim fun F hF => ⟨F, fun kend => hF none _⟩)
@[reducible] def Jvg  : List PM := [.d (.slc (.slc (.pair (.int .i64) (.pair (.slc (.int .u8)) .unit)))), .d (.slc (.slc (.pair (.int .i64) (.pair (.slc (.int .u8)) .unit))))]
def J0n  : Orc := Orc.of Jvg true 0 fun x => (Jm6 x.1 x.2.1, [.d .bool (Jin x.1 x.2.1)])
@[reducible] def Jdx  : Tpl := { cur := ⟨[(0, .var (.slc (.slc (.pair (.int .i64) (.pair (.slc (.int .u8)) .unit))))), (0, .var (.slc (.slc (.pair (.int .i64) (.pair (.slc (.int .u8)) .unit))))), (2, .var .bool), (0, .var (.int .i64))], 21⟩, stk := [⟨[], 0⟩], heap := [] }
def Keh  : List (FuncId × Orc) := [(36, Kj7)]
def Jt3  : Book := { Γ := gam, orc := Jcg Keh, hint := Jbq [(16, { keep := some [0, 1, 4, 5], keeps := [(4, [0, 1, 4, 5])], own := [], dat := [], stk := [] })] }
def Kei (F : Nat) (nx : Jdx.T → ZO) (kq : ZK) (x : Jdx.T) : ZO := Jov F none (fun a b s4 i => nx ((a, (b, (s4, (i, ())))), (((), ()), ()))) (fun y0 y1 y2 y3 => kq .ret (Jdx.inst ((y0, (y1, (y2, (y3, ())))), (((), ()), ())))) (fun y0 y1 y2 y3 => kq (.exit 0) (Jdx.inst ((y0, (y1, (y2, (y3, ())))), (((), ()), ())))) x.1.1 x.1.2.1 x.1.2.2.1 x.1.2.2.2.1
def Kej (F m : Nat) (x : Jdx.T) (kq : ZK) : ZO := Jhm F none (fun y0 y1 y2 y3 => kq .ret (Jdx.inst ((y0, (y1, (y2, (y3, ())))), (((), ()), ())))) (fun y0 y1 y2 y3 => kq (.exit 0) (Jdx.inst ((y0, (y1, (y2, (y3, ())))), (((), ()), ())))) m x.1.1 x.1.2.1 x.1.2.2.1 x.1.2.2.2.1
def J57 (F : Nat) : List (LoE Unit) := [⟨16, 4, LO.of Jdx (Kej F F)⟩]
def Jpj (F : Nat) : Jcz Unit := { toBook := Jt3, lo := Jd7 (J57 F), need := Jbr [] }
theorem J1b (F : Nat) : Jc4 prog (Jpj F) F 16 0 4 Jdx (Kei F) := fun d x KQ => by kernel_rfl
theorem Kek (F : Nat) : Jky prog (Jpj F) F := Jb0 (l := J57 F) rfl (fa (Jaw 0 (by kernel_rfl) (by kernel_rfl) (Jak (J1b F) (fun _ _ => rfl) (fun _ _ _ _ => rfl))) fz)
theorem Kj8 (F : Nat) (x : Jbo Jvg) (kend : List BV → ZO) : Jau prog (Jpj F) F 20 16 (Jaf Jvg x) [.d .bool] kend = Kby F x.1 x.2.1 none (fun y0 => kend [BV.d .bool y0]) := by kernel_rfl
theorem Jzq  : Jae prog 16 J0n := Ja4 (B0 := Jt3) bkN bkG Jaz bkT Kj8 (Jad (fa J71 fz)) (by kernel_rfl) (fun _ => rfl) Kek (fun x h => (J6z x.1 x.2.1 h).elim fun F hF => ⟨F, fun kend => hF none _⟩)
end Go.AI
namespace Go.AI
open Go
open Go.Proofs.Tryz (prog)
set_option linter.unusedVariables false
@[reducible] def Ko7  : List PM := [.d (.slc (.slc (.pair (.int .i64) (.pair (.slc (.int .u8)) .unit)))), .d (.slc (.int .u8))]
def Kry  : Orc := Orc.of Ko7 true 0 fun x => (Kxa x.1 x.2.1, [.d .bool (Kqf x.1 x.2.1)])
@[reducible] def Jl0  : Tpl := { cur := ⟨[(0, .var (.slc (.slc (.pair (.int .i64) (.pair (.slc (.int .u8)) .unit))))), (0, .var (.slc (.int .u8))), (2, .var .bool), (0, .var (.int .i64)), (0, .var (.int .i64)), (0, .var (.int .i64))], 57⟩, stk := [⟨[], 0⟩], heap := [] }
@[reducible] def Jib  : Tpl := { cur := ⟨[(0, .var (.slc (.slc (.pair (.int .i64) (.pair (.slc (.int .u8)) .unit))))), (0, .var (.slc (.int .u8))), (2, .var .bool), (0, .var (.int .i64)), (0, .var (.int .i64))], 58⟩, stk := [⟨[], 0⟩], heap := [] }
def K1m  : List (FuncId × Orc) := [(8, Krw), (37, Jzh)]
def J95  : Book := { Γ := gam, orc := Jcg K1m, hint := Jbq [(17, { keep := some [0, 1, 4, 5, 6, 7], keeps := [(3, [0, 1, 4, 5, 6]), (8, [0, 1, 4, 5, 6, 7])], own := [], dat := [], stk := [] })] }
def K1n (F : Nat) (nx : Jl0.T → ZO) (kq : ZK) (x : Jl0.T) : ZO := Kbz F none (fun l key s4 n i k => nx ((l, (key, (s4, (n, (i, (k, ())))))), (((), ()), ()))) (fun y0 y1 y2 y3 y4 y5 => kq (.exit 2) (Jl0.inst ((y0, (y1, (y2, (y3, (y4, (y5, ())))))), (((), ()), ())))) x.1.1 x.1.2.1 x.1.2.2.1 x.1.2.2.2.1 x.1.2.2.2.2.1 x.1.2.2.2.2.2.1
def K1o (F m : Nat) (x : Jl0.T) (kq : ZK) : ZO := Jow F none (fun y0 y1 y2 y3 y4 y5 => kq (.exit 2) (Jl0.inst ((y0, (y1, (y2, (y3, (y4, (y5, ())))))), (((), ()), ())))) m x.1.1 x.1.2.1 x.1.2.2.1 x.1.2.2.2.1 x.1.2.2.2.2.1 x.1.2.2.2.2.2.1
def K1p (F : Nat) (nx : Jib.T → ZO) (kq : ZK) (x : Jib.T) : ZO := Kb0 F none (fun l key s4 n i => nx ((l, (key, (s4, (n, (i, ()))))), (((), ()), ()))) (fun y0 y1 y2 y3 y4 => kq .ret (Jib.inst ((y0, (y1, (y2, (y3, (y4, ()))))), (((), ()), ())))) (fun y0 y1 y2 y3 y4 => kq (.exit 0) (Jib.inst ((y0, (y1, (y2, (y3, (y4, ()))))), (((), ()), ())))) x.1.1 x.1.2.1 x.1.2.2.1 x.1.2.2.2.1 x.1.2.2.2.2.1
def K1q (F m : Nat) (x : Jib.T) (kq : ZK) : ZO := Jox F none (fun y0 y1 y2 y3 y4 => kq .ret (Jib.inst ((y0, (y1, (y2, (y3, (y4, ()))))), (((), ()), ())))) (fun y0 y1 y2 y3 y4 => kq (.exit 0) (Jib.inst ((y0, (y1, (y2, (y3, (y4, ()))))), (((), ()), ())))) m x.1.1 x.1.2.1 x.1.2.2.1 x.1.2.2.2.1 x.1.2.2.2.2.1
def K1r (F : Nat) : List (LoE Unit) := [⟨17, 8, LO.of Jl0 (K1o F F)⟩,
 ⟨17, 3, LO.of Jib (K1q F F)⟩]
def Jxw (F : Nat) : Jcz Unit := { toBook := J95, lo := Jd7 (K1r F), need := Jbr [] }
theorem Kj9 (F : Nat) : Jc4 prog (Jxw F) F 17 1 8 Jl0 (K1n F) := fun d x KQ => by kernel_rfl
theorem Kka (F : Nat) : Jc4 prog (Jxw F) F 17 0 3 Jib (K1p F) := fun d x KQ => by kernel_rfl
theorem K1s (F : Nat) : Jky prog (Jxw F) F := Jb0 (l := K1r F) rfl (fa (Jaw 1 (by kernel_rfl) (by kernel_rfl) (Jak (Kj9 F) (fun _ _ => rfl) (fun _ _ _ _ => rfl))) (fa (Jaw 0 (by kernel_rfl) (by kernel_rfl) (Jak (Kka F) (fun _ _ => rfl) (fun _ _ _ _ => rfl))) fz))
theorem K4q (F : Nat) (x : Jbo Ko7) (kend : List BV → ZO) : Jau prog (Jxw F) F 20 17 (Jaf Ko7 x) [.d .bool] kend = tfew F x.1 x.2.1 none (fun y0 => kend [BV.d .bool y0]) := by kernel_rfl
theorem Kel  : Jae prog 17 Kry := Ja4 (B0 := J95) bkN bkG Jaz bkT K4q (Jad (fa Kee (fa Jrl fz))) (by kernel_rfl) (fun _ => rfl) K1s (fun x h => (Ktu x.1 x.2.1 h).elim fun F hF => ⟨F, fun kend => hF none _⟩)
@[reducible] def J58  : List PM := []
def J96  : Orc := Orc.of J58 false 0 fun x => (J1x, [.d (.pair (.slc (.arr 16 (.int .u8))) (.pair (.slc (.pair (.int .i64) (.pair (.arr 16 (.int .u8)) .unit))) .unit)) (Jqv), .d (.pair (.int .i64) (.pair (.int .i64) (.pair (.int .i64) .unit))) (Jm9), .d .bool (J3p)])
def J59  : List (FuncId × Orc) := [(22, Jxl), (83, J5r), (84, Krr)]
theorem Kuv (F : Nat) (x : Jbo J58) (kend : List BV → ZO) : Jau prog (bkZ J59) F 20 38 (Jaf J58 x) [.d (.pair (.slc (.arr 16 (.int .u8))) (.pair (.slc (.pair (.int .i64) (.pair (.arr 16 (.int .u8)) .unit))) .unit)), .d (.pair (.int .i64) (.pair (.int .i64) (.pair (.int .i64) .unit))), .d .bool] kend = Kxq F  none (fun y0 y1 y2 => kend [BV.d (.pair (.slc (.arr 16 (.int .u8))) (.pair (.slc (.pair (.int .i64) (.pair (.arr 16 (.int .u8)) .unit))) .unit)) y0, BV.d (.pair (.int .i64) (.pair (.int .i64) (.pair (.int .i64) .unit))) y1, BV.d .bool y2]) := by kernel_rfl
theorem J6a  : Jae prog 38 J96 := Ja4 (B0 := bkY J59) bkN bkG Jaz bkT Kuv (Jad (fa Jkf (fa J07 (fa Kdw fz)))) (by kernel_rfl) (fun _ => rfl) (bkO _) (fun x h => (Kho  h).elim fun F hF => ⟨F, fun kend => hF none _⟩)
@[reducible] def Jpk  : List PM := [.d (.slc (.slc (.pair (.int .i64) (.pair (.slc (.int .u8)) .unit)))), .d (.slc (.int .u8))]
def Jt4  : Orc := Orc.of Jpk false 0 fun x => (Jqw x.1 x.2.1, [.d (.pair (.slc (.arr 16 (.int .u8))) (.pair (.slc (.pair (.int .i64) (.pair (.arr 16 (.int .u8)) .unit))) .unit)) (Je6 x.1 x.2.1), .d (.pair (.int .i64) (.pair (.int .i64) (.pair (.int .i64) .unit))) (Jan x.1 x.2.1), .d .bool (Jok x.1 x.2.1)])
@[reducible] def Jd1  : Tpl := { cur := ⟨[(0, .var (.slc (.slc (.pair (.int .i64) (.pair (.slc (.int .u8)) .unit))))), (0, .var (.slc (.int .u8))), (2, .ptr 0 []), (0, .ptr 1 []), (1, .ptr 2 []), (0, .ptr 3 []), (0, .var .bool), (0, .var (.int .i64))], 49⟩, stk := [⟨[], 0⟩], heap := [.box (.var (.pair (.slc (.arr 16 (.int .u8))) (.pair (.slc (.pair (.int .i64) (.pair (.arr 16 (.int .u8)) .unit))) .unit))), .box (.var (.pair (.int .i64) (.pair (.int .i64) (.pair (.int .i64) .unit)))), .box (.var (.pair (.slc (.arr 16 (.int .u8))) (.pair (.slc (.pair (.int .i64) (.pair (.arr 16 (.int .u8)) .unit))) .unit))), .box (.var (.pair (.int .i64) (.pair (.int .i64) (.pair (.int .i64) .unit))))] }
def J6b  : List (FuncId × Orc) := [(10, Jph), (22, Jxl), (38, J96)]
def Jp3  : Book := { Γ := gam, orc := Jcg J6b, hint := Jbq [(18, { keep := some [0, 1, 4, 5, 7, 8, 9, 10], keeps := [(3, [0, 1, 4, 5, 7, 8, 9, 10])], own := [], dat := [], stk := [] })] }
def J6c (F : Nat) (nx : Jd1.T → ZO) (kq : ZK) (x : Jd1.T) : ZO := Jka F none (fun l key ok i s4 s5 d_ x_ => nx ((l, (key, ((), ((), ((), ((), (ok, (i, ())))))))), (((), ()), (s4, (s5, (d_, (x_, ()))))))) (fun y0 y1 y2 y3 y4 y5 y6 y7 => kq (.exit 0) (Jd1.inst ((y0, (y1, ((), ((), ((), ((), (y2, (y3, ())))))))), (((), ()), (y4, (y5, (y6, (y7, ())))))))) x.1.1 x.1.2.1 x.1.2.2.2.2.2.2.1 x.1.2.2.2.2.2.2.2.1 x.2.2.1 x.2.2.2.1 x.2.2.2.2.1 x.2.2.2.2.2.1
def J6d (F m : Nat) (x : Jd1.T) (kq : ZK) : ZO := Jfj F none (fun y0 y1 y2 y3 y4 y5 y6 y7 => kq (.exit 0) (Jd1.inst ((y0, (y1, ((), ((), ((), ((), (y2, (y3, ())))))))), (((), ()), (y4, (y5, (y6, (y7, ())))))))) m x.1.1 x.1.2.1 x.1.2.2.2.2.2.2.1 x.1.2.2.2.2.2.2.2.1 x.2.2.1 x.2.2.2.1 x.2.2.2.2.1 x.2.2.2.2.2.1
def Jxx (F : Nat) : List (LoE Unit) := [⟨18, 3, LO.of Jd1 (J6d F F)⟩]
def Jl1 (F : Nat) : Jcz Unit := { toBook := Jp3, lo := Jd7 (Jxx F), need := Jbr [] }
theorem Jxy (F : Nat) : Jc4 prog (Jl1 F) F 18 0 3 Jd1 (J6c F) := fun d x KQ => by kernel_rfl
theorem J6e (F : Nat) : Jky prog (Jl1 F) F := Jb0 (l := Jxx F) rfl (fa (Jaw 0 (by kernel_rfl) (by kernel_rfl) (Jak (Jxy F) (fun _ _ => rfl) (fun _ _ _ _ => rfl))) fz)
theorem J72 (F : Nat) (x : Jbo Jpk) (kend : List BV → ZO) : Jau prog (Jl1 F) F 20 18 (Jaf Jpk x) [.d (.pair (.slc (.arr 16 (.int .u8))) (.pair (.slc (.pair (.int .i64) (.pair (.arr 16 (.int .u8)) .unit))) .unit)), .d (.pair (.int .i64) (.pair (.int .i64) (.pair (.int .i64) .unit))), .d .bool] kend = Jyu F x.1 x.2.1 none (fun y0 y1 y2 => kend [BV.d (.pair (.slc (.arr 16 (.int .u8))) (.pair (.slc (.pair (.int .i64) (.pair (.arr 16 (.int .u8)) .unit))) .unit)) y0, BV.d (.pair (.int .i64) (.pair (.int .i64) (.pair (.int .i64) .unit))) y1, BV.d .bool y2]) := by kernel_rfl
theorem Jvh  : Jae prog 18 Jt4 := Ja4 (B0 := Jp3) bkN bkG Jaz bkT J72 (Jad (fa Jjp (fa Jkf (fa J6a fz)))) (by kernel_rfl) (fun _ => rfl) J6e (fun x h => (J0z x.1 x.2.1 h).elim fun F hF => ⟨F, fun kend => hF none _⟩)
end Go.AI
namespace Go.AI
open Go
open Go.Proofs.Tryz (prog)
set_option linter.unusedVariables false
@[reducible] def Jfl  : List PM := [.d (.slc (.slc (.pair (.int .i64) (.pair (.slc (.int .u8)) .unit)))), .d (.slc (.int .u8)), .d (.pair (.int .u8) (.pair (.slc (.int .i64)) .unit))]
def Jpl  : Orc := Orc.of Jfl true 0 fun x => (TransactionSurvives_P x.1 x.2.1 x.2.2.1, [.d .bool (TransactionSurvives_r x.1 x.2.1 x.2.2.1)])
def Jhp  : List (FuncId × Orc) := [(9, Jrq), (10, Jph), (14, J52), (16, J0n), (17, Kry), (18, Jt4), (21, Jtw), (22, Jxl)]
theorem Jpm (F : Nat) (x : Jbo Jfl) (kend : List BV → ZO) : Jau prog (bkZ Jhp) F 20 7 (Jaf Jfl x) [.d .bool] kend = TransactionSurvives F x.1 x.2.1 x.2.2.1 none (fun y0 => kend [BV.d .bool y0]) := by kernel_rfl
theorem TransactionSurvives_contract  : Jae prog 7 Jpl := Ja4 (B0 := bkY Jhp) bkN bkG Jaz bkT Jpm (Jad (fa Jtc (fa Jjp (fa J1a (fa Jzq (fa Kel (fa Jvh (fa Jvb (fa Jkf fz))))))))) (by kernel_rfl) (fun _ => rfl) (bkO _) (fun x h => (Jmp x.1 x.2.1 x.2.2.1 h).elim fun F hF => ⟨F, fun kend => hF none _⟩)
end Go.AI
namespace Go.AI
open Go
abbrev raS : Sch := .slc (.slc (.pair (.int .i64) (.pair (.slc (.int .u8)) .unit)))
abbrev brS : Sch := .pair (.int .u8) (.pair (.slc (.int .i64)) .unit)
theorem TransactionSurvives_wf (x : LawT [raS, .slc (.int .u8), brS]) (_ : WfArgs [raS, .slc (.int .u8), brS] x) : TransactionSurvives_P x.1 x.2.1 x.2.2.1 = true := rfl
end Go.AI
